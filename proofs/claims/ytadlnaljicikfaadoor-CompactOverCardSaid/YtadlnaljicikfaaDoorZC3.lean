/- A part of the proof: a calculus over values, and contracts of functions. No condition. -/
import Derived.Test.YtadlnaljicikfaaDoorZC2
import Derived.Test.YtadlnaljicikfaaDoorProg
import Derived.Lib.DecodeN
set_option linter.unusedVariables false
set_option linter.unusedSimpArgs false
namespace Go.Proofs.YtadlnaljicikfaaDoor.aB
open Go
set_option maxRecDepth 100000
theorem akw:iR Tryd.prog 0 = some (false,1):=by rfl
theorem Wq:kindOf Tryd.prog 0 = some TK.other:=by rfl
theorem amJ:ti Tryd.prog 1 = some (some Value.nilFunc,1,8):=by rfl
theorem akx:iR Tryd.prog 1 = some (false,1):=by rfl
theorem Ws:kindOf Tryd.prog 1 = some TK.other:=by rfl
theorem amK:ti Tryd.prog 2 = some (some (Value.int IntKind.i64 0),1,8):=by rfl
theorem aky:iR Tryd.prog 2 = some (false,1):=by rfl
theorem Wu:kindOf Tryd.prog 2 = some (TK.int IntKind.i64):=by rfl
theorem amL:ti Tryd.prog 3 = some (some (Value.int IntKind.i64 0),1,8):=by rfl
theorem akz:iR Tryd.prog 3 = some (false,1):=by rfl
theorem Wv:kindOf Tryd.prog 3 = some (TK.int IntKind.i64):=by rfl
theorem amM:ti Tryd.prog 4 = some (some (Value.bool false),1,1):=by rfl
theorem akA:iR Tryd.prog 4 = some (false,1):=by rfl
theorem Wx:kindOf Tryd.prog 4 = some TK.bool:=by rfl
theorem amN:ti Tryd.prog 5 = some (some (Value.int IntKind.u8 0),1,1):=by rfl
theorem akB:iR Tryd.prog 5 = some (false,1):=by rfl
theorem Wy:kindOf Tryd.prog 5 = some (TK.int IntKind.u8):=by rfl
theorem amO:ti Tryd.prog 9 = some (some (Value.string (⟨#[]⟩:ByteArray)),1,16):=by rfl
theorem akC:iR Tryd.prog 9 = some (false,1):=by rfl
theorem WA:kindOf Tryd.prog 9 = some TK.str:=by rfl
theorem akD:ti Tryd.prog 12 = some (some (Value.int IntKind.u64 0),1,8):=by rfl
theorem ahq:iR Tryd.prog 12 = some (false,1):=by rfl
theorem S9:kindOf Tryd.prog 12 = some (TK.int IntKind.u64):=by rfl
theorem akE:ti Tryd.prog 20 = some (some Value.nilIface,1,16):=by rfl
theorem ahr:iR Tryd.prog 20 = some (false,1):=by rfl
theorem Tc:kindOf Tryd.prog 20 = some TK.other:=by rfl
theorem akF:ti Tryd.prog 21 = some (some (Value.int IntKind.i32 0),1,4):=by rfl
theorem ahs:iR Tryd.prog 21 = some (false,1):=by rfl
theorem Td:kindOf Tryd.prog 21 = some (TK.int IntKind.i32):=by rfl
theorem akG:ti Tryd.prog 22 = some (some (Value.slice none 0 0),1,24):=by rfl
theorem aht:iR Tryd.prog 22 = some (false,1):=by rfl
theorem ahu:sle Tryd.prog 22 = some (23,some (Value.slice none 0 0),1,24):=by rfl
theorem Tf:kindOf Tryd.prog 22 = some (TK.sl 23):=by rfl
theorem akH:ti Tryd.prog 23 = some (some (Value.slice none 0 0),1,24):=by rfl
theorem ahv:iR Tryd.prog 23 = some (false,1):=by rfl
theorem ahw:sle Tryd.prog 23 = some (35,some (Value.agg #[Value.int IntKind.i64 0,Value.int IntKind.i64 0,Value.string (⟨#[]⟩:ByteArray)]),3,32):=by rfl
theorem Ti:kindOf Tryd.prog 23 = some (TK.sl 35):=by rfl
theorem akI:ti Tryd.prog 24 = some (some Value.nilFunc,1,8):=by rfl
theorem ahx:iR Tryd.prog 24 = some (false,1):=by rfl
theorem Tj:kindOf Tryd.prog 24 = some TK.other:=by rfl
theorem akJ:ti Tryd.prog 25 = some (some (Value.slice none 0 0),1,24):=by rfl
theorem ahy:iR Tryd.prog 25 = some (false,1):=by rfl
theorem ahz:sle Tryd.prog 25 = some (3,some (Value.int IntKind.i64 0),1,8):=by rfl
theorem Tm:kindOf Tryd.prog 25 = some (TK.sl 3):=by rfl
theorem akK:ti Tryd.prog 26 = some (some (Value.agg #[Value.string (⟨#[]⟩:ByteArray),Value.slice none 0 0,Value.slice none 0 0]),3,64):=by rfl
theorem ahA:iR Tryd.prog 26 = some (true,3):=by rfl
theorem ahB:lay Tryd.prog 26 = some ([AV.v (Value.string (⟨#[]⟩:ByteArray)),AV.v (Value.slice none 0 0),AV.v (Value.slice none 0 0)],[(0,1),(1,1),(2,1)]):=by rfl
theorem Tn:kindOf Tryd.prog 26 = some TK.other:=by rfl
theorem WB:jk Tryd.prog 26 0 = some (0,9,1):=by rfl
theorem WC:jk Tryd.prog 26 1 = some (1,25,1):=by rfl
theorem WE:jk Tryd.prog 26 2 = some (2,22,1):=by rfl
theorem akL:ti Tryd.prog 27 = some (some (Value.agg #[Value.string (⟨#[]⟩:ByteArray),Value.slice none 0 0,Value.slice none 0 0]),3,64):=by rfl
theorem ahC:iR Tryd.prog 27 = some (true,3):=by rfl
theorem ahD:lay Tryd.prog 27 = some ([AV.v (Value.string (⟨#[]⟩:ByteArray)),AV.v (Value.slice none 0 0),AV.v (Value.slice none 0 0)],[(0,1),(1,1),(2,1)]):=by rfl
theorem Tq:kindOf Tryd.prog 27 = some TK.other:=by rfl
theorem WG:jk Tryd.prog 27 0 = some (0,9,1):=by rfl
theorem WH:jk Tryd.prog 27 1 = some (1,25,1):=by rfl
theorem WI:jk Tryd.prog 27 2 = some (2,22,1):=by rfl
theorem akM:ti Tryd.prog 29 = some (some (Value.pointer none),1,8):=by rfl
theorem ahE:iR Tryd.prog 29 = some (false,1):=by rfl
theorem Tt:kindOf Tryd.prog 29 = some TK.ptr:=by rfl
theorem akN:ti Tryd.prog 30 = some (some (Value.int IntKind.i64 0),1,8):=by rfl
theorem ahF:iR Tryd.prog 30 = some (false,1):=by rfl
theorem Tv:kindOf Tryd.prog 30 = some (TK.int IntKind.i64):=by rfl
theorem akO:ti Tryd.prog 34 = some (some (Value.agg #[Value.int IntKind.i64 0,Value.int IntKind.i64 0,Value.string (⟨#[]⟩:ByteArray)]),3,32):=by rfl
theorem ahG:iR Tryd.prog 34 = some (true,3):=by rfl
theorem ahH:lay Tryd.prog 34 = some ([AV.v (Value.int IntKind.i64 0),AV.v (Value.int IntKind.i64 0),AV.v (Value.string (⟨#[]⟩:ByteArray))],[(0,1),(1,1),(2,1)]):=by rfl
theorem Tz:kindOf Tryd.prog 34 = some TK.other:=by rfl
theorem WJ:jk Tryd.prog 34 0 = some (0,3,1):=by rfl
theorem WL:jk Tryd.prog 34 1 = some (1,3,1):=by rfl
theorem WM:jk Tryd.prog 34 2 = some (2,9,1):=by rfl
theorem akP:ti Tryd.prog 35 = some (some (Value.agg #[Value.int IntKind.i64 0,Value.int IntKind.i64 0,Value.string (⟨#[]⟩:ByteArray)]),3,32):=by rfl
theorem ahI:iR Tryd.prog 35 = some (true,3):=by rfl
theorem ahJ:lay Tryd.prog 35 = some ([AV.v (Value.int IntKind.i64 0),AV.v (Value.int IntKind.i64 0),AV.v (Value.string (⟨#[]⟩:ByteArray))],[(0,1),(1,1),(2,1)]):=by rfl
theorem TA:kindOf Tryd.prog 35 = some TK.other:=by rfl
theorem WO:jk Tryd.prog 35 0 = some (0,3,1):=by rfl
theorem WQ:jk Tryd.prog 35 1 = some (1,3,1):=by rfl
theorem WR:jk Tryd.prog 35 2 = some (2,9,1):=by rfl
theorem akQ:ti Tryd.prog 36 = some (some Value.nilFunc,1,8):=by rfl
theorem ahK:iR Tryd.prog 36 = some (false,1):=by rfl
theorem TB:kindOf Tryd.prog 36 = some TK.other:=by rfl
theorem akR:ti Tryd.prog 40 = some (some Value.nilFunc,1,8):=by rfl
theorem ahL:iR Tryd.prog 40 = some (false,1):=by rfl
theorem TD:kindOf Tryd.prog 40 = some TK.other:=by rfl
theorem akS:ti Tryd.prog 41 = some (some (Value.agg #[Value.slice none 0 0,Value.slice none 0 0]),2,48):=by rfl
theorem ahM:iR Tryd.prog 41 = some (true,2):=by rfl
theorem ahN:lay Tryd.prog 41 = some ([AV.v (Value.slice none 0 0),AV.v (Value.slice none 0 0)],[(0,1),(1,1)]):=by rfl
theorem TF:kindOf Tryd.prog 41 = some TK.other:=by rfl
theorem WS:jk Tryd.prog 41 0 = some (0,22,1):=by rfl
theorem WT:jk Tryd.prog 41 1 = some (1,25,1):=by rfl
theorem akT:ti Tryd.prog 42 = some (some (Value.agg #[Value.slice none 0 0,Value.slice none 0 0]),2,48):=by rfl
theorem ahO:iR Tryd.prog 42 = some (true,2):=by rfl
theorem ahP:lay Tryd.prog 42 = some ([AV.v (Value.slice none 0 0),AV.v (Value.slice none 0 0)],[(0,1),(1,1)]):=by rfl
theorem TG:kindOf Tryd.prog 42 = some TK.other:=by rfl
theorem WU:jk Tryd.prog 42 0 = some (0,22,1):=by rfl
theorem WV:jk Tryd.prog 42 1 = some (1,25,1):=by rfl
theorem akU:ti Tryd.prog 43 = some (some (Value.agg #[Value.slice none 0 0,Value.slice none 0 0,Value.string (⟨#[]⟩:ByteArray)]),3,64):=by rfl
theorem ahQ:iR Tryd.prog 43 = some (true,3):=by rfl
theorem ahR:lay Tryd.prog 43 = some ([AV.v (Value.slice none 0 0),AV.v (Value.slice none 0 0),AV.v (Value.string (⟨#[]⟩:ByteArray))],[(0,2),(2,1)]):=by rfl
theorem TJ:kindOf Tryd.prog 43 = some TK.other:=by rfl
theorem WW:jk Tryd.prog 43 0 = some (0,42,2):=by rfl
theorem WX:jk Tryd.prog 43 1 = some (2,9,1):=by rfl
theorem akV:ti Tryd.prog 44 = some (some (Value.agg #[Value.slice none 0 0,Value.slice none 0 0,Value.string (⟨#[]⟩:ByteArray)]),3,64):=by rfl
theorem ahS:iR Tryd.prog 44 = some (true,3):=by rfl
theorem ahT:lay Tryd.prog 44 = some ([AV.v (Value.slice none 0 0),AV.v (Value.slice none 0 0),AV.v (Value.string (⟨#[]⟩:ByteArray))],[(0,2),(2,1)]):=by rfl
theorem TL:kindOf Tryd.prog 44 = some TK.other:=by rfl
theorem WY:jk Tryd.prog 44 0 = some (0,42,2):=by rfl
theorem WZ:jk Tryd.prog 44 1 = some (2,9,1):=by rfl
theorem akW:ti Tryd.prog 56 = some (some (Value.slice none 0 0),1,24):=by rfl
theorem ahU:iR Tryd.prog 56 = some (false,1):=by rfl
theorem ahV:sle Tryd.prog 56 = some (5,some (Value.int IntKind.u8 0),1,1):=by rfl
theorem TM:kindOf Tryd.prog 56 = some (TK.sl 5):=by rfl
theorem akX:ti Tryd.prog 71 = some (some (Value.agg #[Value.int IntKind.u8 0,Value.int IntKind.u8 0]),2,2):=by rfl
theorem ahW:iR Tryd.prog 71 = some (true,2):=by rfl
theorem ahX:arr Tryd.prog 71 = some (2,5,1):=by rfl
theorem ahY:lay Tryd.prog 71 = some ([AV.v (Value.int IntKind.u8 0),AV.v (Value.int IntKind.u8 0)],[(0,1),(1,1)]):=by rfl
theorem TN:kindOf Tryd.prog 71 = some TK.other:=by rfl
theorem akY:ti Tryd.prog 73 = some (some (Value.agg #[Value.slice none 0 0,Value.int IntKind.i64 0,Value.int IntKind.i64 0]),3,40):=by rfl
theorem ahZ:iR Tryd.prog 73 = some (true,3):=by rfl
theorem ah0:lay Tryd.prog 73 = some ([AV.v (Value.slice none 0 0),AV.v (Value.int IntKind.i64 0),AV.v (Value.int IntKind.i64 0)],[(0,1),(1,1),(2,1)]):=by rfl
theorem TP:kindOf Tryd.prog 73 = some TK.other:=by rfl
theorem W9:jk Tryd.prog 73 0 = some (0,23,1):=by rfl
theorem Xa:jk Tryd.prog 73 1 = some (1,3,1):=by rfl
theorem Xb:jk Tryd.prog 73 2 = some (2,3,1):=by rfl
theorem akZ:ti Tryd.prog 74 = some (some (Value.agg #[Value.slice none 0 0,Value.int IntKind.i64 0,Value.int IntKind.i64 0]),3,40):=by rfl
theorem ah1:iR Tryd.prog 74 = some (true,3):=by rfl
theorem ah2:lay Tryd.prog 74 = some ([AV.v (Value.slice none 0 0),AV.v (Value.int IntKind.i64 0),AV.v (Value.int IntKind.i64 0)],[(0,1),(1,1),(2,1)]):=by rfl
theorem TQ:kindOf Tryd.prog 74 = some TK.other:=by rfl
theorem Xc:jk Tryd.prog 74 0 = some (0,23,1):=by rfl
theorem Xd:jk Tryd.prog 74 1 = some (1,3,1):=by rfl
theorem Xe:jk Tryd.prog 74 2 = some (2,3,1):=by rfl
theorem ak0:ti Tryd.prog 75 = some (some (Value.pointer none),1,8):=by rfl
theorem ah3:iR Tryd.prog 75 = some (false,1):=by rfl
theorem TR:kindOf Tryd.prog 75 = some TK.ptr:=by rfl
theorem ak1:ti Tryd.prog 78 = some (some (Value.slice none 0 0),1,24):=by rfl
theorem ah4:iR Tryd.prog 78 = some (false,1):=by rfl
theorem ah5:sle Tryd.prog 78 = some (9,some (Value.string (⟨#[]⟩:ByteArray)),1,16):=by rfl
theorem TS:kindOf Tryd.prog 78 = some (TK.sl 9):=by rfl
theorem ak2:ti Tryd.prog 79 = some (some (Value.agg #[Value.slice none 0 0,Value.slice none 0 0]),2,48):=by rfl
theorem ah6:iR Tryd.prog 79 = some (true,2):=by rfl
theorem ah7:lay Tryd.prog 79 = some ([AV.v (Value.slice none 0 0),AV.v (Value.slice none 0 0)],[(0,1),(1,1)]):=by rfl
theorem TT:kindOf Tryd.prog 79 = some TK.other:=by rfl
theorem Xf:jk Tryd.prog 79 0 = some (0,78,1):=by rfl
theorem Xg:jk Tryd.prog 79 1 = some (1,22,1):=by rfl
theorem ak3:ti Tryd.prog 80 = some (some (Value.agg #[Value.slice none 0 0,Value.slice none 0 0]),2,48):=by rfl
theorem ah8:iR Tryd.prog 80 = some (true,2):=by rfl
theorem ah9:lay Tryd.prog 80 = some ([AV.v (Value.slice none 0 0),AV.v (Value.slice none 0 0)],[(0,1),(1,1)]):=by rfl
theorem TU:kindOf Tryd.prog 80 = some TK.other:=by rfl
theorem Xh:jk Tryd.prog 80 0 = some (0,78,1):=by rfl
theorem Xi:jk Tryd.prog 80 1 = some (1,22,1):=by rfl
theorem ak4:ti Tryd.prog 84 = some (some (Value.agg #[Value.slice none 0 0,Value.int IntKind.i64 0]),2,32):=by rfl
theorem aia:iR Tryd.prog 84 = some (true,2):=by rfl
theorem aib:lay Tryd.prog 84 = some ([AV.v (Value.slice none 0 0),AV.v (Value.int IntKind.i64 0)],[(0,1),(1,1)]):=by rfl
theorem TV:kindOf Tryd.prog 84 = some TK.other:=by rfl
theorem Xj:jk Tryd.prog 84 0 = some (0,25,1):=by rfl
theorem Xk:jk Tryd.prog 84 1 = some (1,3,1):=by rfl
theorem ak5:ti Tryd.prog 85 = some (some (Value.agg #[Value.slice none 0 0,Value.int IntKind.i64 0]),2,32):=by rfl
theorem aic:iR Tryd.prog 85 = some (true,2):=by rfl
theorem aie:lay Tryd.prog 85 = some ([AV.v (Value.slice none 0 0),AV.v (Value.int IntKind.i64 0)],[(0,1),(1,1)]):=by rfl
theorem TW:kindOf Tryd.prog 85 = some TK.other:=by rfl
theorem Xl:jk Tryd.prog 85 0 = some (0,25,1):=by rfl
theorem Xm:jk Tryd.prog 85 1 = some (1,3,1):=by rfl
theorem ak6:ti Tryd.prog 88 = some (some (Value.agg #[Value.slice none 0 0,Value.int IntKind.i64 0,Value.int IntKind.i64 0,Value.slice none 0 0]),4,64):=by rfl
theorem aif:iR Tryd.prog 88 = some (true,4):=by rfl
theorem aii:lay Tryd.prog 88 = some ([AV.v (Value.slice none 0 0),AV.v (Value.int IntKind.i64 0),AV.v (Value.int IntKind.i64 0),AV.v (Value.slice none 0 0)],[(0,1),(1,1),(2,1),(3,1)]):=by rfl
theorem TY:kindOf Tryd.prog 88 = some TK.other:=by rfl
theorem Xn:jk Tryd.prog 88 0 = some (0,25,1):=by rfl
theorem Xo:jk Tryd.prog 88 1 = some (1,3,1):=by rfl
theorem Xp:jk Tryd.prog 88 2 = some (2,3,1):=by rfl
theorem Xq:jk Tryd.prog 88 3 = some (3,23,1):=by rfl
theorem ak7:ti Tryd.prog 89 = some (some (Value.agg #[Value.slice none 0 0,Value.int IntKind.i64 0,Value.int IntKind.i64 0,Value.slice none 0 0]),4,64):=by rfl
theorem aij:iR Tryd.prog 89 = some (true,4):=by rfl
theorem aik:lay Tryd.prog 89 = some ([AV.v (Value.slice none 0 0),AV.v (Value.int IntKind.i64 0),AV.v (Value.int IntKind.i64 0),AV.v (Value.slice none 0 0)],[(0,1),(1,1),(2,1),(3,1)]):=by rfl
theorem Ua:kindOf Tryd.prog 89 = some TK.other:=by rfl
theorem Xr:jk Tryd.prog 89 0 = some (0,25,1):=by rfl
theorem Xt:jk Tryd.prog 89 1 = some (1,3,1):=by rfl
theorem Xu:jk Tryd.prog 89 2 = some (2,3,1):=by rfl
theorem Xv:jk Tryd.prog 89 3 = some (3,23,1):=by rfl
theorem ail:ti Tryd.prog 103 = some (some (Value.agg #[Value.slice none 0 0,Value.slice none 0 0]),2,48):=by rfl
theorem ZJ:iR Tryd.prog 103 = some (true,2):=by rfl
theorem ZK:lay Tryd.prog 103 = some ([AV.v (Value.slice none 0 0),AV.v (Value.slice none 0 0)],[(0,1),(1,1)]):=by rfl
theorem OC:kindOf Tryd.prog 103 = some TK.other:=by rfl
theorem Ub:jk Tryd.prog 103 0 = some (0,25,1):=by rfl
theorem Uc:jk Tryd.prog 103 1 = some (1,56,1):=by rfl
theorem ain:ti Tryd.prog 104 = some (some (Value.agg #[Value.slice none 0 0,Value.slice none 0 0]),2,48):=by rfl
theorem ZL:iR Tryd.prog 104 = some (true,2):=by rfl
theorem ZM:lay Tryd.prog 104 = some ([AV.v (Value.slice none 0 0),AV.v (Value.slice none 0 0)],[(0,1),(1,1)]):=by rfl
theorem OD:kindOf Tryd.prog 104 = some TK.other:=by rfl
theorem Ud:jk Tryd.prog 104 0 = some (0,25,1):=by rfl
theorem Ue:jk Tryd.prog 104 1 = some (1,56,1):=by rfl
theorem aio:ti Tryd.prog 108 = some (some (Value.pointer none),1,8):=by rfl
theorem ZN:iR Tryd.prog 108 = some (false,1):=by rfl
theorem OE:kindOf Tryd.prog 108 = some TK.ptr:=by rfl
theorem aip:ti Tryd.prog 112 = some (some Value.nilFunc,1,8):=by rfl
theorem ZO:iR Tryd.prog 112 = some (false,1):=by rfl
theorem OG:kindOf Tryd.prog 112 = some TK.other:=by rfl
theorem aiq:ti Tryd.prog 114 = some (some (Value.agg #[Value.int IntKind.i32 0,Value.int IntKind.i32 0,Value.int IntKind.i32 0,Value.int IntKind.i32 0,Value.int IntKind.i32 0,Value.int IntKind.i32 0,Value.int IntKind.i32 0,Value.int IntKind.i32 0]),8,32):=by rfl
theorem ZP:iR Tryd.prog 114 = some (true,8):=by rfl
theorem ZQ:arr Tryd.prog 114 = some (8,21,1):=by rfl
theorem ZR:lay Tryd.prog 114 = some ([AV.v (Value.int IntKind.i32 0),AV.v (Value.int IntKind.i32 0),AV.v (Value.int IntKind.i32 0),AV.v (Value.int IntKind.i32 0),AV.v (Value.int IntKind.i32 0),AV.v (Value.int IntKind.i32 0),AV.v (Value.int IntKind.i32 0),AV.v (Value.int IntKind.i32 0)],[(0,1),(1,1),(2,1),(3,1),(4,1),(5,1),(6,1),(7,1)]):=by rfl
theorem OH:kindOf Tryd.prog 114 = some TK.other:=by rfl
theorem air:ti Tryd.prog 115 = some (some (Value.slice none 0 0),1,24):=by rfl
theorem ZT:iR Tryd.prog 115 = some (false,1):=by rfl
theorem ZU:sle Tryd.prog 115 = some (21,some (Value.int IntKind.i32 0),1,4):=by rfl
theorem OJ:kindOf Tryd.prog 115 = some (TK.sl 21):=by rfl
theorem ais:ti Tryd.prog 123 = some (some (Value.agg #[Value.slice none 0 0]),1,24):=by rfl
theorem ZV:iR Tryd.prog 123 = some (true,1):=by rfl
theorem ZW:lay Tryd.prog 123 = some ([AV.v (Value.slice none 0 0)],[(0,1)]):=by rfl
theorem OL:kindOf Tryd.prog 123 = some TK.other:=by rfl
theorem Uf:jk Tryd.prog 123 0 = some (0,56,1):=by rfl
theorem ait:ti Tryd.prog 124 = some (some (Value.agg #[Value.slice none 0 0]),1,24):=by rfl
theorem ZX:iR Tryd.prog 124 = some (true,1):=by rfl
theorem ZY:lay Tryd.prog 124 = some ([AV.v (Value.slice none 0 0)],[(0,1)]):=by rfl
theorem OM:kindOf Tryd.prog 124 = some TK.other:=by rfl
theorem Ug:jk Tryd.prog 124 0 = some (0,56,1):=by rfl
theorem aiu:ti Tryd.prog 125 = some (some Value.nilFunc,1,8):=by rfl
theorem Z4:iR Tryd.prog 125 = some (false,1):=by rfl
theorem OO:kindOf Tryd.prog 125 = some TK.other:=by rfl
theorem aiv:ti Tryd.prog 140 = some (some (Value.slice none 0 0),1,24):=by rfl
theorem Z5:iR Tryd.prog 140 = some (false,1):=by rfl
theorem Z7:sle Tryd.prog 140 = some (35,some (Value.agg #[Value.int IntKind.i64 0,Value.int IntKind.i64 0,Value.string (⟨#[]⟩:ByteArray)]),3,32):=by rfl
theorem OQ:kindOf Tryd.prog 140 = some (TK.sl 35):=by rfl
theorem aiw:ti Tryd.prog 142 = some (some (Value.agg #[Value.bool false,Value.bool false]),2,2):=by rfl
theorem Z8:iR Tryd.prog 142 = some (true,2):=by rfl
theorem Z9:lay Tryd.prog 142 = some ([AV.v (Value.bool false),AV.v (Value.bool false)],[(0,1),(1,1)]):=by rfl
theorem OT:kindOf Tryd.prog 142 = some TK.other:=by rfl
theorem Uh:jk Tryd.prog 142 0 = some (0,4,1):=by rfl
theorem Ui:jk Tryd.prog 142 1 = some (1,4,1):=by rfl
theorem aix:ti Tryd.prog 143 = some (some (Value.agg #[Value.bool false,Value.bool false]),2,2):=by rfl
theorem aaA:iR Tryd.prog 143 = some (true,2):=by rfl
theorem aaB:lay Tryd.prog 143 = some ([AV.v (Value.bool false),AV.v (Value.bool false)],[(0,1),(1,1)]):=by rfl
theorem OU:kindOf Tryd.prog 143 = some TK.other:=by rfl
theorem Uj:jk Tryd.prog 143 0 = some (0,4,1):=by rfl
theorem Uk:jk Tryd.prog 143 1 = some (1,4,1):=by rfl
theorem aiy:ti Tryd.prog 148 = some (some (Value.agg #[Value.slice none 0 0,Value.int IntKind.i64 0]),2,32):=by rfl
theorem aaC:iR Tryd.prog 148 = some (true,2):=by rfl
theorem aaD:lay Tryd.prog 148 = some ([AV.v (Value.slice none 0 0),AV.v (Value.int IntKind.i64 0)],[(0,1),(1,1)]):=by rfl
theorem OV:kindOf Tryd.prog 148 = some TK.other:=by rfl
theorem Ul:jk Tryd.prog 148 0 = some (0,56,1):=by rfl
theorem Um:jk Tryd.prog 148 1 = some (1,30,1):=by rfl
theorem aiz:ti Tryd.prog 149 = some (some (Value.agg #[Value.slice none 0 0,Value.int IntKind.i64 0]),2,32):=by rfl
theorem aaE:iR Tryd.prog 149 = some (true,2):=by rfl
theorem aaF:lay Tryd.prog 149 = some ([AV.v (Value.slice none 0 0),AV.v (Value.int IntKind.i64 0)],[(0,1),(1,1)]):=by rfl
theorem OW:kindOf Tryd.prog 149 = some TK.other:=by rfl
theorem Un:jk Tryd.prog 149 0 = some (0,56,1):=by rfl
theorem Uo:jk Tryd.prog 149 1 = some (1,30,1):=by rfl
theorem aiA:ti Tryd.prog 153 = some (some (Value.pointer none),1,8):=by rfl
theorem aaG:iR Tryd.prog 153 = some (false,1):=by rfl
theorem OX:kindOf Tryd.prog 153 = some TK.ptr:=by rfl
theorem aiB:ti Tryd.prog 155 = some (some Value.nilFunc,1,8):=by rfl
theorem aaH:iR Tryd.prog 155 = some (false,1):=by rfl
theorem OY:kindOf Tryd.prog 155 = some TK.other:=by rfl
theorem aiC:ti Tryd.prog 157 = some (some (Value.pointer none),1,8):=by rfl
theorem aaI:iR Tryd.prog 157 = some (false,1):=by rfl
theorem OZ:kindOf Tryd.prog 157 = some TK.ptr:=by rfl
theorem aiD:ti Tryd.prog 158 = some (some (Value.int IntKind.u64 0),1,8):=by rfl
theorem aaJ:iR Tryd.prog 158 = some (false,1):=by rfl
theorem O1:kindOf Tryd.prog 158 = some (TK.int IntKind.u64):=by rfl
theorem aiE:ti Tryd.prog 161 = some (some (Value.map none),1,8):=by rfl
theorem aaK:iR Tryd.prog 161 = some (false,1):=by rfl
theorem O4:kindOf Tryd.prog 161 = some TK.other:=by rfl
theorem aiF:ti Tryd.prog 164 = some (some (Value.pointer none),1,8):=by rfl
theorem aaL:iR Tryd.prog 164 = some (false,1):=by rfl
theorem O5:kindOf Tryd.prog 164 = some TK.ptr:=by rfl
theorem aaM:iR Tryd.prog 171 = some (true,256):=by rfl
theorem aaN:arr Tryd.prog 171 = some (256,5,1):=by rfl
theorem O6:kindOf Tryd.prog 171 = some TK.other:=by rfl
theorem aiG:ti Tryd.prog 172 = some (some (Value.agg #[Value.int IntKind.u8 0,Value.int IntKind.u8 0]),2,2):=by rfl
theorem aaO:iR Tryd.prog 172 = some (true,2):=by rfl
theorem aaP:lay Tryd.prog 172 = some ([AV.v (Value.int IntKind.u8 0),AV.v (Value.int IntKind.u8 0)],[(0,1),(1,1)]):=by rfl
theorem O7:kindOf Tryd.prog 172 = some TK.other:=by rfl
theorem Ur:jk Tryd.prog 172 0 = some (0,5,1):=by rfl
theorem Us:jk Tryd.prog 172 1 = some (1,5,1):=by rfl
theorem aiH:ti Tryd.prog 173 = some (some (Value.agg #[Value.int IntKind.u8 0,Value.int IntKind.u8 0]),2,2):=by rfl
theorem aaQ:iR Tryd.prog 173 = some (true,2):=by rfl
theorem aaR:lay Tryd.prog 173 = some ([AV.v (Value.int IntKind.u8 0),AV.v (Value.int IntKind.u8 0)],[(0,1),(1,1)]):=by rfl
theorem O8:kindOf Tryd.prog 173 = some TK.other:=by rfl
theorem Ut:jk Tryd.prog 173 0 = some (0,5,1):=by rfl
theorem Uu:jk Tryd.prog 173 1 = some (1,5,1):=by rfl
theorem aiI:ti Tryd.prog 174 = some (some (Value.agg #[Value.int IntKind.u8 0,Value.int IntKind.u8 0,Value.int IntKind.u8 0,Value.int IntKind.u8 0,Value.int IntKind.u8 0,Value.int IntKind.u8 0,Value.int IntKind.u8 0,Value.int IntKind.u8 0,Value.int IntKind.u8 0,Value.int IntKind.u8 0,Value.int IntKind.u8 0,Value.int IntKind.u8 0,Value.int IntKind.u8 0,Value.int IntKind.u8 0,Value.int IntKind.u8 0,Value.int IntKind.u8 0,Value.int IntKind.u8 0,Value.int IntKind.u8 0,Value.int IntKind.u8 0,Value.int IntKind.u8 0,Value.int IntKind.u8 0,Value.int IntKind.u8 0,Value.int IntKind.u8 0,Value.int IntKind.u8 0,Value.int IntKind.u8 0,Value.int IntKind.u8 0,Value.int IntKind.u8 0,Value.int IntKind.u8 0,Value.int IntKind.u8 0,Value.int IntKind.u8 0,Value.int IntKind.u8 0,Value.int IntKind.u8 0]),32,32):=by rfl
theorem aaS:iR Tryd.prog 174 = some (true,32):=by rfl
theorem aaT:arr Tryd.prog 174 = some (16,173,2):=by rfl
theorem aaU:lay Tryd.prog 174 = some ([AV.v (Value.int IntKind.u8 0),AV.v (Value.int IntKind.u8 0),AV.v (Value.int IntKind.u8 0),AV.v (Value.int IntKind.u8 0),AV.v (Value.int IntKind.u8 0),AV.v (Value.int IntKind.u8 0),AV.v (Value.int IntKind.u8 0),AV.v (Value.int IntKind.u8 0),AV.v (Value.int IntKind.u8 0),AV.v (Value.int IntKind.u8 0),AV.v (Value.int IntKind.u8 0),AV.v (Value.int IntKind.u8 0),AV.v (Value.int IntKind.u8 0),AV.v (Value.int IntKind.u8 0),AV.v (Value.int IntKind.u8 0),AV.v (Value.int IntKind.u8 0),AV.v (Value.int IntKind.u8 0),AV.v (Value.int IntKind.u8 0),AV.v (Value.int IntKind.u8 0),AV.v (Value.int IntKind.u8 0),AV.v (Value.int IntKind.u8 0),AV.v (Value.int IntKind.u8 0),AV.v (Value.int IntKind.u8 0),AV.v (Value.int IntKind.u8 0),AV.v (Value.int IntKind.u8 0),AV.v (Value.int IntKind.u8 0),AV.v (Value.int IntKind.u8 0),AV.v (Value.int IntKind.u8 0),AV.v (Value.int IntKind.u8 0),AV.v (Value.int IntKind.u8 0),AV.v (Value.int IntKind.u8 0),AV.v (Value.int IntKind.u8 0)],[(0,2),(2,2),(4,2),(6,2),(8,2),(10,2),(12,2),(14,2),(16,2),(18,2),(20,2),(22,2),(24,2),(26,2),(28,2),(30,2)]):=by rfl
theorem O9:kindOf Tryd.prog 174 = some TK.other:=by rfl
theorem aiJ:ti Tryd.prog 175 = some (some (Value.agg #[Value.bool false,Value.bool false,Value.bool false,Value.bool false,Value.bool false,Value.bool false,Value.bool false,Value.bool false]),8,8):=by rfl
theorem aaV:iR Tryd.prog 175 = some (true,8):=by rfl
theorem aaW:arr Tryd.prog 175 = some (4,143,2):=by rfl
theorem aaX:lay Tryd.prog 175 = some ([AV.v (Value.bool false),AV.v (Value.bool false),AV.v (Value.bool false),AV.v (Value.bool false),AV.v (Value.bool false),AV.v (Value.bool false),AV.v (Value.bool false),AV.v (Value.bool false)],[(0,2),(2,2),(4,2),(6,2)]):=by rfl
theorem Pe:kindOf Tryd.prog 175 = some TK.other:=by rfl
theorem aiK:ti Tryd.prog 176 = some (some (Value.pointer none),1,8):=by rfl
theorem aaY:iR Tryd.prog 176 = some (false,1):=by rfl
theorem Pg:kindOf Tryd.prog 176 = some TK.ptr:=by rfl
theorem aiL:ti Tryd.prog 177 = some (some (Value.slice none 0 0),1,24):=by rfl
theorem aaZ:iR Tryd.prog 177 = some (false,1):=by rfl
theorem abA:sle Tryd.prog 177 = some (155,some Value.nilFunc,1,8):=by rfl
theorem Ph:kindOf Tryd.prog 177 = some (TK.sl 155):=by rfl
theorem aiM:ti Tryd.prog 181 = some (some (Value.agg #[Value.slice none 0 0,Value.slice none 0 0]),2,48):=by rfl
theorem abB:iR Tryd.prog 181 = some (true,2):=by rfl
theorem abC:lay Tryd.prog 181 = some ([AV.v (Value.slice none 0 0),AV.v (Value.slice none 0 0)],[(0,1),(1,1)]):=by rfl
theorem Pj:kindOf Tryd.prog 181 = some TK.other:=by rfl
theorem Uw:jk Tryd.prog 181 0 = some (0,23,1):=by rfl
theorem Ux:jk Tryd.prog 181 1 = some (1,115,1):=by rfl
theorem aiN:ti Tryd.prog 182 = some (some (Value.agg #[Value.slice none 0 0,Value.slice none 0 0]),2,48):=by rfl
theorem abD:iR Tryd.prog 182 = some (true,2):=by rfl
theorem abE:lay Tryd.prog 182 = some ([AV.v (Value.slice none 0 0),AV.v (Value.slice none 0 0)],[(0,1),(1,1)]):=by rfl
theorem Pm:kindOf Tryd.prog 182 = some TK.other:=by rfl
theorem Uy:jk Tryd.prog 182 0 = some (0,23,1):=by rfl
theorem Uz:jk Tryd.prog 182 1 = some (1,115,1):=by rfl
theorem aiO:ti Tryd.prog 185 = some (some (Value.int IntKind.u64 0),1,8):=by rfl
theorem abG:iR Tryd.prog 185 = some (false,1):=by rfl
theorem Pn:kindOf Tryd.prog 185 = some (TK.int IntKind.u64):=by rfl
theorem aiP:ti Tryd.prog 187 = some (some Value.nilFunc,1,8):=by rfl
theorem abH:iR Tryd.prog 187 = some (false,1):=by rfl
theorem Po:kindOf Tryd.prog 187 = some TK.other:=by rfl
theorem aiQ:ti Tryd.prog 193 = some (some (Value.int IntKind.u32 0),1,4):=by rfl
theorem abI:iR Tryd.prog 193 = some (false,1):=by rfl
theorem Pq:kindOf Tryd.prog 193 = some (TK.int IntKind.u32):=by rfl
def Xw:List AV:=[.v (.bool false),.v (.bool false),.v (.bool true),.v (.bool true),.v (.bool false),.v (.bool false),.v (.bool true),.v (.bool false)]
def Ht:List AV:=(List.range 256).map fun c=>AV.v (Value.int IntKind.u8 (Lib.firstT c))
def EZ:List AV:=(List.range 16).flatMap fun i=>[AV.v (Value.int IntKind.u8 (Lib.accLo i)),AV.v (Value.int IntKind.u8 (Lib.accHi i))]
def Xx:Nat -> Option (List AV)
 | 2=>some Xw
 | 0=>some Ht
 | 1=>some EZ
 | _=>none
noncomputable def env:Env:=⟨Tryd.prog,Xx,[],0⟩
def tab:Tab where
 pI:=[(0,TK.other),(1,TK.other),(2,TK.int IntKind.i64),(3,TK.int IntKind.i64),(4,TK.bool),(5,TK.int IntKind.u8),(9,TK.str),(12,TK.int IntKind.u64),(20,TK.other),(21,TK.int IntKind.i32),(22,TK.sl 23),(23,TK.sl 35),(24,TK.other),(25,TK.sl 3),(26,TK.other),(27,TK.other),(29,TK.ptr),(30,TK.int IntKind.i64),(34,TK.other),(35,TK.other),(36,TK.other),(40,TK.other),(41,TK.other),(42,TK.other),(43,TK.other),(44,TK.other),(56,TK.sl 5),(71,TK.other),(73,TK.other),(74,TK.other),(75,TK.ptr),(78,TK.sl 9),(79,TK.other),(80,TK.other),(84,TK.other),(85,TK.other),(88,TK.other),(89,TK.other),(103,TK.other),(104,TK.other),(108,TK.ptr),(112,TK.other),(114,TK.other),(115,TK.sl 21),(123,TK.other),(124,TK.other),(125,TK.other),(140,TK.sl 35),(142,TK.other),(143,TK.other),(148,TK.other),(149,TK.other),(153,TK.ptr),(155,TK.other),(157,TK.ptr),(158,TK.int IntKind.u64),(161,TK.other),(164,TK.ptr),(171,TK.other),(172,TK.other),(173,TK.other),(174,TK.other),(175,TK.other),(176,TK.ptr),(177,TK.sl 155),(181,TK.other),(182,TK.other),(185,TK.int IntKind.u64),(187,TK.other),(193,TK.int IntKind.u32)]
 tz:=[(0,(false,1)),(1,(false,1)),(2,(false,1)),(3,(false,1)),(4,(false,1)),(5,(false,1)),(9,(false,1)),(12,(false,1)),(20,(false,1)),(21,(false,1)),(22,(false,1)),(23,(false,1)),(24,(false,1)),(25,(false,1)),(26,(true,3)),(27,(true,3)),(29,(false,1)),(30,(false,1)),(34,(true,3)),(35,(true,3)),(36,(false,1)),(40,(false,1)),(41,(true,2)),(42,(true,2)),(43,(true,3)),(44,(true,3)),(56,(false,1)),(71,(true,2)),(73,(true,3)),(74,(true,3)),(75,(false,1)),(78,(false,1)),(79,(true,2)),(80,(true,2)),(84,(true,2)),(85,(true,2)),(88,(true,4)),(89,(true,4)),(103,(true,2)),(104,(true,2)),(108,(false,1)),(112,(false,1)),(114,(true,8)),(115,(false,1)),(123,(true,1)),(124,(true,1)),(125,(false,1)),(140,(false,1)),(142,(true,2)),(143,(true,2)),(148,(true,2)),(149,(true,2)),(153,(false,1)),(155,(false,1)),(157,(false,1)),(158,(false,1)),(161,(false,1)),(164,(false,1)),(171,(true,256)),(172,(true,2)),(173,(true,2)),(174,(true,32)),(175,(true,8)),(176,(false,1)),(177,(false,1)),(181,(true,2)),(182,(true,2)),(185,(false,1)),(187,(false,1)),(193,(false,1))]
 zc:=[(1,[AV.v (Value.nilFunc)]),(2,[AV.v (Value.int IntKind.i64 0)]),(3,[AV.v (Value.int IntKind.i64 0)]),(4,[AV.v (Value.bool false)]),(5,[AV.v (Value.int IntKind.u8 0)]),(9,[AV.v (Value.string (⟨#[]⟩:ByteArray))]),(12,[AV.v (Value.int IntKind.u64 0)]),(20,[AV.v (Value.nilIface)]),(21,[AV.v (Value.int IntKind.i32 0)]),(22,[AV.v (Value.slice none 0 0)]),(23,[AV.v (Value.slice none 0 0)]),(24,[AV.v (Value.nilFunc)]),(25,[AV.v (Value.slice none 0 0)]),(26,([Value.string (⟨#[]⟩:ByteArray),Value.slice none 0 0,Value.slice none 0 0].map AV.v)),(27,([Value.string (⟨#[]⟩:ByteArray),Value.slice none 0 0,Value.slice none 0 0].map AV.v)),(29,[AV.v (Value.pointer none)]),(30,[AV.v (Value.int IntKind.i64 0)]),(34,([Value.int IntKind.i64 0,Value.int IntKind.i64 0,Value.string (⟨#[]⟩:ByteArray)].map AV.v)),(35,([Value.int IntKind.i64 0,Value.int IntKind.i64 0,Value.string (⟨#[]⟩:ByteArray)].map AV.v)),(36,[AV.v (Value.nilFunc)]),(40,[AV.v (Value.nilFunc)]),(41,([Value.slice none 0 0,Value.slice none 0 0].map AV.v)),(42,([Value.slice none 0 0,Value.slice none 0 0].map AV.v)),(43,([Value.slice none 0 0,Value.slice none 0 0,Value.string (⟨#[]⟩:ByteArray)].map AV.v)),(44,([Value.slice none 0 0,Value.slice none 0 0,Value.string (⟨#[]⟩:ByteArray)].map AV.v)),(56,[AV.v (Value.slice none 0 0)]),(71,([Value.int IntKind.u8 0,Value.int IntKind.u8 0].map AV.v)),(73,([Value.slice none 0 0,Value.int IntKind.i64 0,Value.int IntKind.i64 0].map AV.v)),(74,([Value.slice none 0 0,Value.int IntKind.i64 0,Value.int IntKind.i64 0].map AV.v)),(75,[AV.v (Value.pointer none)]),(78,[AV.v (Value.slice none 0 0)]),(79,([Value.slice none 0 0,Value.slice none 0 0].map AV.v)),(80,([Value.slice none 0 0,Value.slice none 0 0].map AV.v)),(84,([Value.slice none 0 0,Value.int IntKind.i64 0].map AV.v)),(85,([Value.slice none 0 0,Value.int IntKind.i64 0].map AV.v)),(88,([Value.slice none 0 0,Value.int IntKind.i64 0,Value.int IntKind.i64 0,Value.slice none 0 0].map AV.v)),(89,([Value.slice none 0 0,Value.int IntKind.i64 0,Value.int IntKind.i64 0,Value.slice none 0 0].map AV.v)),(103,([Value.slice none 0 0,Value.slice none 0 0].map AV.v)),(104,([Value.slice none 0 0,Value.slice none 0 0].map AV.v)),(108,[AV.v (Value.pointer none)]),(112,[AV.v (Value.nilFunc)]),(114,([Value.int IntKind.i32 0,Value.int IntKind.i32 0,Value.int IntKind.i32 0,Value.int IntKind.i32 0,Value.int IntKind.i32 0,Value.int IntKind.i32 0,Value.int IntKind.i32 0,Value.int IntKind.i32 0].map AV.v)),(115,[AV.v (Value.slice none 0 0)]),(123,([Value.slice none 0 0].map AV.v)),(124,([Value.slice none 0 0].map AV.v)),(125,[AV.v (Value.nilFunc)]),(140,[AV.v (Value.slice none 0 0)]),(142,([Value.bool false,Value.bool false].map AV.v)),(143,([Value.bool false,Value.bool false].map AV.v)),(148,([Value.slice none 0 0,Value.int IntKind.i64 0].map AV.v)),(149,([Value.slice none 0 0,Value.int IntKind.i64 0].map AV.v)),(153,[AV.v (Value.pointer none)]),(155,[AV.v (Value.nilFunc)]),(157,[AV.v (Value.pointer none)]),(158,[AV.v (Value.int IntKind.u64 0)]),(161,[AV.v (Value.map none)]),(164,[AV.v (Value.pointer none)]),(172,([Value.int IntKind.u8 0,Value.int IntKind.u8 0].map AV.v)),(173,([Value.int IntKind.u8 0,Value.int IntKind.u8 0].map AV.v)),(174,([Value.int IntKind.u8 0,Value.int IntKind.u8 0,Value.int IntKind.u8 0,Value.int IntKind.u8 0,Value.int IntKind.u8 0,Value.int IntKind.u8 0,Value.int IntKind.u8 0,Value.int IntKind.u8 0,Value.int IntKind.u8 0,Value.int IntKind.u8 0,Value.int IntKind.u8 0,Value.int IntKind.u8 0,Value.int IntKind.u8 0,Value.int IntKind.u8 0,Value.int IntKind.u8 0,Value.int IntKind.u8 0,Value.int IntKind.u8 0,Value.int IntKind.u8 0,Value.int IntKind.u8 0,Value.int IntKind.u8 0,Value.int IntKind.u8 0,Value.int IntKind.u8 0,Value.int IntKind.u8 0,Value.int IntKind.u8 0,Value.int IntKind.u8 0,Value.int IntKind.u8 0,Value.int IntKind.u8 0,Value.int IntKind.u8 0,Value.int IntKind.u8 0,Value.int IntKind.u8 0,Value.int IntKind.u8 0,Value.int IntKind.u8 0].map AV.v)),(175,([Value.bool false,Value.bool false,Value.bool false,Value.bool false,Value.bool false,Value.bool false,Value.bool false,Value.bool false].map AV.v)),(176,[AV.v (Value.pointer none)]),(177,[AV.v (Value.slice none 0 0)]),(181,([Value.slice none 0 0,Value.slice none 0 0].map AV.v)),(182,([Value.slice none 0 0,Value.slice none 0 0].map AV.v)),(185,[AV.v (Value.int IntKind.u64 0)]),(187,[AV.v (Value.nilFunc)]),(193,[AV.v (Value.int IntKind.u32 0)])]
 sl:=[(22,(23,1,24,[AV.v (Value.slice none 0 0)])),(23,(35,3,32,([Value.int IntKind.i64 0,Value.int IntKind.i64 0,Value.string (⟨#[]⟩:ByteArray)].map AV.v))),(25,(3,1,8,[AV.v (Value.int IntKind.i64 0)])),(56,(5,1,1,[AV.v (Value.int IntKind.u8 0)])),(78,(9,1,16,[AV.v (Value.string (⟨#[]⟩:ByteArray))])),(115,(21,1,4,[AV.v (Value.int IntKind.i32 0)])),(140,(35,3,32,([Value.int IntKind.i64 0,Value.int IntKind.i64 0,Value.string (⟨#[]⟩:ByteArray)].map AV.v))),(177,(155,1,8,[AV.v (Value.nilFunc)]))]
 ar:=[(71,(2,5,1)),(114,(8,21,1)),(171,(256,5,1)),(174,(16,173,2)),(175,(4,143,2))]
 ly:=[(26,([AV.v (Value.string (⟨#[]⟩:ByteArray)),AV.v (Value.slice none 0 0),AV.v (Value.slice none 0 0)],[(0,1),(1,1),(2,1)])),(27,([AV.v (Value.string (⟨#[]⟩:ByteArray)),AV.v (Value.slice none 0 0),AV.v (Value.slice none 0 0)],[(0,1),(1,1),(2,1)])),(34,([AV.v (Value.int IntKind.i64 0),AV.v (Value.int IntKind.i64 0),AV.v (Value.string (⟨#[]⟩:ByteArray))],[(0,1),(1,1),(2,1)])),(35,([AV.v (Value.int IntKind.i64 0),AV.v (Value.int IntKind.i64 0),AV.v (Value.string (⟨#[]⟩:ByteArray))],[(0,1),(1,1),(2,1)])),(41,([AV.v (Value.slice none 0 0),AV.v (Value.slice none 0 0)],[(0,1),(1,1)])),(42,([AV.v (Value.slice none 0 0),AV.v (Value.slice none 0 0)],[(0,1),(1,1)])),(43,([AV.v (Value.slice none 0 0),AV.v (Value.slice none 0 0),AV.v (Value.string (⟨#[]⟩:ByteArray))],[(0,2),(2,1)])),(44,([AV.v (Value.slice none 0 0),AV.v (Value.slice none 0 0),AV.v (Value.string (⟨#[]⟩:ByteArray))],[(0,2),(2,1)])),(71,([AV.v (Value.int IntKind.u8 0),AV.v (Value.int IntKind.u8 0)],[(0,1),(1,1)])),(73,([AV.v (Value.slice none 0 0),AV.v (Value.int IntKind.i64 0),AV.v (Value.int IntKind.i64 0)],[(0,1),(1,1),(2,1)])),(74,([AV.v (Value.slice none 0 0),AV.v (Value.int IntKind.i64 0),AV.v (Value.int IntKind.i64 0)],[(0,1),(1,1),(2,1)])),(79,([AV.v (Value.slice none 0 0),AV.v (Value.slice none 0 0)],[(0,1),(1,1)])),(80,([AV.v (Value.slice none 0 0),AV.v (Value.slice none 0 0)],[(0,1),(1,1)])),(84,([AV.v (Value.slice none 0 0),AV.v (Value.int IntKind.i64 0)],[(0,1),(1,1)])),(85,([AV.v (Value.slice none 0 0),AV.v (Value.int IntKind.i64 0)],[(0,1),(1,1)])),(88,([AV.v (Value.slice none 0 0),AV.v (Value.int IntKind.i64 0),AV.v (Value.int IntKind.i64 0),AV.v (Value.slice none 0 0)],[(0,1),(1,1),(2,1),(3,1)])),(89,([AV.v (Value.slice none 0 0),AV.v (Value.int IntKind.i64 0),AV.v (Value.int IntKind.i64 0),AV.v (Value.slice none 0 0)],[(0,1),(1,1),(2,1),(3,1)])),(103,([AV.v (Value.slice none 0 0),AV.v (Value.slice none 0 0)],[(0,1),(1,1)])),(104,([AV.v (Value.slice none 0 0),AV.v (Value.slice none 0 0)],[(0,1),(1,1)])),(114,([AV.v (Value.int IntKind.i32 0),AV.v (Value.int IntKind.i32 0),AV.v (Value.int IntKind.i32 0),AV.v (Value.int IntKind.i32 0),AV.v (Value.int IntKind.i32 0),AV.v (Value.int IntKind.i32 0),AV.v (Value.int IntKind.i32 0),AV.v (Value.int IntKind.i32 0)],[(0,1),(1,1),(2,1),(3,1),(4,1),(5,1),(6,1),(7,1)])),(123,([AV.v (Value.slice none 0 0)],[(0,1)])),(124,([AV.v (Value.slice none 0 0)],[(0,1)])),(142,([AV.v (Value.bool false),AV.v (Value.bool false)],[(0,1),(1,1)])),(143,([AV.v (Value.bool false),AV.v (Value.bool false)],[(0,1),(1,1)])),(148,([AV.v (Value.slice none 0 0),AV.v (Value.int IntKind.i64 0)],[(0,1),(1,1)])),(149,([AV.v (Value.slice none 0 0),AV.v (Value.int IntKind.i64 0)],[(0,1),(1,1)])),(172,([AV.v (Value.int IntKind.u8 0),AV.v (Value.int IntKind.u8 0)],[(0,1),(1,1)])),(173,([AV.v (Value.int IntKind.u8 0),AV.v (Value.int IntKind.u8 0)],[(0,1),(1,1)])),(174,([AV.v (Value.int IntKind.u8 0),AV.v (Value.int IntKind.u8 0),AV.v (Value.int IntKind.u8 0),AV.v (Value.int IntKind.u8 0),AV.v (Value.int IntKind.u8 0),AV.v (Value.int IntKind.u8 0),AV.v (Value.int IntKind.u8 0),AV.v (Value.int IntKind.u8 0),AV.v (Value.int IntKind.u8 0),AV.v (Value.int IntKind.u8 0),AV.v (Value.int IntKind.u8 0),AV.v (Value.int IntKind.u8 0),AV.v (Value.int IntKind.u8 0),AV.v (Value.int IntKind.u8 0),AV.v (Value.int IntKind.u8 0),AV.v (Value.int IntKind.u8 0),AV.v (Value.int IntKind.u8 0),AV.v (Value.int IntKind.u8 0),AV.v (Value.int IntKind.u8 0),AV.v (Value.int IntKind.u8 0),AV.v (Value.int IntKind.u8 0),AV.v (Value.int IntKind.u8 0),AV.v (Value.int IntKind.u8 0),AV.v (Value.int IntKind.u8 0),AV.v (Value.int IntKind.u8 0),AV.v (Value.int IntKind.u8 0),AV.v (Value.int IntKind.u8 0),AV.v (Value.int IntKind.u8 0),AV.v (Value.int IntKind.u8 0),AV.v (Value.int IntKind.u8 0),AV.v (Value.int IntKind.u8 0),AV.v (Value.int IntKind.u8 0)],[(0,2),(2,2),(4,2),(6,2),(8,2),(10,2),(12,2),(14,2),(16,2),(18,2),(20,2),(22,2),(24,2),(26,2),(28,2),(30,2)])),(175,([AV.v (Value.bool false),AV.v (Value.bool false),AV.v (Value.bool false),AV.v (Value.bool false),AV.v (Value.bool false),AV.v (Value.bool false),AV.v (Value.bool false),AV.v (Value.bool false)],[(0,2),(2,2),(4,2),(6,2)])),(181,([AV.v (Value.slice none 0 0),AV.v (Value.slice none 0 0)],[(0,1),(1,1)])),(182,([AV.v (Value.slice none 0 0),AV.v (Value.slice none 0 0)],[(0,1),(1,1)]))]
 fd:=[(26,[(0,9,1),(1,25,1),(2,22,1)]),(27,[(0,9,1),(1,25,1),(2,22,1)]),(34,[(0,3,1),(1,3,1),(2,9,1)]),(35,[(0,3,1),(1,3,1),(2,9,1)]),(41,[(0,22,1),(1,25,1)]),(42,[(0,22,1),(1,25,1)]),(43,[(0,42,2),(2,9,1)]),(44,[(0,42,2),(2,9,1)]),(73,[(0,23,1),(1,3,1),(2,3,1)]),(74,[(0,23,1),(1,3,1),(2,3,1)]),(79,[(0,78,1),(1,22,1)]),(80,[(0,78,1),(1,22,1)]),(84,[(0,25,1),(1,3,1)]),(85,[(0,25,1),(1,3,1)]),(88,[(0,25,1),(1,3,1),(2,3,1),(3,23,1)]),(89,[(0,25,1),(1,3,1),(2,3,1),(3,23,1)]),(103,[(0,25,1),(1,56,1)]),(104,[(0,25,1),(1,56,1)]),(123,[(0,56,1)]),(124,[(0,56,1)]),(142,[(0,4,1),(1,4,1)]),(143,[(0,4,1),(1,4,1)]),(148,[(0,56,1),(1,30,1)]),(149,[(0,56,1),(1,30,1)]),(172,[(0,5,1),(1,5,1)]),(173,[(0,5,1),(1,5,1)]),(181,[(0,23,1),(1,115,1)]),(182,[(0,23,1),(1,115,1)])]
 eq:=[34,35]
theorem E5:jl env.P tab where
 pI:=pY (p:=fun t x=>kindOf Tryd.prog t = some x) (List.forall_mem_cons.2 ⟨Wq,(List.forall_mem_cons.2 ⟨Ws,(List.forall_mem_cons.2 ⟨Wu,(List.forall_mem_cons.2 ⟨Wv,(List.forall_mem_cons.2 ⟨Wx,(List.forall_mem_cons.2 ⟨Wy,(List.forall_mem_cons.2 ⟨WA,(List.forall_mem_cons.2 ⟨S9,(List.forall_mem_cons.2 ⟨Tc,(List.forall_mem_cons.2 ⟨Td,(List.forall_mem_cons.2 ⟨Tf,(List.forall_mem_cons.2 ⟨Ti,(List.forall_mem_cons.2 ⟨Tj,(List.forall_mem_cons.2 ⟨Tm,(List.forall_mem_cons.2 ⟨Tn,(List.forall_mem_cons.2 ⟨Tq,(List.forall_mem_cons.2 ⟨Tt,(List.forall_mem_cons.2 ⟨Tv,(List.forall_mem_cons.2 ⟨Tz,(List.forall_mem_cons.2 ⟨TA,(List.forall_mem_cons.2 ⟨TB,(List.forall_mem_cons.2 ⟨TD,(List.forall_mem_cons.2 ⟨TF,(List.forall_mem_cons.2 ⟨TG,(List.forall_mem_cons.2 ⟨TJ,(List.forall_mem_cons.2 ⟨TL,(List.forall_mem_cons.2 ⟨TM,(List.forall_mem_cons.2 ⟨TN,(List.forall_mem_cons.2 ⟨TP,(List.forall_mem_cons.2 ⟨TQ,(List.forall_mem_cons.2 ⟨TR,(List.forall_mem_cons.2 ⟨TS,(List.forall_mem_cons.2 ⟨TT,(List.forall_mem_cons.2 ⟨TU,(List.forall_mem_cons.2 ⟨TV,(List.forall_mem_cons.2 ⟨TW,(List.forall_mem_cons.2 ⟨TY,(List.forall_mem_cons.2 ⟨Ua,(List.forall_mem_cons.2 ⟨OC,(List.forall_mem_cons.2 ⟨OD,(List.forall_mem_cons.2 ⟨OE,(List.forall_mem_cons.2 ⟨OG,(List.forall_mem_cons.2 ⟨OH,(List.forall_mem_cons.2 ⟨OJ,(List.forall_mem_cons.2 ⟨OL,(List.forall_mem_cons.2 ⟨OM,(List.forall_mem_cons.2 ⟨OO,(List.forall_mem_cons.2 ⟨OQ,(List.forall_mem_cons.2 ⟨OT,(List.forall_mem_cons.2 ⟨OU,(List.forall_mem_cons.2 ⟨OV,(List.forall_mem_cons.2 ⟨OW,(List.forall_mem_cons.2 ⟨OX,(List.forall_mem_cons.2 ⟨OY,(List.forall_mem_cons.2 ⟨OZ,(List.forall_mem_cons.2 ⟨O1,(List.forall_mem_cons.2 ⟨O4,(List.forall_mem_cons.2 ⟨O5,(List.forall_mem_cons.2 ⟨O6,(List.forall_mem_cons.2 ⟨O7,(List.forall_mem_cons.2 ⟨O8,(List.forall_mem_cons.2 ⟨O9,(List.forall_mem_cons.2 ⟨Pe,(List.forall_mem_cons.2 ⟨Pg,(List.forall_mem_cons.2 ⟨Ph,(List.forall_mem_cons.2 ⟨Pj,(List.forall_mem_cons.2 ⟨Pm,(List.forall_mem_cons.2 ⟨Pn,(List.forall_mem_cons.2 ⟨Po,(List.forall_mem_cons.2 ⟨Pq,(fun _ h=>nomatch h)⟩)⟩)⟩)⟩)⟩)⟩)⟩)⟩)⟩)⟩)⟩)⟩)⟩)⟩)⟩)⟩)⟩)⟩)⟩)⟩)⟩)⟩)⟩)⟩)⟩)⟩)⟩)⟩)⟩)⟩)⟩)⟩)⟩)⟩)⟩)⟩)⟩)⟩)⟩)⟩)⟩)⟩)⟩)⟩)⟩)⟩)⟩)⟩)⟩)⟩)⟩)⟩)⟩)⟩)⟩)⟩)⟩)⟩)⟩)⟩)⟩)⟩)⟩)⟩)⟩)⟩)⟩)⟩)⟩)⟩)
 tz:=pY (p:=fun t x=>iR Tryd.prog t = some x) (List.forall_mem_cons.2 ⟨akw,(List.forall_mem_cons.2 ⟨akx,(List.forall_mem_cons.2 ⟨aky,(List.forall_mem_cons.2 ⟨akz,(List.forall_mem_cons.2 ⟨akA,(List.forall_mem_cons.2 ⟨akB,(List.forall_mem_cons.2 ⟨akC,(List.forall_mem_cons.2 ⟨ahq,(List.forall_mem_cons.2 ⟨ahr,(List.forall_mem_cons.2 ⟨ahs,(List.forall_mem_cons.2 ⟨aht,(List.forall_mem_cons.2 ⟨ahv,(List.forall_mem_cons.2 ⟨ahx,(List.forall_mem_cons.2 ⟨ahy,(List.forall_mem_cons.2 ⟨ahA,(List.forall_mem_cons.2 ⟨ahC,(List.forall_mem_cons.2 ⟨ahE,(List.forall_mem_cons.2 ⟨ahF,(List.forall_mem_cons.2 ⟨ahG,(List.forall_mem_cons.2 ⟨ahI,(List.forall_mem_cons.2 ⟨ahK,(List.forall_mem_cons.2 ⟨ahL,(List.forall_mem_cons.2 ⟨ahM,(List.forall_mem_cons.2 ⟨ahO,(List.forall_mem_cons.2 ⟨ahQ,(List.forall_mem_cons.2 ⟨ahS,(List.forall_mem_cons.2 ⟨ahU,(List.forall_mem_cons.2 ⟨ahW,(List.forall_mem_cons.2 ⟨ahZ,(List.forall_mem_cons.2 ⟨ah1,(List.forall_mem_cons.2 ⟨ah3,(List.forall_mem_cons.2 ⟨ah4,(List.forall_mem_cons.2 ⟨ah6,(List.forall_mem_cons.2 ⟨ah8,(List.forall_mem_cons.2 ⟨aia,(List.forall_mem_cons.2 ⟨aic,(List.forall_mem_cons.2 ⟨aif,(List.forall_mem_cons.2 ⟨aij,(List.forall_mem_cons.2 ⟨ZJ,(List.forall_mem_cons.2 ⟨ZL,(List.forall_mem_cons.2 ⟨ZN,(List.forall_mem_cons.2 ⟨ZO,(List.forall_mem_cons.2 ⟨ZP,(List.forall_mem_cons.2 ⟨ZT,(List.forall_mem_cons.2 ⟨ZV,(List.forall_mem_cons.2 ⟨ZX,(List.forall_mem_cons.2 ⟨Z4,(List.forall_mem_cons.2 ⟨Z5,(List.forall_mem_cons.2 ⟨Z8,(List.forall_mem_cons.2 ⟨aaA,(List.forall_mem_cons.2 ⟨aaC,(List.forall_mem_cons.2 ⟨aaE,(List.forall_mem_cons.2 ⟨aaG,(List.forall_mem_cons.2 ⟨aaH,(List.forall_mem_cons.2 ⟨aaI,(List.forall_mem_cons.2 ⟨aaJ,(List.forall_mem_cons.2 ⟨aaK,(List.forall_mem_cons.2 ⟨aaL,(List.forall_mem_cons.2 ⟨aaM,(List.forall_mem_cons.2 ⟨aaO,(List.forall_mem_cons.2 ⟨aaQ,(List.forall_mem_cons.2 ⟨aaS,(List.forall_mem_cons.2 ⟨aaV,(List.forall_mem_cons.2 ⟨aaY,(List.forall_mem_cons.2 ⟨aaZ,(List.forall_mem_cons.2 ⟨abB,(List.forall_mem_cons.2 ⟨abD,(List.forall_mem_cons.2 ⟨abG,(List.forall_mem_cons.2 ⟨abH,(List.forall_mem_cons.2 ⟨abI,(fun _ h=>nomatch h)⟩)⟩)⟩)⟩)⟩)⟩)⟩)⟩)⟩)⟩)⟩)⟩)⟩)⟩)⟩)⟩)⟩)⟩)⟩)⟩)⟩)⟩)⟩)⟩)⟩)⟩)⟩)⟩)⟩)⟩)⟩)⟩)⟩)⟩)⟩)⟩)⟩)⟩)⟩)⟩)⟩)⟩)⟩)⟩)⟩)⟩)⟩)⟩)⟩)⟩)⟩)⟩)⟩)⟩)⟩)⟩)⟩)⟩)⟩)⟩)⟩)⟩)⟩)⟩)⟩)⟩)⟩)⟩)⟩)⟩)
 zc:=pY (p:=fun t cs=>∃ z n b,ti Tryd.prog t = some (some z,n,b) /\ cellsOf (VB z) = some cs) (List.forall_mem_cons.2 ⟨⟨_,_,_,amJ,rfl⟩,(List.forall_mem_cons.2 ⟨⟨_,_,_,amK,rfl⟩,(List.forall_mem_cons.2 ⟨⟨_,_,_,amL,rfl⟩,(List.forall_mem_cons.2 ⟨⟨_,_,_,amM,rfl⟩,(List.forall_mem_cons.2 ⟨⟨_,_,_,amN,rfl⟩,(List.forall_mem_cons.2 ⟨⟨_,_,_,amO,rfl⟩,(List.forall_mem_cons.2 ⟨⟨_,_,_,akD,rfl⟩,(List.forall_mem_cons.2 ⟨⟨_,_,_,akE,rfl⟩,(List.forall_mem_cons.2 ⟨⟨_,_,_,akF,rfl⟩,(List.forall_mem_cons.2 ⟨⟨_,_,_,akG,rfl⟩,(List.forall_mem_cons.2 ⟨⟨_,_,_,akH,rfl⟩,(List.forall_mem_cons.2 ⟨⟨_,_,_,akI,rfl⟩,(List.forall_mem_cons.2 ⟨⟨_,_,_,akJ,rfl⟩,(List.forall_mem_cons.2 ⟨⟨_,_,_,akK,rfl⟩,(List.forall_mem_cons.2 ⟨⟨_,_,_,akL,rfl⟩,(List.forall_mem_cons.2 ⟨⟨_,_,_,akM,rfl⟩,(List.forall_mem_cons.2 ⟨⟨_,_,_,akN,rfl⟩,(List.forall_mem_cons.2 ⟨⟨_,_,_,akO,rfl⟩,(List.forall_mem_cons.2 ⟨⟨_,_,_,akP,rfl⟩,(List.forall_mem_cons.2 ⟨⟨_,_,_,akQ,rfl⟩,(List.forall_mem_cons.2 ⟨⟨_,_,_,akR,rfl⟩,(List.forall_mem_cons.2 ⟨⟨_,_,_,akS,rfl⟩,(List.forall_mem_cons.2 ⟨⟨_,_,_,akT,rfl⟩,(List.forall_mem_cons.2 ⟨⟨_,_,_,akU,rfl⟩,(List.forall_mem_cons.2 ⟨⟨_,_,_,akV,rfl⟩,(List.forall_mem_cons.2 ⟨⟨_,_,_,akW,rfl⟩,(List.forall_mem_cons.2 ⟨⟨_,_,_,akX,rfl⟩,(List.forall_mem_cons.2 ⟨⟨_,_,_,akY,rfl⟩,(List.forall_mem_cons.2 ⟨⟨_,_,_,akZ,rfl⟩,(List.forall_mem_cons.2 ⟨⟨_,_,_,ak0,rfl⟩,(List.forall_mem_cons.2 ⟨⟨_,_,_,ak1,rfl⟩,(List.forall_mem_cons.2 ⟨⟨_,_,_,ak2,rfl⟩,(List.forall_mem_cons.2 ⟨⟨_,_,_,ak3,rfl⟩,(List.forall_mem_cons.2 ⟨⟨_,_,_,ak4,rfl⟩,(List.forall_mem_cons.2 ⟨⟨_,_,_,ak5,rfl⟩,(List.forall_mem_cons.2 ⟨⟨_,_,_,ak6,rfl⟩,(List.forall_mem_cons.2 ⟨⟨_,_,_,ak7,rfl⟩,(List.forall_mem_cons.2 ⟨⟨_,_,_,ail,rfl⟩,(List.forall_mem_cons.2 ⟨⟨_,_,_,ain,rfl⟩,(List.forall_mem_cons.2 ⟨⟨_,_,_,aio,rfl⟩,(List.forall_mem_cons.2 ⟨⟨_,_,_,aip,rfl⟩,(List.forall_mem_cons.2 ⟨⟨_,_,_,aiq,rfl⟩,(List.forall_mem_cons.2 ⟨⟨_,_,_,air,rfl⟩,(List.forall_mem_cons.2 ⟨⟨_,_,_,ais,rfl⟩,(List.forall_mem_cons.2 ⟨⟨_,_,_,ait,rfl⟩,(List.forall_mem_cons.2 ⟨⟨_,_,_,aiu,rfl⟩,(List.forall_mem_cons.2 ⟨⟨_,_,_,aiv,rfl⟩,(List.forall_mem_cons.2 ⟨⟨_,_,_,aiw,rfl⟩,(List.forall_mem_cons.2 ⟨⟨_,_,_,aix,rfl⟩,(List.forall_mem_cons.2 ⟨⟨_,_,_,aiy,rfl⟩,(List.forall_mem_cons.2 ⟨⟨_,_,_,aiz,rfl⟩,(List.forall_mem_cons.2 ⟨⟨_,_,_,aiA,rfl⟩,(List.forall_mem_cons.2 ⟨⟨_,_,_,aiB,rfl⟩,(List.forall_mem_cons.2 ⟨⟨_,_,_,aiC,rfl⟩,(List.forall_mem_cons.2 ⟨⟨_,_,_,aiD,rfl⟩,(List.forall_mem_cons.2 ⟨⟨_,_,_,aiE,rfl⟩,(List.forall_mem_cons.2 ⟨⟨_,_,_,aiF,rfl⟩,(List.forall_mem_cons.2 ⟨⟨_,_,_,aiG,rfl⟩,(List.forall_mem_cons.2 ⟨⟨_,_,_,aiH,rfl⟩,(List.forall_mem_cons.2 ⟨⟨_,_,_,aiI,rfl⟩,(List.forall_mem_cons.2 ⟨⟨_,_,_,aiJ,rfl⟩,(List.forall_mem_cons.2 ⟨⟨_,_,_,aiK,rfl⟩,(List.forall_mem_cons.2 ⟨⟨_,_,_,aiL,rfl⟩,(List.forall_mem_cons.2 ⟨⟨_,_,_,aiM,rfl⟩,(List.forall_mem_cons.2 ⟨⟨_,_,_,aiN,rfl⟩,(List.forall_mem_cons.2 ⟨⟨_,_,_,aiO,rfl⟩,(List.forall_mem_cons.2 ⟨⟨_,_,_,aiP,rfl⟩,(List.forall_mem_cons.2 ⟨⟨_,_,_,aiQ,rfl⟩,(fun _ h=>nomatch h)⟩)⟩)⟩)⟩)⟩)⟩)⟩)⟩)⟩)⟩)⟩)⟩)⟩)⟩)⟩)⟩)⟩)⟩)⟩)⟩)⟩)⟩)⟩)⟩)⟩)⟩)⟩)⟩)⟩)⟩)⟩)⟩)⟩)⟩)⟩)⟩)⟩)⟩)⟩)⟩)⟩)⟩)⟩)⟩)⟩)⟩)⟩)⟩)⟩)⟩)⟩)⟩)⟩)⟩)⟩)⟩)⟩)⟩)⟩)⟩)⟩)⟩)⟩)⟩)⟩)⟩)⟩)⟩)
 sl:=fun t e n b cs=>pY (l:=tab.sl) (p:=fun t (x:TypeId × Nat × Nat × List AV)=>∃ z,sle Tryd.prog t = some (x.1,some z,x.2.1,x.2.2.1) /\ cellsOf (VB z) = some x.2.2.2 /\ z.cells.size = x.2.1 /\ 0 < x.2.1 /\ x.2.2.2.length = x.2.1) (List.forall_mem_cons.2 ⟨⟨_,ahu,rfl,rfl,Nat.succ_pos _,rfl⟩,(List.forall_mem_cons.2 ⟨⟨_,ahw,rfl,rfl,Nat.succ_pos _,rfl⟩,(List.forall_mem_cons.2 ⟨⟨_,ahz,rfl,rfl,Nat.succ_pos _,rfl⟩,(List.forall_mem_cons.2 ⟨⟨_,ahV,rfl,rfl,Nat.succ_pos _,rfl⟩,(List.forall_mem_cons.2 ⟨⟨_,ah5,rfl,rfl,Nat.succ_pos _,rfl⟩,(List.forall_mem_cons.2 ⟨⟨_,ZU,rfl,rfl,Nat.succ_pos _,rfl⟩,(List.forall_mem_cons.2 ⟨⟨_,Z7,rfl,rfl,Nat.succ_pos _,rfl⟩,(List.forall_mem_cons.2 ⟨⟨_,abA,rfl,rfl,Nat.succ_pos _,rfl⟩,(fun _ h=>nomatch h)⟩)⟩)⟩)⟩)⟩)⟩)⟩)⟩) t (e,n,b,cs)
 ar:=pY (p:=fun t x=>arr Tryd.prog t = some x) (List.forall_mem_cons.2 ⟨ahX,(List.forall_mem_cons.2 ⟨ZQ,(List.forall_mem_cons.2 ⟨aaN,(List.forall_mem_cons.2 ⟨aaT,(List.forall_mem_cons.2 ⟨aaW,(fun _ h=>nomatch h)⟩)⟩)⟩)⟩)⟩)
 ly:=pY (p:=fun t x=>lay Tryd.prog t = some x) (List.forall_mem_cons.2 ⟨ahB,(List.forall_mem_cons.2 ⟨ahD,(List.forall_mem_cons.2 ⟨ahH,(List.forall_mem_cons.2 ⟨ahJ,(List.forall_mem_cons.2 ⟨ahN,(List.forall_mem_cons.2 ⟨ahP,(List.forall_mem_cons.2 ⟨ahR,(List.forall_mem_cons.2 ⟨ahT,(List.forall_mem_cons.2 ⟨ahY,(List.forall_mem_cons.2 ⟨ah0,(List.forall_mem_cons.2 ⟨ah2,(List.forall_mem_cons.2 ⟨ah7,(List.forall_mem_cons.2 ⟨ah9,(List.forall_mem_cons.2 ⟨aib,(List.forall_mem_cons.2 ⟨aie,(List.forall_mem_cons.2 ⟨aii,(List.forall_mem_cons.2 ⟨aik,(List.forall_mem_cons.2 ⟨ZK,(List.forall_mem_cons.2 ⟨ZM,(List.forall_mem_cons.2 ⟨ZR,(List.forall_mem_cons.2 ⟨ZW,(List.forall_mem_cons.2 ⟨ZY,(List.forall_mem_cons.2 ⟨Z9,(List.forall_mem_cons.2 ⟨aaB,(List.forall_mem_cons.2 ⟨aaD,(List.forall_mem_cons.2 ⟨aaF,(List.forall_mem_cons.2 ⟨aaP,(List.forall_mem_cons.2 ⟨aaR,(List.forall_mem_cons.2 ⟨aaU,(List.forall_mem_cons.2 ⟨aaX,(List.forall_mem_cons.2 ⟨abC,(List.forall_mem_cons.2 ⟨abE,(fun _ h=>nomatch h)⟩)⟩)⟩)⟩)⟩)⟩)⟩)⟩)⟩)⟩)⟩)⟩)⟩)⟩)⟩)⟩)⟩)⟩)⟩)⟩)⟩)⟩)⟩)⟩)⟩)⟩)⟩)⟩)⟩)⟩)⟩)⟩)
 fd:=fun t l h f x hx=>by
   have:=pY (l:=tab.fd) (p:=fun t l=>Ev.V7 Tryd.prog t 0 l) (List.forall_mem_cons.2 ⟨⟨WB,WC,WE,trivial⟩,(List.forall_mem_cons.2 ⟨⟨WG,WH,WI,trivial⟩,(List.forall_mem_cons.2 ⟨⟨WJ,WL,WM,trivial⟩,(List.forall_mem_cons.2 ⟨⟨WO,WQ,WR,trivial⟩,(List.forall_mem_cons.2 ⟨⟨WS,WT,trivial⟩,(List.forall_mem_cons.2 ⟨⟨WU,WV,trivial⟩,(List.forall_mem_cons.2 ⟨⟨WW,WX,trivial⟩,(List.forall_mem_cons.2 ⟨⟨WY,WZ,trivial⟩,(List.forall_mem_cons.2 ⟨⟨W9,Xa,Xb,trivial⟩,(List.forall_mem_cons.2 ⟨⟨Xc,Xd,Xe,trivial⟩,(List.forall_mem_cons.2 ⟨⟨Xf,Xg,trivial⟩,(List.forall_mem_cons.2 ⟨⟨Xh,Xi,trivial⟩,(List.forall_mem_cons.2 ⟨⟨Xj,Xk,trivial⟩,(List.forall_mem_cons.2 ⟨⟨Xl,Xm,trivial⟩,(List.forall_mem_cons.2 ⟨⟨Xn,Xo,Xp,Xq,trivial⟩,(List.forall_mem_cons.2 ⟨⟨Xr,Xt,Xu,Xv,trivial⟩,(List.forall_mem_cons.2 ⟨⟨Ub,Uc,trivial⟩,(List.forall_mem_cons.2 ⟨⟨Ud,Ue,trivial⟩,(List.forall_mem_cons.2 ⟨⟨Uf,trivial⟩,(List.forall_mem_cons.2 ⟨⟨Ug,trivial⟩,(List.forall_mem_cons.2 ⟨⟨Uh,Ui,trivial⟩,(List.forall_mem_cons.2 ⟨⟨Uj,Uk,trivial⟩,(List.forall_mem_cons.2 ⟨⟨Ul,Um,trivial⟩,(List.forall_mem_cons.2 ⟨⟨Un,Uo,trivial⟩,(List.forall_mem_cons.2 ⟨⟨Ur,Us,trivial⟩,(List.forall_mem_cons.2 ⟨⟨Ut,Uu,trivial⟩,(List.forall_mem_cons.2 ⟨⟨Uw,Ux,trivial⟩,(List.forall_mem_cons.2 ⟨⟨Uy,Uz,trivial⟩,(fun _ h=>nomatch h)⟩)⟩)⟩)⟩)⟩)⟩)⟩)⟩)⟩)⟩)⟩)⟩)⟩)⟩)⟩)⟩)⟩)⟩)⟩)⟩)⟩)⟩)⟩)⟩)⟩)⟩)⟩)⟩) t l h
   have:=Ev.G9 this f x hx
   rwa [Nat.zero_add] at this
 eq:=fun t h=>by
   have h':=List.contains_iff_mem.1 h
   simp only [tab,List.mem_cons,List.not_mem_nil,or_false] at h'
   rcases h' with rfl | rfl
   · exact Hr Tryd.underlying34 (by decide) (by decide) ⟨rfl,rfl,rfl⟩ Tryd.underlying3 Tryd.underlying9 (by kernel_rfl) (by kernel_rfl) (by kernel_rfl) (by kernel_rfl)
   · exact Hr Tryd.underlying35 (by decide) (by decide) ⟨rfl,rfl,rfl⟩ Tryd.underlying3 Tryd.underlying9 (by kernel_rfl) (by kernel_rfl) (by kernel_rfl) (by kernel_rfl)
theorem mixed' (keep:List Nat) (N:Nat):(Env.P ⟨env.P,env.G,keep,N⟩).follows .mixedOrders = true:=by rfl
theorem yD (keep:List Nat) (N:Nat):jl (Env.P ⟨env.P,env.G,keep,N⟩) tab:=E5
end Go.Proofs.YtadlnaljicikfaaDoor.aB
