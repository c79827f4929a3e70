/- A part of the proof: a calculus over values, and contracts of functions. No condition. -/
import Derived.Test.YtadlnaljicikfaaDoorZM2
import Derived.Test.YtadlnaljicikfaaDoorProg
import Derived.Lib.DecodeN
set_option linter.unusedVariables false
set_option linter.unusedSimpArgs false
namespace Go.Proofs.YtadlnaljicikfaaDoor.aB
open Go
set_option maxRecDepth 100000
theorem acK:fU Tryd.prog 0 = some (false,1):=by rfl
theorem Qe:kindOf Tryd.prog 0 = some TK.other:=by rfl
theorem afY:ti Tryd.prog 1 = some (some Value.nilFunc,1,8):=by rfl
theorem acL:fU Tryd.prog 1 = some (false,1):=by rfl
theorem Qg:kindOf Tryd.prog 1 = some TK.other:=by rfl
theorem afZ:ti Tryd.prog 2 = some (some (Value.int IntKind.i64 0),1,8):=by rfl
theorem acM:fU Tryd.prog 2 = some (false,1):=by rfl
theorem Qh:kindOf Tryd.prog 2 = some (TK.int IntKind.i64):=by rfl
theorem af0:ti Tryd.prog 3 = some (some (Value.int IntKind.i64 0),1,8):=by rfl
theorem acN:fU Tryd.prog 3 = some (false,1):=by rfl
theorem Qi:kindOf Tryd.prog 3 = some (TK.int IntKind.i64):=by rfl
theorem af2:ti Tryd.prog 4 = some (some (Value.bool false),1,1):=by rfl
theorem acO:fU Tryd.prog 4 = some (false,1):=by rfl
theorem Qj:kindOf Tryd.prog 4 = some TK.bool:=by rfl
theorem af4:ti Tryd.prog 5 = some (some (Value.int IntKind.u8 0),1,1):=by rfl
theorem acP:fU Tryd.prog 5 = some (false,1):=by rfl
theorem Qk:kindOf Tryd.prog 5 = some (TK.int IntKind.u8):=by rfl
theorem af5:ti Tryd.prog 9 = some (some (Value.string (⟨#[]⟩:ByteArray)),1,16):=by rfl
theorem acQ:fU Tryd.prog 9 = some (false,1):=by rfl
theorem Ql:kindOf Tryd.prog 9 = some TK.str:=by rfl
theorem acR:ti Tryd.prog 12 = some (some (Value.int IntKind.u64 0),1,8):=by rfl
theorem Yf:fU Tryd.prog 12 = some (false,1):=by rfl
theorem Md:kindOf Tryd.prog 12 = some (TK.int IntKind.u64):=by rfl
theorem acS:ti Tryd.prog 20 = some (some Value.nilIface,1,16):=by rfl
theorem Yg:fU Tryd.prog 20 = some (false,1):=by rfl
theorem Me:kindOf Tryd.prog 20 = some TK.other:=by rfl
theorem acT:ti Tryd.prog 21 = some (some (Value.int IntKind.i32 0),1,4):=by rfl
theorem Yh:fU Tryd.prog 21 = some (false,1):=by rfl
theorem MB:kindOf Tryd.prog 21 = some (TK.int IntKind.i32):=by rfl
theorem acU:ti Tryd.prog 22 = some (some (Value.slice none 0 0),1,24):=by rfl
theorem Yi:fU Tryd.prog 22 = some (false,1):=by rfl
theorem Yj:sle Tryd.prog 22 = some (23,some (Value.slice none 0 0),1,24):=by rfl
theorem MC:kindOf Tryd.prog 22 = some (TK.sl 23):=by rfl
theorem acV:ti Tryd.prog 23 = some (some (Value.slice none 0 0),1,24):=by rfl
theorem Yk:fU Tryd.prog 23 = some (false,1):=by rfl
theorem Yl:sle Tryd.prog 23 = some (35,some (Value.agg #[Value.int IntKind.i64 0,Value.int IntKind.i64 0,Value.string (⟨#[]⟩:ByteArray)]),3,32):=by rfl
theorem MF:kindOf Tryd.prog 23 = some (TK.sl 35):=by rfl
theorem acW:ti Tryd.prog 24 = some (some Value.nilFunc,1,8):=by rfl
theorem Ym:fU Tryd.prog 24 = some (false,1):=by rfl
theorem MG:kindOf Tryd.prog 24 = some TK.other:=by rfl
theorem acX:ti Tryd.prog 25 = some (some (Value.slice none 0 0),1,24):=by rfl
theorem Yn:fU Tryd.prog 25 = some (false,1):=by rfl
theorem Yo:sle Tryd.prog 25 = some (3,some (Value.int IntKind.i64 0),1,8):=by rfl
theorem MH:kindOf Tryd.prog 25 = some (TK.sl 3):=by rfl
theorem acY:ti Tryd.prog 26 = some (some (Value.agg #[Value.string (⟨#[]⟩:ByteArray),Value.slice none 0 0,Value.slice none 0 0]),3,64):=by rfl
theorem Yp:fU Tryd.prog 26 = some (true,3):=by rfl
theorem Yq:lay Tryd.prog 26 = some ([AV.v (Value.string (⟨#[]⟩:ByteArray)),AV.v (Value.slice none 0 0),AV.v (Value.slice none 0 0)],[(0,1),(1,1),(2,1)]):=by rfl
theorem MI:kindOf Tryd.prog 26 = some TK.other:=by rfl
theorem Qm:gU Tryd.prog 26 0 = some (0,9,1):=by rfl
theorem Qn:gU Tryd.prog 26 1 = some (1,25,1):=by rfl
theorem Qo:gU Tryd.prog 26 2 = some (2,22,1):=by rfl
theorem acZ:ti Tryd.prog 27 = some (some (Value.agg #[Value.string (⟨#[]⟩:ByteArray),Value.slice none 0 0,Value.slice none 0 0]),3,64):=by rfl
theorem Yr:fU Tryd.prog 27 = some (true,3):=by rfl
theorem Yt:lay Tryd.prog 27 = some ([AV.v (Value.string (⟨#[]⟩:ByteArray)),AV.v (Value.slice none 0 0),AV.v (Value.slice none 0 0)],[(0,1),(1,1),(2,1)]):=by rfl
theorem MJ:kindOf Tryd.prog 27 = some TK.other:=by rfl
theorem Qp:gU Tryd.prog 27 0 = some (0,9,1):=by rfl
theorem Qq:gU Tryd.prog 27 1 = some (1,25,1):=by rfl
theorem Qr:gU Tryd.prog 27 2 = some (2,22,1):=by rfl
theorem adA:ti Tryd.prog 29 = some (some (Value.pointer none),1,8):=by rfl
theorem Yu:fU Tryd.prog 29 = some (false,1):=by rfl
theorem MK:kindOf Tryd.prog 29 = some TK.ptr:=by rfl
theorem adB:ti Tryd.prog 30 = some (some (Value.int IntKind.i64 0),1,8):=by rfl
theorem Yv:fU Tryd.prog 30 = some (false,1):=by rfl
theorem ML:kindOf Tryd.prog 30 = some (TK.int IntKind.i64):=by rfl
theorem adC:ti Tryd.prog 34 = some (some (Value.agg #[Value.int IntKind.i64 0,Value.int IntKind.i64 0,Value.string (⟨#[]⟩:ByteArray)]),3,32):=by rfl
theorem Yw:fU Tryd.prog 34 = some (true,3):=by rfl
theorem Yx:lay Tryd.prog 34 = some ([AV.v (Value.int IntKind.i64 0),AV.v (Value.int IntKind.i64 0),AV.v (Value.string (⟨#[]⟩:ByteArray))],[(0,1),(1,1),(2,1)]):=by rfl
theorem MN:kindOf Tryd.prog 34 = some TK.other:=by rfl
theorem Qs:gU Tryd.prog 34 0 = some (0,3,1):=by rfl
theorem Qu:gU Tryd.prog 34 1 = some (1,3,1):=by rfl
theorem Qv:gU Tryd.prog 34 2 = some (2,9,1):=by rfl
theorem adD:ti Tryd.prog 35 = some (some (Value.agg #[Value.int IntKind.i64 0,Value.int IntKind.i64 0,Value.string (⟨#[]⟩:ByteArray)]),3,32):=by rfl
theorem Yy:fU Tryd.prog 35 = some (true,3):=by rfl
theorem Yz:lay Tryd.prog 35 = some ([AV.v (Value.int IntKind.i64 0),AV.v (Value.int IntKind.i64 0),AV.v (Value.string (⟨#[]⟩:ByteArray))],[(0,1),(1,1),(2,1)]):=by rfl
theorem MO:kindOf Tryd.prog 35 = some TK.other:=by rfl
theorem Qw:gU Tryd.prog 35 0 = some (0,3,1):=by rfl
theorem Qy:gU Tryd.prog 35 1 = some (1,3,1):=by rfl
theorem Qz:gU Tryd.prog 35 2 = some (2,9,1):=by rfl
theorem adE:ti Tryd.prog 36 = some (some Value.nilFunc,1,8):=by rfl
theorem YA:fU Tryd.prog 36 = some (false,1):=by rfl
theorem MP:kindOf Tryd.prog 36 = some TK.other:=by rfl
theorem adF:ti Tryd.prog 40 = some (some Value.nilFunc,1,8):=by rfl
theorem YB:fU Tryd.prog 40 = some (false,1):=by rfl
theorem MQ:kindOf Tryd.prog 40 = some TK.other:=by rfl
theorem adG:ti Tryd.prog 41 = some (some (Value.agg #[Value.slice none 0 0,Value.slice none 0 0]),2,48):=by rfl
theorem YC:fU Tryd.prog 41 = some (true,2):=by rfl
theorem YD:lay Tryd.prog 41 = some ([AV.v (Value.slice none 0 0),AV.v (Value.slice none 0 0)],[(0,1),(1,1)]):=by rfl
theorem MR:kindOf Tryd.prog 41 = some TK.other:=by rfl
theorem QA:gU Tryd.prog 41 0 = some (0,22,1):=by rfl
theorem QB:gU Tryd.prog 41 1 = some (1,25,1):=by rfl
theorem adH:ti Tryd.prog 42 = some (some (Value.agg #[Value.slice none 0 0,Value.slice none 0 0]),2,48):=by rfl
theorem YE:fU Tryd.prog 42 = some (true,2):=by rfl
theorem YF:lay Tryd.prog 42 = some ([AV.v (Value.slice none 0 0),AV.v (Value.slice none 0 0)],[(0,1),(1,1)]):=by rfl
theorem MS:kindOf Tryd.prog 42 = some TK.other:=by rfl
theorem QC:gU Tryd.prog 42 0 = some (0,22,1):=by rfl
theorem QD:gU Tryd.prog 42 1 = some (1,25,1):=by rfl
theorem adI:ti Tryd.prog 43 = some (some (Value.agg #[Value.slice none 0 0,Value.slice none 0 0,Value.string (⟨#[]⟩:ByteArray)]),3,64):=by rfl
theorem YG:fU Tryd.prog 43 = some (true,3):=by rfl
theorem YH:lay Tryd.prog 43 = some ([AV.v (Value.slice none 0 0),AV.v (Value.slice none 0 0),AV.v (Value.string (⟨#[]⟩:ByteArray))],[(0,2),(2,1)]):=by rfl
theorem MV:kindOf Tryd.prog 43 = some TK.other:=by rfl
theorem QE:gU Tryd.prog 43 0 = some (0,42,2):=by rfl
theorem QF:gU Tryd.prog 43 1 = some (2,9,1):=by rfl
theorem adJ:ti Tryd.prog 44 = some (some (Value.agg #[Value.slice none 0 0,Value.slice none 0 0,Value.string (⟨#[]⟩:ByteArray)]),3,64):=by rfl
theorem YI:fU Tryd.prog 44 = some (true,3):=by rfl
theorem YJ:lay Tryd.prog 44 = some ([AV.v (Value.slice none 0 0),AV.v (Value.slice none 0 0),AV.v (Value.string (⟨#[]⟩:ByteArray))],[(0,2),(2,1)]):=by rfl
theorem MW:kindOf Tryd.prog 44 = some TK.other:=by rfl
theorem QG:gU Tryd.prog 44 0 = some (0,42,2):=by rfl
theorem QH:gU Tryd.prog 44 1 = some (2,9,1):=by rfl
theorem adK:ti Tryd.prog 56 = some (some (Value.slice none 0 0),1,24):=by rfl
theorem YK:fU Tryd.prog 56 = some (false,1):=by rfl
theorem YL:sle Tryd.prog 56 = some (5,some (Value.int IntKind.u8 0),1,1):=by rfl
theorem MX:kindOf Tryd.prog 56 = some (TK.sl 5):=by rfl
theorem adL:ti Tryd.prog 71 = some (some (Value.agg #[Value.int IntKind.u8 0,Value.int IntKind.u8 0]),2,2):=by rfl
theorem YM:fU Tryd.prog 71 = some (true,2):=by rfl
theorem YN:arr Tryd.prog 71 = some (2,5,1):=by rfl
theorem YO:lay Tryd.prog 71 = some ([AV.v (Value.int IntKind.u8 0),AV.v (Value.int IntKind.u8 0)],[(0,1),(1,1)]):=by rfl
theorem MZ:kindOf Tryd.prog 71 = some TK.other:=by rfl
theorem adM:ti Tryd.prog 73 = some (some (Value.agg #[Value.slice none 0 0,Value.int IntKind.i64 0,Value.int IntKind.i64 0]),3,40):=by rfl
theorem YP:fU Tryd.prog 73 = some (true,3):=by rfl
theorem YQ:lay Tryd.prog 73 = some ([AV.v (Value.slice none 0 0),AV.v (Value.int IntKind.i64 0),AV.v (Value.int IntKind.i64 0)],[(0,1),(1,1),(2,1)]):=by rfl
theorem Na:kindOf Tryd.prog 73 = some TK.other:=by rfl
theorem QI:gU Tryd.prog 73 0 = some (0,23,1):=by rfl
theorem QJ:gU Tryd.prog 73 1 = some (1,3,1):=by rfl
theorem QK:gU Tryd.prog 73 2 = some (2,3,1):=by rfl
theorem adN:ti Tryd.prog 74 = some (some (Value.agg #[Value.slice none 0 0,Value.int IntKind.i64 0,Value.int IntKind.i64 0]),3,40):=by rfl
theorem YR:fU Tryd.prog 74 = some (true,3):=by rfl
theorem YS:lay Tryd.prog 74 = some ([AV.v (Value.slice none 0 0),AV.v (Value.int IntKind.i64 0),AV.v (Value.int IntKind.i64 0)],[(0,1),(1,1),(2,1)]):=by rfl
theorem Nb:kindOf Tryd.prog 74 = some TK.other:=by rfl
theorem QL:gU Tryd.prog 74 0 = some (0,23,1):=by rfl
theorem QM:gU Tryd.prog 74 1 = some (1,3,1):=by rfl
theorem QN:gU Tryd.prog 74 2 = some (2,3,1):=by rfl
theorem adO:ti Tryd.prog 75 = some (some (Value.pointer none),1,8):=by rfl
theorem YT:fU Tryd.prog 75 = some (false,1):=by rfl
theorem Nc:kindOf Tryd.prog 75 = some TK.ptr:=by rfl
theorem adP:ti Tryd.prog 78 = some (some (Value.slice none 0 0),1,24):=by rfl
theorem YU:fU Tryd.prog 78 = some (false,1):=by rfl
theorem YV:sle Tryd.prog 78 = some (9,some (Value.string (⟨#[]⟩:ByteArray)),1,16):=by rfl
theorem Nh:kindOf Tryd.prog 78 = some (TK.sl 9):=by rfl
theorem adQ:ti Tryd.prog 79 = some (some (Value.agg #[Value.slice none 0 0,Value.slice none 0 0]),2,48):=by rfl
theorem YW:fU Tryd.prog 79 = some (true,2):=by rfl
theorem YX:lay Tryd.prog 79 = some ([AV.v (Value.slice none 0 0),AV.v (Value.slice none 0 0)],[(0,1),(1,1)]):=by rfl
theorem Nj:kindOf Tryd.prog 79 = some TK.other:=by rfl
theorem QO:gU Tryd.prog 79 0 = some (0,78,1):=by rfl
theorem QS:gU Tryd.prog 79 1 = some (1,22,1):=by rfl
theorem adR:ti Tryd.prog 80 = some (some (Value.agg #[Value.slice none 0 0,Value.slice none 0 0]),2,48):=by rfl
theorem YZ:fU Tryd.prog 80 = some (true,2):=by rfl
theorem Y0:lay Tryd.prog 80 = some ([AV.v (Value.slice none 0 0),AV.v (Value.slice none 0 0)],[(0,1),(1,1)]):=by rfl
theorem Nk:kindOf Tryd.prog 80 = some TK.other:=by rfl
theorem QT:gU Tryd.prog 80 0 = some (0,78,1):=by rfl
theorem QU:gU Tryd.prog 80 1 = some (1,22,1):=by rfl
theorem adS:ti Tryd.prog 84 = some (some (Value.agg #[Value.slice none 0 0,Value.int IntKind.i64 0]),2,32):=by rfl
theorem Y1:fU Tryd.prog 84 = some (true,2):=by rfl
theorem Y2:lay Tryd.prog 84 = some ([AV.v (Value.slice none 0 0),AV.v (Value.int IntKind.i64 0)],[(0,1),(1,1)]):=by rfl
theorem Nl:kindOf Tryd.prog 84 = some TK.other:=by rfl
theorem QV:gU Tryd.prog 84 0 = some (0,25,1):=by rfl
theorem QW:gU Tryd.prog 84 1 = some (1,3,1):=by rfl
theorem adT:ti Tryd.prog 85 = some (some (Value.agg #[Value.slice none 0 0,Value.int IntKind.i64 0]),2,32):=by rfl
theorem Y3:fU Tryd.prog 85 = some (true,2):=by rfl
theorem Y4:lay Tryd.prog 85 = some ([AV.v (Value.slice none 0 0),AV.v (Value.int IntKind.i64 0)],[(0,1),(1,1)]):=by rfl
theorem Np:kindOf Tryd.prog 85 = some TK.other:=by rfl
theorem QX:gU Tryd.prog 85 0 = some (0,25,1):=by rfl
theorem QY:gU Tryd.prog 85 1 = some (1,3,1):=by rfl
theorem adU:ti Tryd.prog 88 = some (some (Value.agg #[Value.slice none 0 0,Value.int IntKind.i64 0,Value.int IntKind.i64 0,Value.slice none 0 0]),4,64):=by rfl
theorem Y5:fU Tryd.prog 88 = some (true,4):=by rfl
theorem Y6:lay Tryd.prog 88 = some ([AV.v (Value.slice none 0 0),AV.v (Value.int IntKind.i64 0),AV.v (Value.int IntKind.i64 0),AV.v (Value.slice none 0 0)],[(0,1),(1,1),(2,1),(3,1)]):=by rfl
theorem Nq:kindOf Tryd.prog 88 = some TK.other:=by rfl
theorem QZ:gU Tryd.prog 88 0 = some (0,25,1):=by rfl
theorem Q5:gU Tryd.prog 88 1 = some (1,3,1):=by rfl
theorem Q7:gU Tryd.prog 88 2 = some (2,3,1):=by rfl
theorem Q8:gU Tryd.prog 88 3 = some (3,23,1):=by rfl
theorem adV:ti Tryd.prog 89 = some (some (Value.agg #[Value.slice none 0 0,Value.int IntKind.i64 0,Value.int IntKind.i64 0,Value.slice none 0 0]),4,64):=by rfl
theorem Y7:fU Tryd.prog 89 = some (true,4):=by rfl
theorem Y8:lay Tryd.prog 89 = some ([AV.v (Value.slice none 0 0),AV.v (Value.int IntKind.i64 0),AV.v (Value.int IntKind.i64 0),AV.v (Value.slice none 0 0)],[(0,1),(1,1),(2,1),(3,1)]):=by rfl
theorem Nr:kindOf Tryd.prog 89 = some TK.other:=by rfl
theorem Q9:gU Tryd.prog 89 0 = some (0,25,1):=by rfl
theorem Rf:gU Tryd.prog 89 1 = some (1,3,1):=by rfl
theorem Rh:gU Tryd.prog 89 2 = some (2,3,1):=by rfl
theorem Ri:gU Tryd.prog 89 3 = some (3,23,1):=by rfl
theorem Y9:ti Tryd.prog 103 = some (some (Value.agg #[Value.slice none 0 0,Value.slice none 0 0]),2,48):=by rfl
theorem UC:fU Tryd.prog 103 = some (true,2):=by rfl
theorem UD:lay Tryd.prog 103 = some ([AV.v (Value.slice none 0 0),AV.v (Value.slice none 0 0)],[(0,1),(1,1)]):=by rfl
theorem IL:kindOf Tryd.prog 103 = some TK.other:=by rfl
theorem Nu:gU Tryd.prog 103 0 = some (0,25,1):=by rfl
theorem Nv:gU Tryd.prog 103 1 = some (1,56,1):=by rfl
theorem Za:ti Tryd.prog 104 = some (some (Value.agg #[Value.slice none 0 0,Value.slice none 0 0]),2,48):=by rfl
theorem UE:fU Tryd.prog 104 = some (true,2):=by rfl
theorem UF:lay Tryd.prog 104 = some ([AV.v (Value.slice none 0 0),AV.v (Value.slice none 0 0)],[(0,1),(1,1)]):=by rfl
theorem IQ:kindOf Tryd.prog 104 = some TK.other:=by rfl
theorem Nw:gU Tryd.prog 104 0 = some (0,25,1):=by rfl
theorem Ny:gU Tryd.prog 104 1 = some (1,56,1):=by rfl
theorem Zb:ti Tryd.prog 108 = some (some (Value.pointer none),1,8):=by rfl
theorem UG:fU Tryd.prog 108 = some (false,1):=by rfl
theorem IU:kindOf Tryd.prog 108 = some TK.ptr:=by rfl
theorem Zc:ti Tryd.prog 112 = some (some Value.nilFunc,1,8):=by rfl
theorem UH:fU Tryd.prog 112 = some (false,1):=by rfl
theorem IV:kindOf Tryd.prog 112 = some TK.other:=by rfl
theorem Zd:ti Tryd.prog 114 = some (some (Value.agg #[Value.int IntKind.i32 0,Value.int IntKind.i32 0,Value.int IntKind.i32 0,Value.int IntKind.i32 0,Value.int IntKind.i32 0,Value.int IntKind.i32 0,Value.int IntKind.i32 0,Value.int IntKind.i32 0]),8,32):=by rfl
theorem UJ:fU Tryd.prog 114 = some (true,8):=by rfl
theorem UK:arr Tryd.prog 114 = some (8,21,1):=by rfl
theorem UL:lay Tryd.prog 114 = some ([AV.v (Value.int IntKind.i32 0),AV.v (Value.int IntKind.i32 0),AV.v (Value.int IntKind.i32 0),AV.v (Value.int IntKind.i32 0),AV.v (Value.int IntKind.i32 0),AV.v (Value.int IntKind.i32 0),AV.v (Value.int IntKind.i32 0),AV.v (Value.int IntKind.i32 0)],[(0,1),(1,1),(2,1),(3,1),(4,1),(5,1),(6,1),(7,1)]):=by rfl
theorem IW:kindOf Tryd.prog 114 = some TK.other:=by rfl
theorem Ze:ti Tryd.prog 115 = some (some (Value.slice none 0 0),1,24):=by rfl
theorem UM:fU Tryd.prog 115 = some (false,1):=by rfl
theorem UN:sle Tryd.prog 115 = some (21,some (Value.int IntKind.i32 0),1,4):=by rfl
theorem IX:kindOf Tryd.prog 115 = some (TK.sl 21):=by rfl
theorem Zf:ti Tryd.prog 123 = some (some (Value.agg #[Value.slice none 0 0]),1,24):=by rfl
theorem UO:fU Tryd.prog 123 = some (true,1):=by rfl
theorem UQ:lay Tryd.prog 123 = some ([AV.v (Value.slice none 0 0)],[(0,1)]):=by rfl
theorem IY:kindOf Tryd.prog 123 = some TK.other:=by rfl
theorem Nz:gU Tryd.prog 123 0 = some (0,56,1):=by rfl
theorem Zg:ti Tryd.prog 124 = some (some (Value.agg #[Value.slice none 0 0]),1,24):=by rfl
theorem UR:fU Tryd.prog 124 = some (true,1):=by rfl
theorem UU:lay Tryd.prog 124 = some ([AV.v (Value.slice none 0 0)],[(0,1)]):=by rfl
theorem IZ:kindOf Tryd.prog 124 = some TK.other:=by rfl
theorem NC:gU Tryd.prog 124 0 = some (0,56,1):=by rfl
theorem Zh:ti Tryd.prog 125 = some (some Value.nilFunc,1,8):=by rfl
theorem UW:fU Tryd.prog 125 = some (false,1):=by rfl
theorem I4:kindOf Tryd.prog 125 = some TK.other:=by rfl
theorem Zi:ti Tryd.prog 140 = some (some (Value.slice none 0 0),1,24):=by rfl
theorem UY:fU Tryd.prog 140 = some (false,1):=by rfl
theorem UZ:sle Tryd.prog 140 = some (35,some (Value.agg #[Value.int IntKind.i64 0,Value.int IntKind.i64 0,Value.string (⟨#[]⟩:ByteArray)]),3,32):=by rfl
theorem I5:kindOf Tryd.prog 140 = some (TK.sl 35):=by rfl
theorem Zj:ti Tryd.prog 142 = some (some (Value.agg #[Value.bool false,Value.bool false]),2,2):=by rfl
theorem U0:fU Tryd.prog 142 = some (true,2):=by rfl
theorem U1:lay Tryd.prog 142 = some ([AV.v (Value.bool false),AV.v (Value.bool false)],[(0,1),(1,1)]):=by rfl
theorem I7:kindOf Tryd.prog 142 = some TK.other:=by rfl
theorem ND:gU Tryd.prog 142 0 = some (0,4,1):=by rfl
theorem NG:gU Tryd.prog 142 1 = some (1,4,1):=by rfl
theorem Zk:ti Tryd.prog 143 = some (some (Value.agg #[Value.bool false,Value.bool false]),2,2):=by rfl
theorem U2:fU Tryd.prog 143 = some (true,2):=by rfl
theorem U3:lay Tryd.prog 143 = some ([AV.v (Value.bool false),AV.v (Value.bool false)],[(0,1),(1,1)]):=by rfl
theorem I8:kindOf Tryd.prog 143 = some TK.other:=by rfl
theorem NH:gU Tryd.prog 143 0 = some (0,4,1):=by rfl
theorem NI:gU Tryd.prog 143 1 = some (1,4,1):=by rfl
theorem Zl:ti Tryd.prog 148 = some (some (Value.agg #[Value.slice none 0 0,Value.int IntKind.i64 0]),2,32):=by rfl
theorem U4:fU Tryd.prog 148 = some (true,2):=by rfl
theorem U5:lay Tryd.prog 148 = some ([AV.v (Value.slice none 0 0),AV.v (Value.int IntKind.i64 0)],[(0,1),(1,1)]):=by rfl
theorem I9:kindOf Tryd.prog 148 = some TK.other:=by rfl
theorem NJ:gU Tryd.prog 148 0 = some (0,56,1):=by rfl
theorem NK:gU Tryd.prog 148 1 = some (1,30,1):=by rfl
theorem Zm:ti Tryd.prog 149 = some (some (Value.agg #[Value.slice none 0 0,Value.int IntKind.i64 0]),2,32):=by rfl
theorem U6:fU Tryd.prog 149 = some (true,2):=by rfl
theorem U7:lay Tryd.prog 149 = some ([AV.v (Value.slice none 0 0),AV.v (Value.int IntKind.i64 0)],[(0,1),(1,1)]):=by rfl
theorem Ja:kindOf Tryd.prog 149 = some TK.other:=by rfl
theorem NM:gU Tryd.prog 149 0 = some (0,56,1):=by rfl
theorem NP:gU Tryd.prog 149 1 = some (1,30,1):=by rfl
theorem Zn:ti Tryd.prog 153 = some (some (Value.pointer none),1,8):=by rfl
theorem U8:fU Tryd.prog 153 = some (false,1):=by rfl
theorem Jb:kindOf Tryd.prog 153 = some TK.ptr:=by rfl
theorem Zo:ti Tryd.prog 155 = some (some Value.nilFunc,1,8):=by rfl
theorem U9:fU Tryd.prog 155 = some (false,1):=by rfl
theorem Jc:kindOf Tryd.prog 155 = some TK.other:=by rfl
theorem Zp:ti Tryd.prog 157 = some (some (Value.pointer none),1,8):=by rfl
theorem Va:fU Tryd.prog 157 = some (false,1):=by rfl
theorem Jd:kindOf Tryd.prog 157 = some TK.ptr:=by rfl
theorem Zq:ti Tryd.prog 158 = some (some (Value.int IntKind.u64 0),1,8):=by rfl
theorem Vb:fU Tryd.prog 158 = some (false,1):=by rfl
theorem Je:kindOf Tryd.prog 158 = some (TK.int IntKind.u64):=by rfl
theorem Zr:ti Tryd.prog 161 = some (some (Value.map none),1,8):=by rfl
theorem Vd:fU Tryd.prog 161 = some (false,1):=by rfl
theorem Jf:kindOf Tryd.prog 161 = some TK.other:=by rfl
theorem Zt:ti Tryd.prog 164 = some (some (Value.pointer none),1,8):=by rfl
theorem Ve:fU Tryd.prog 164 = some (false,1):=by rfl
theorem Jg:kindOf Tryd.prog 164 = some TK.ptr:=by rfl
theorem Vf:fU Tryd.prog 171 = some (true,256):=by rfl
theorem Vg:arr Tryd.prog 171 = some (256,5,1):=by rfl
theorem Jh:kindOf Tryd.prog 171 = some TK.other:=by rfl
theorem Zu:ti Tryd.prog 172 = some (some (Value.agg #[Value.int IntKind.u8 0,Value.int IntKind.u8 0]),2,2):=by rfl
theorem Vh:fU Tryd.prog 172 = some (true,2):=by rfl
theorem Vj:lay Tryd.prog 172 = some ([AV.v (Value.int IntKind.u8 0),AV.v (Value.int IntKind.u8 0)],[(0,1),(1,1)]):=by rfl
theorem Ji:kindOf Tryd.prog 172 = some TK.other:=by rfl
theorem NQ:gU Tryd.prog 172 0 = some (0,5,1):=by rfl
theorem NR:gU Tryd.prog 172 1 = some (1,5,1):=by rfl
theorem Zv:ti Tryd.prog 173 = some (some (Value.agg #[Value.int IntKind.u8 0,Value.int IntKind.u8 0]),2,2):=by rfl
theorem Vk:fU Tryd.prog 173 = some (true,2):=by rfl
theorem Vl:lay Tryd.prog 173 = some ([AV.v (Value.int IntKind.u8 0),AV.v (Value.int IntKind.u8 0)],[(0,1),(1,1)]):=by rfl
theorem Jj:kindOf Tryd.prog 173 = some TK.other:=by rfl
theorem NS:gU Tryd.prog 173 0 = some (0,5,1):=by rfl
theorem NT:gU Tryd.prog 173 1 = some (1,5,1):=by rfl
theorem Zw:ti Tryd.prog 174 = some (some (Value.agg #[Value.int IntKind.u8 0,Value.int IntKind.u8 0,Value.int IntKind.u8 0,Value.int IntKind.u8 0,Value.int IntKind.u8 0,Value.int IntKind.u8 0,Value.int IntKind.u8 0,Value.int IntKind.u8 0,Value.int IntKind.u8 0,Value.int IntKind.u8 0,Value.int IntKind.u8 0,Value.int IntKind.u8 0,Value.int IntKind.u8 0,Value.int IntKind.u8 0,Value.int IntKind.u8 0,Value.int IntKind.u8 0,Value.int IntKind.u8 0,Value.int IntKind.u8 0,Value.int IntKind.u8 0,Value.int IntKind.u8 0,Value.int IntKind.u8 0,Value.int IntKind.u8 0,Value.int IntKind.u8 0,Value.int IntKind.u8 0,Value.int IntKind.u8 0,Value.int IntKind.u8 0,Value.int IntKind.u8 0,Value.int IntKind.u8 0,Value.int IntKind.u8 0,Value.int IntKind.u8 0,Value.int IntKind.u8 0,Value.int IntKind.u8 0]),32,32):=by rfl
theorem Vm:fU Tryd.prog 174 = some (true,32):=by rfl
theorem Vo:arr Tryd.prog 174 = some (16,173,2):=by rfl
theorem Vp:lay Tryd.prog 174 = some ([AV.v (Value.int IntKind.u8 0),AV.v (Value.int IntKind.u8 0),AV.v (Value.int IntKind.u8 0),AV.v (Value.int IntKind.u8 0),AV.v (Value.int IntKind.u8 0),AV.v (Value.int IntKind.u8 0),AV.v (Value.int IntKind.u8 0),AV.v (Value.int IntKind.u8 0),AV.v (Value.int IntKind.u8 0),AV.v (Value.int IntKind.u8 0),AV.v (Value.int IntKind.u8 0),AV.v (Value.int IntKind.u8 0),AV.v (Value.int IntKind.u8 0),AV.v (Value.int IntKind.u8 0),AV.v (Value.int IntKind.u8 0),AV.v (Value.int IntKind.u8 0),AV.v (Value.int IntKind.u8 0),AV.v (Value.int IntKind.u8 0),AV.v (Value.int IntKind.u8 0),AV.v (Value.int IntKind.u8 0),AV.v (Value.int IntKind.u8 0),AV.v (Value.int IntKind.u8 0),AV.v (Value.int IntKind.u8 0),AV.v (Value.int IntKind.u8 0),AV.v (Value.int IntKind.u8 0),AV.v (Value.int IntKind.u8 0),AV.v (Value.int IntKind.u8 0),AV.v (Value.int IntKind.u8 0),AV.v (Value.int IntKind.u8 0),AV.v (Value.int IntKind.u8 0),AV.v (Value.int IntKind.u8 0),AV.v (Value.int IntKind.u8 0)],[(0,2),(2,2),(4,2),(6,2),(8,2),(10,2),(12,2),(14,2),(16,2),(18,2),(20,2),(22,2),(24,2),(26,2),(28,2),(30,2)]):=by rfl
theorem Jk:kindOf Tryd.prog 174 = some TK.other:=by rfl
theorem Zx:ti Tryd.prog 175 = some (some (Value.agg #[Value.bool false,Value.bool false,Value.bool false,Value.bool false,Value.bool false,Value.bool false,Value.bool false,Value.bool false]),8,8):=by rfl
theorem Vq:fU Tryd.prog 175 = some (true,8):=by rfl
theorem Vr:arr Tryd.prog 175 = some (4,143,2):=by rfl
theorem Vs:lay Tryd.prog 175 = some ([AV.v (Value.bool false),AV.v (Value.bool false),AV.v (Value.bool false),AV.v (Value.bool false),AV.v (Value.bool false),AV.v (Value.bool false),AV.v (Value.bool false),AV.v (Value.bool false)],[(0,2),(2,2),(4,2),(6,2)]):=by rfl
theorem Jl:kindOf Tryd.prog 175 = some TK.other:=by rfl
theorem Zy:ti Tryd.prog 176 = some (some (Value.pointer none),1,8):=by rfl
theorem Vt:fU Tryd.prog 176 = some (false,1):=by rfl
theorem Jm:kindOf Tryd.prog 176 = some TK.ptr:=by rfl
theorem Zz:ti Tryd.prog 177 = some (some (Value.slice none 0 0),1,24):=by rfl
theorem Vu:fU Tryd.prog 177 = some (false,1):=by rfl
theorem Vw:sle Tryd.prog 177 = some (155,some Value.nilFunc,1,8):=by rfl
theorem Jo:kindOf Tryd.prog 177 = some (TK.sl 155):=by rfl
theorem ZA:ti Tryd.prog 181 = some (some (Value.agg #[Value.slice none 0 0,Value.slice none 0 0]),2,48):=by rfl
theorem Vx:fU Tryd.prog 181 = some (true,2):=by rfl
theorem Vy:lay Tryd.prog 181 = some ([AV.v (Value.slice none 0 0),AV.v (Value.slice none 0 0)],[(0,1),(1,1)]):=by rfl
theorem Jp:kindOf Tryd.prog 181 = some TK.other:=by rfl
theorem NU:gU Tryd.prog 181 0 = some (0,23,1):=by rfl
theorem NV:gU Tryd.prog 181 1 = some (1,115,1):=by rfl
theorem ZB:ti Tryd.prog 182 = some (some (Value.agg #[Value.slice none 0 0,Value.slice none 0 0]),2,48):=by rfl
theorem Vz:fU Tryd.prog 182 = some (true,2):=by rfl
theorem VA:lay Tryd.prog 182 = some ([AV.v (Value.slice none 0 0),AV.v (Value.slice none 0 0)],[(0,1),(1,1)]):=by rfl
theorem Jq:kindOf Tryd.prog 182 = some TK.other:=by rfl
theorem NW:gU Tryd.prog 182 0 = some (0,23,1):=by rfl
theorem NY:gU Tryd.prog 182 1 = some (1,115,1):=by rfl
theorem ZC:ti Tryd.prog 185 = some (some (Value.int IntKind.u64 0),1,8):=by rfl
theorem VB:fU Tryd.prog 185 = some (false,1):=by rfl
theorem Jr:kindOf Tryd.prog 185 = some (TK.int IntKind.u64):=by rfl
theorem ZE:ti Tryd.prog 187 = some (some Value.nilFunc,1,8):=by rfl
theorem VD:fU Tryd.prog 187 = some (false,1):=by rfl
theorem Js:kindOf Tryd.prog 187 = some TK.other:=by rfl
theorem ZF:ti Tryd.prog 193 = some (some (Value.int IntKind.u32 0),1,4):=by rfl
theorem VE:fU Tryd.prog 193 = some (false,1):=by rfl
theorem Jt:kindOf Tryd.prog 193 = some (TK.int IntKind.u32):=by rfl
def Rj:List AV:=[.v (.bool false),.v (.bool false),.v (.bool true),.v (.bool true),.v (.bool false),.v (.bool false),.v (.bool true),.v (.bool false)]
def BP:List AV:=(List.range 256).map fun c=>AV.v (Value.int IntKind.u8 (Lib.firstT c))
def zJ:List AV:=(List.range 16).flatMap fun i=>[AV.v (Value.int IntKind.u8 (Lib.accLo i)),AV.v (Value.int IntKind.u8 (Lib.accHi i))]
def Rk:Nat -> Option (List AV)
 | 2=>some Rj
 | 0=>some BP
 | 1=>some zJ
 | _=>none
noncomputable def env:Env:=⟨Tryd.prog,Rk,[],0⟩
def tab:Tab where
 lF:=[(0,TK.other),(1,TK.other),(2,TK.int IntKind.i64),(3,TK.int IntKind.i64),(4,TK.bool),(5,TK.int IntKind.u8),(9,TK.str),(12,TK.int IntKind.u64),(20,TK.other),(21,TK.int IntKind.i32),(22,TK.sl 23),(23,TK.sl 35),(24,TK.other),(25,TK.sl 3),(26,TK.other),(27,TK.other),(29,TK.ptr),(30,TK.int IntKind.i64),(34,TK.other),(35,TK.other),(36,TK.other),(40,TK.other),(41,TK.other),(42,TK.other),(43,TK.other),(44,TK.other),(56,TK.sl 5),(71,TK.other),(73,TK.other),(74,TK.other),(75,TK.ptr),(78,TK.sl 9),(79,TK.other),(80,TK.other),(84,TK.other),(85,TK.other),(88,TK.other),(89,TK.other),(103,TK.other),(104,TK.other),(108,TK.ptr),(112,TK.other),(114,TK.other),(115,TK.sl 21),(123,TK.other),(124,TK.other),(125,TK.other),(140,TK.sl 35),(142,TK.other),(143,TK.other),(148,TK.other),(149,TK.other),(153,TK.ptr),(155,TK.other),(157,TK.ptr),(158,TK.int IntKind.u64),(161,TK.other),(164,TK.ptr),(171,TK.other),(172,TK.other),(173,TK.other),(174,TK.other),(175,TK.other),(176,TK.ptr),(177,TK.sl 155),(181,TK.other),(182,TK.other),(185,TK.int IntKind.u64),(187,TK.other),(193,TK.int IntKind.u32)]
 tz:=[(0,(false,1)),(1,(false,1)),(2,(false,1)),(3,(false,1)),(4,(false,1)),(5,(false,1)),(9,(false,1)),(12,(false,1)),(20,(false,1)),(21,(false,1)),(22,(false,1)),(23,(false,1)),(24,(false,1)),(25,(false,1)),(26,(true,3)),(27,(true,3)),(29,(false,1)),(30,(false,1)),(34,(true,3)),(35,(true,3)),(36,(false,1)),(40,(false,1)),(41,(true,2)),(42,(true,2)),(43,(true,3)),(44,(true,3)),(56,(false,1)),(71,(true,2)),(73,(true,3)),(74,(true,3)),(75,(false,1)),(78,(false,1)),(79,(true,2)),(80,(true,2)),(84,(true,2)),(85,(true,2)),(88,(true,4)),(89,(true,4)),(103,(true,2)),(104,(true,2)),(108,(false,1)),(112,(false,1)),(114,(true,8)),(115,(false,1)),(123,(true,1)),(124,(true,1)),(125,(false,1)),(140,(false,1)),(142,(true,2)),(143,(true,2)),(148,(true,2)),(149,(true,2)),(153,(false,1)),(155,(false,1)),(157,(false,1)),(158,(false,1)),(161,(false,1)),(164,(false,1)),(171,(true,256)),(172,(true,2)),(173,(true,2)),(174,(true,32)),(175,(true,8)),(176,(false,1)),(177,(false,1)),(181,(true,2)),(182,(true,2)),(185,(false,1)),(187,(false,1)),(193,(false,1))]
 zc:=[(1,[AV.v (Value.nilFunc)]),(2,[AV.v (Value.int IntKind.i64 0)]),(3,[AV.v (Value.int IntKind.i64 0)]),(4,[AV.v (Value.bool false)]),(5,[AV.v (Value.int IntKind.u8 0)]),(9,[AV.v (Value.string (⟨#[]⟩:ByteArray))]),(12,[AV.v (Value.int IntKind.u64 0)]),(20,[AV.v (Value.nilIface)]),(21,[AV.v (Value.int IntKind.i32 0)]),(22,[AV.v (Value.slice none 0 0)]),(23,[AV.v (Value.slice none 0 0)]),(24,[AV.v (Value.nilFunc)]),(25,[AV.v (Value.slice none 0 0)]),(26,([Value.string (⟨#[]⟩:ByteArray),Value.slice none 0 0,Value.slice none 0 0].map AV.v)),(27,([Value.string (⟨#[]⟩:ByteArray),Value.slice none 0 0,Value.slice none 0 0].map AV.v)),(29,[AV.v (Value.pointer none)]),(30,[AV.v (Value.int IntKind.i64 0)]),(34,([Value.int IntKind.i64 0,Value.int IntKind.i64 0,Value.string (⟨#[]⟩:ByteArray)].map AV.v)),(35,([Value.int IntKind.i64 0,Value.int IntKind.i64 0,Value.string (⟨#[]⟩:ByteArray)].map AV.v)),(36,[AV.v (Value.nilFunc)]),(40,[AV.v (Value.nilFunc)]),(41,([Value.slice none 0 0,Value.slice none 0 0].map AV.v)),(42,([Value.slice none 0 0,Value.slice none 0 0].map AV.v)),(43,([Value.slice none 0 0,Value.slice none 0 0,Value.string (⟨#[]⟩:ByteArray)].map AV.v)),(44,([Value.slice none 0 0,Value.slice none 0 0,Value.string (⟨#[]⟩:ByteArray)].map AV.v)),(56,[AV.v (Value.slice none 0 0)]),(71,([Value.int IntKind.u8 0,Value.int IntKind.u8 0].map AV.v)),(73,([Value.slice none 0 0,Value.int IntKind.i64 0,Value.int IntKind.i64 0].map AV.v)),(74,([Value.slice none 0 0,Value.int IntKind.i64 0,Value.int IntKind.i64 0].map AV.v)),(75,[AV.v (Value.pointer none)]),(78,[AV.v (Value.slice none 0 0)]),(79,([Value.slice none 0 0,Value.slice none 0 0].map AV.v)),(80,([Value.slice none 0 0,Value.slice none 0 0].map AV.v)),(84,([Value.slice none 0 0,Value.int IntKind.i64 0].map AV.v)),(85,([Value.slice none 0 0,Value.int IntKind.i64 0].map AV.v)),(88,([Value.slice none 0 0,Value.int IntKind.i64 0,Value.int IntKind.i64 0,Value.slice none 0 0].map AV.v)),(89,([Value.slice none 0 0,Value.int IntKind.i64 0,Value.int IntKind.i64 0,Value.slice none 0 0].map AV.v)),(103,([Value.slice none 0 0,Value.slice none 0 0].map AV.v)),(104,([Value.slice none 0 0,Value.slice none 0 0].map AV.v)),(108,[AV.v (Value.pointer none)]),(112,[AV.v (Value.nilFunc)]),(114,([Value.int IntKind.i32 0,Value.int IntKind.i32 0,Value.int IntKind.i32 0,Value.int IntKind.i32 0,Value.int IntKind.i32 0,Value.int IntKind.i32 0,Value.int IntKind.i32 0,Value.int IntKind.i32 0].map AV.v)),(115,[AV.v (Value.slice none 0 0)]),(123,([Value.slice none 0 0].map AV.v)),(124,([Value.slice none 0 0].map AV.v)),(125,[AV.v (Value.nilFunc)]),(140,[AV.v (Value.slice none 0 0)]),(142,([Value.bool false,Value.bool false].map AV.v)),(143,([Value.bool false,Value.bool false].map AV.v)),(148,([Value.slice none 0 0,Value.int IntKind.i64 0].map AV.v)),(149,([Value.slice none 0 0,Value.int IntKind.i64 0].map AV.v)),(153,[AV.v (Value.pointer none)]),(155,[AV.v (Value.nilFunc)]),(157,[AV.v (Value.pointer none)]),(158,[AV.v (Value.int IntKind.u64 0)]),(161,[AV.v (Value.map none)]),(164,[AV.v (Value.pointer none)]),(172,([Value.int IntKind.u8 0,Value.int IntKind.u8 0].map AV.v)),(173,([Value.int IntKind.u8 0,Value.int IntKind.u8 0].map AV.v)),(174,([Value.int IntKind.u8 0,Value.int IntKind.u8 0,Value.int IntKind.u8 0,Value.int IntKind.u8 0,Value.int IntKind.u8 0,Value.int IntKind.u8 0,Value.int IntKind.u8 0,Value.int IntKind.u8 0,Value.int IntKind.u8 0,Value.int IntKind.u8 0,Value.int IntKind.u8 0,Value.int IntKind.u8 0,Value.int IntKind.u8 0,Value.int IntKind.u8 0,Value.int IntKind.u8 0,Value.int IntKind.u8 0,Value.int IntKind.u8 0,Value.int IntKind.u8 0,Value.int IntKind.u8 0,Value.int IntKind.u8 0,Value.int IntKind.u8 0,Value.int IntKind.u8 0,Value.int IntKind.u8 0,Value.int IntKind.u8 0,Value.int IntKind.u8 0,Value.int IntKind.u8 0,Value.int IntKind.u8 0,Value.int IntKind.u8 0,Value.int IntKind.u8 0,Value.int IntKind.u8 0,Value.int IntKind.u8 0,Value.int IntKind.u8 0].map AV.v)),(175,([Value.bool false,Value.bool false,Value.bool false,Value.bool false,Value.bool false,Value.bool false,Value.bool false,Value.bool false].map AV.v)),(176,[AV.v (Value.pointer none)]),(177,[AV.v (Value.slice none 0 0)]),(181,([Value.slice none 0 0,Value.slice none 0 0].map AV.v)),(182,([Value.slice none 0 0,Value.slice none 0 0].map AV.v)),(185,[AV.v (Value.int IntKind.u64 0)]),(187,[AV.v (Value.nilFunc)]),(193,[AV.v (Value.int IntKind.u32 0)])]
 sl:=[(22,(23,1,24,[AV.v (Value.slice none 0 0)])),(23,(35,3,32,([Value.int IntKind.i64 0,Value.int IntKind.i64 0,Value.string (⟨#[]⟩:ByteArray)].map AV.v))),(25,(3,1,8,[AV.v (Value.int IntKind.i64 0)])),(56,(5,1,1,[AV.v (Value.int IntKind.u8 0)])),(78,(9,1,16,[AV.v (Value.string (⟨#[]⟩:ByteArray))])),(115,(21,1,4,[AV.v (Value.int IntKind.i32 0)])),(140,(35,3,32,([Value.int IntKind.i64 0,Value.int IntKind.i64 0,Value.string (⟨#[]⟩:ByteArray)].map AV.v))),(177,(155,1,8,[AV.v (Value.nilFunc)]))]
 ar:=[(71,(2,5,1)),(114,(8,21,1)),(171,(256,5,1)),(174,(16,173,2)),(175,(4,143,2))]
 ly:=[(26,([AV.v (Value.string (⟨#[]⟩:ByteArray)),AV.v (Value.slice none 0 0),AV.v (Value.slice none 0 0)],[(0,1),(1,1),(2,1)])),(27,([AV.v (Value.string (⟨#[]⟩:ByteArray)),AV.v (Value.slice none 0 0),AV.v (Value.slice none 0 0)],[(0,1),(1,1),(2,1)])),(34,([AV.v (Value.int IntKind.i64 0),AV.v (Value.int IntKind.i64 0),AV.v (Value.string (⟨#[]⟩:ByteArray))],[(0,1),(1,1),(2,1)])),(35,([AV.v (Value.int IntKind.i64 0),AV.v (Value.int IntKind.i64 0),AV.v (Value.string (⟨#[]⟩:ByteArray))],[(0,1),(1,1),(2,1)])),(41,([AV.v (Value.slice none 0 0),AV.v (Value.slice none 0 0)],[(0,1),(1,1)])),(42,([AV.v (Value.slice none 0 0),AV.v (Value.slice none 0 0)],[(0,1),(1,1)])),(43,([AV.v (Value.slice none 0 0),AV.v (Value.slice none 0 0),AV.v (Value.string (⟨#[]⟩:ByteArray))],[(0,2),(2,1)])),(44,([AV.v (Value.slice none 0 0),AV.v (Value.slice none 0 0),AV.v (Value.string (⟨#[]⟩:ByteArray))],[(0,2),(2,1)])),(71,([AV.v (Value.int IntKind.u8 0),AV.v (Value.int IntKind.u8 0)],[(0,1),(1,1)])),(73,([AV.v (Value.slice none 0 0),AV.v (Value.int IntKind.i64 0),AV.v (Value.int IntKind.i64 0)],[(0,1),(1,1),(2,1)])),(74,([AV.v (Value.slice none 0 0),AV.v (Value.int IntKind.i64 0),AV.v (Value.int IntKind.i64 0)],[(0,1),(1,1),(2,1)])),(79,([AV.v (Value.slice none 0 0),AV.v (Value.slice none 0 0)],[(0,1),(1,1)])),(80,([AV.v (Value.slice none 0 0),AV.v (Value.slice none 0 0)],[(0,1),(1,1)])),(84,([AV.v (Value.slice none 0 0),AV.v (Value.int IntKind.i64 0)],[(0,1),(1,1)])),(85,([AV.v (Value.slice none 0 0),AV.v (Value.int IntKind.i64 0)],[(0,1),(1,1)])),(88,([AV.v (Value.slice none 0 0),AV.v (Value.int IntKind.i64 0),AV.v (Value.int IntKind.i64 0),AV.v (Value.slice none 0 0)],[(0,1),(1,1),(2,1),(3,1)])),(89,([AV.v (Value.slice none 0 0),AV.v (Value.int IntKind.i64 0),AV.v (Value.int IntKind.i64 0),AV.v (Value.slice none 0 0)],[(0,1),(1,1),(2,1),(3,1)])),(103,([AV.v (Value.slice none 0 0),AV.v (Value.slice none 0 0)],[(0,1),(1,1)])),(104,([AV.v (Value.slice none 0 0),AV.v (Value.slice none 0 0)],[(0,1),(1,1)])),(114,([AV.v (Value.int IntKind.i32 0),AV.v (Value.int IntKind.i32 0),AV.v (Value.int IntKind.i32 0),AV.v (Value.int IntKind.i32 0),AV.v (Value.int IntKind.i32 0),AV.v (Value.int IntKind.i32 0),AV.v (Value.int IntKind.i32 0),AV.v (Value.int IntKind.i32 0)],[(0,1),(1,1),(2,1),(3,1),(4,1),(5,1),(6,1),(7,1)])),(123,([AV.v (Value.slice none 0 0)],[(0,1)])),(124,([AV.v (Value.slice none 0 0)],[(0,1)])),(142,([AV.v (Value.bool false),AV.v (Value.bool false)],[(0,1),(1,1)])),(143,([AV.v (Value.bool false),AV.v (Value.bool false)],[(0,1),(1,1)])),(148,([AV.v (Value.slice none 0 0),AV.v (Value.int IntKind.i64 0)],[(0,1),(1,1)])),(149,([AV.v (Value.slice none 0 0),AV.v (Value.int IntKind.i64 0)],[(0,1),(1,1)])),(172,([AV.v (Value.int IntKind.u8 0),AV.v (Value.int IntKind.u8 0)],[(0,1),(1,1)])),(173,([AV.v (Value.int IntKind.u8 0),AV.v (Value.int IntKind.u8 0)],[(0,1),(1,1)])),(174,([AV.v (Value.int IntKind.u8 0),AV.v (Value.int IntKind.u8 0),AV.v (Value.int IntKind.u8 0),AV.v (Value.int IntKind.u8 0),AV.v (Value.int IntKind.u8 0),AV.v (Value.int IntKind.u8 0),AV.v (Value.int IntKind.u8 0),AV.v (Value.int IntKind.u8 0),AV.v (Value.int IntKind.u8 0),AV.v (Value.int IntKind.u8 0),AV.v (Value.int IntKind.u8 0),AV.v (Value.int IntKind.u8 0),AV.v (Value.int IntKind.u8 0),AV.v (Value.int IntKind.u8 0),AV.v (Value.int IntKind.u8 0),AV.v (Value.int IntKind.u8 0),AV.v (Value.int IntKind.u8 0),AV.v (Value.int IntKind.u8 0),AV.v (Value.int IntKind.u8 0),AV.v (Value.int IntKind.u8 0),AV.v (Value.int IntKind.u8 0),AV.v (Value.int IntKind.u8 0),AV.v (Value.int IntKind.u8 0),AV.v (Value.int IntKind.u8 0),AV.v (Value.int IntKind.u8 0),AV.v (Value.int IntKind.u8 0),AV.v (Value.int IntKind.u8 0),AV.v (Value.int IntKind.u8 0),AV.v (Value.int IntKind.u8 0),AV.v (Value.int IntKind.u8 0),AV.v (Value.int IntKind.u8 0),AV.v (Value.int IntKind.u8 0)],[(0,2),(2,2),(4,2),(6,2),(8,2),(10,2),(12,2),(14,2),(16,2),(18,2),(20,2),(22,2),(24,2),(26,2),(28,2),(30,2)])),(175,([AV.v (Value.bool false),AV.v (Value.bool false),AV.v (Value.bool false),AV.v (Value.bool false),AV.v (Value.bool false),AV.v (Value.bool false),AV.v (Value.bool false),AV.v (Value.bool false)],[(0,2),(2,2),(4,2),(6,2)])),(181,([AV.v (Value.slice none 0 0),AV.v (Value.slice none 0 0)],[(0,1),(1,1)])),(182,([AV.v (Value.slice none 0 0),AV.v (Value.slice none 0 0)],[(0,1),(1,1)]))]
 fd:=[(26,[(0,9,1),(1,25,1),(2,22,1)]),(27,[(0,9,1),(1,25,1),(2,22,1)]),(34,[(0,3,1),(1,3,1),(2,9,1)]),(35,[(0,3,1),(1,3,1),(2,9,1)]),(41,[(0,22,1),(1,25,1)]),(42,[(0,22,1),(1,25,1)]),(43,[(0,42,2),(2,9,1)]),(44,[(0,42,2),(2,9,1)]),(73,[(0,23,1),(1,3,1),(2,3,1)]),(74,[(0,23,1),(1,3,1),(2,3,1)]),(79,[(0,78,1),(1,22,1)]),(80,[(0,78,1),(1,22,1)]),(84,[(0,25,1),(1,3,1)]),(85,[(0,25,1),(1,3,1)]),(88,[(0,25,1),(1,3,1),(2,3,1),(3,23,1)]),(89,[(0,25,1),(1,3,1),(2,3,1),(3,23,1)]),(103,[(0,25,1),(1,56,1)]),(104,[(0,25,1),(1,56,1)]),(123,[(0,56,1)]),(124,[(0,56,1)]),(142,[(0,4,1),(1,4,1)]),(143,[(0,4,1),(1,4,1)]),(148,[(0,56,1),(1,30,1)]),(149,[(0,56,1),(1,30,1)]),(172,[(0,5,1),(1,5,1)]),(173,[(0,5,1),(1,5,1)]),(181,[(0,23,1),(1,115,1)]),(182,[(0,23,1),(1,115,1)])]
 eq:=[34,35]
theorem J7:jB env.P tab where
 lF:=lT (p:=fun t x=>kindOf Tryd.prog t = some x) (List.forall_mem_cons.2 ⟨Qe,(List.forall_mem_cons.2 ⟨Qg,(List.forall_mem_cons.2 ⟨Qh,(List.forall_mem_cons.2 ⟨Qi,(List.forall_mem_cons.2 ⟨Qj,(List.forall_mem_cons.2 ⟨Qk,(List.forall_mem_cons.2 ⟨Ql,(List.forall_mem_cons.2 ⟨Md,(List.forall_mem_cons.2 ⟨Me,(List.forall_mem_cons.2 ⟨MB,(List.forall_mem_cons.2 ⟨MC,(List.forall_mem_cons.2 ⟨MF,(List.forall_mem_cons.2 ⟨MG,(List.forall_mem_cons.2 ⟨MH,(List.forall_mem_cons.2 ⟨MI,(List.forall_mem_cons.2 ⟨MJ,(List.forall_mem_cons.2 ⟨MK,(List.forall_mem_cons.2 ⟨ML,(List.forall_mem_cons.2 ⟨MN,(List.forall_mem_cons.2 ⟨MO,(List.forall_mem_cons.2 ⟨MP,(List.forall_mem_cons.2 ⟨MQ,(List.forall_mem_cons.2 ⟨MR,(List.forall_mem_cons.2 ⟨MS,(List.forall_mem_cons.2 ⟨MV,(List.forall_mem_cons.2 ⟨MW,(List.forall_mem_cons.2 ⟨MX,(List.forall_mem_cons.2 ⟨MZ,(List.forall_mem_cons.2 ⟨Na,(List.forall_mem_cons.2 ⟨Nb,(List.forall_mem_cons.2 ⟨Nc,(List.forall_mem_cons.2 ⟨Nh,(List.forall_mem_cons.2 ⟨Nj,(List.forall_mem_cons.2 ⟨Nk,(List.forall_mem_cons.2 ⟨Nl,(List.forall_mem_cons.2 ⟨Np,(List.forall_mem_cons.2 ⟨Nq,(List.forall_mem_cons.2 ⟨Nr,(List.forall_mem_cons.2 ⟨IL,(List.forall_mem_cons.2 ⟨IQ,(List.forall_mem_cons.2 ⟨IU,(List.forall_mem_cons.2 ⟨IV,(List.forall_mem_cons.2 ⟨IW,(List.forall_mem_cons.2 ⟨IX,(List.forall_mem_cons.2 ⟨IY,(List.forall_mem_cons.2 ⟨IZ,(List.forall_mem_cons.2 ⟨I4,(List.forall_mem_cons.2 ⟨I5,(List.forall_mem_cons.2 ⟨I7,(List.forall_mem_cons.2 ⟨I8,(List.forall_mem_cons.2 ⟨I9,(List.forall_mem_cons.2 ⟨Ja,(List.forall_mem_cons.2 ⟨Jb,(List.forall_mem_cons.2 ⟨Jc,(List.forall_mem_cons.2 ⟨Jd,(List.forall_mem_cons.2 ⟨Je,(List.forall_mem_cons.2 ⟨Jf,(List.forall_mem_cons.2 ⟨Jg,(List.forall_mem_cons.2 ⟨Jh,(List.forall_mem_cons.2 ⟨Ji,(List.forall_mem_cons.2 ⟨Jj,(List.forall_mem_cons.2 ⟨Jk,(List.forall_mem_cons.2 ⟨Jl,(List.forall_mem_cons.2 ⟨Jm,(List.forall_mem_cons.2 ⟨Jo,(List.forall_mem_cons.2 ⟨Jp,(List.forall_mem_cons.2 ⟨Jq,(List.forall_mem_cons.2 ⟨Jr,(List.forall_mem_cons.2 ⟨Js,(List.forall_mem_cons.2 ⟨Jt,(fun _ h=>nomatch h)⟩)⟩)⟩)⟩)⟩)⟩)⟩)⟩)⟩)⟩)⟩)⟩)⟩)⟩)⟩)⟩)⟩)⟩)⟩)⟩)⟩)⟩)⟩)⟩)⟩)⟩)⟩)⟩)⟩)⟩)⟩)⟩)⟩)⟩)⟩)⟩)⟩)⟩)⟩)⟩)⟩)⟩)⟩)⟩)⟩)⟩)⟩)⟩)⟩)⟩)⟩)⟩)⟩)⟩)⟩)⟩)⟩)⟩)⟩)⟩)⟩)⟩)⟩)⟩)⟩)⟩)⟩)⟩)⟩)⟩)
 tz:=lT (p:=fun t x=>fU Tryd.prog t = some x) (List.forall_mem_cons.2 ⟨acK,(List.forall_mem_cons.2 ⟨acL,(List.forall_mem_cons.2 ⟨acM,(List.forall_mem_cons.2 ⟨acN,(List.forall_mem_cons.2 ⟨acO,(List.forall_mem_cons.2 ⟨acP,(List.forall_mem_cons.2 ⟨acQ,(List.forall_mem_cons.2 ⟨Yf,(List.forall_mem_cons.2 ⟨Yg,(List.forall_mem_cons.2 ⟨Yh,(List.forall_mem_cons.2 ⟨Yi,(List.forall_mem_cons.2 ⟨Yk,(List.forall_mem_cons.2 ⟨Ym,(List.forall_mem_cons.2 ⟨Yn,(List.forall_mem_cons.2 ⟨Yp,(List.forall_mem_cons.2 ⟨Yr,(List.forall_mem_cons.2 ⟨Yu,(List.forall_mem_cons.2 ⟨Yv,(List.forall_mem_cons.2 ⟨Yw,(List.forall_mem_cons.2 ⟨Yy,(List.forall_mem_cons.2 ⟨YA,(List.forall_mem_cons.2 ⟨YB,(List.forall_mem_cons.2 ⟨YC,(List.forall_mem_cons.2 ⟨YE,(List.forall_mem_cons.2 ⟨YG,(List.forall_mem_cons.2 ⟨YI,(List.forall_mem_cons.2 ⟨YK,(List.forall_mem_cons.2 ⟨YM,(List.forall_mem_cons.2 ⟨YP,(List.forall_mem_cons.2 ⟨YR,(List.forall_mem_cons.2 ⟨YT,(List.forall_mem_cons.2 ⟨YU,(List.forall_mem_cons.2 ⟨YW,(List.forall_mem_cons.2 ⟨YZ,(List.forall_mem_cons.2 ⟨Y1,(List.forall_mem_cons.2 ⟨Y3,(List.forall_mem_cons.2 ⟨Y5,(List.forall_mem_cons.2 ⟨Y7,(List.forall_mem_cons.2 ⟨UC,(List.forall_mem_cons.2 ⟨UE,(List.forall_mem_cons.2 ⟨UG,(List.forall_mem_cons.2 ⟨UH,(List.forall_mem_cons.2 ⟨UJ,(List.forall_mem_cons.2 ⟨UM,(List.forall_mem_cons.2 ⟨UO,(List.forall_mem_cons.2 ⟨UR,(List.forall_mem_cons.2 ⟨UW,(List.forall_mem_cons.2 ⟨UY,(List.forall_mem_cons.2 ⟨U0,(List.forall_mem_cons.2 ⟨U2,(List.forall_mem_cons.2 ⟨U4,(List.forall_mem_cons.2 ⟨U6,(List.forall_mem_cons.2 ⟨U8,(List.forall_mem_cons.2 ⟨U9,(List.forall_mem_cons.2 ⟨Va,(List.forall_mem_cons.2 ⟨Vb,(List.forall_mem_cons.2 ⟨Vd,(List.forall_mem_cons.2 ⟨Ve,(List.forall_mem_cons.2 ⟨Vf,(List.forall_mem_cons.2 ⟨Vh,(List.forall_mem_cons.2 ⟨Vk,(List.forall_mem_cons.2 ⟨Vm,(List.forall_mem_cons.2 ⟨Vq,(List.forall_mem_cons.2 ⟨Vt,(List.forall_mem_cons.2 ⟨Vu,(List.forall_mem_cons.2 ⟨Vx,(List.forall_mem_cons.2 ⟨Vz,(List.forall_mem_cons.2 ⟨VB,(List.forall_mem_cons.2 ⟨VD,(List.forall_mem_cons.2 ⟨VE,(fun _ h=>nomatch h)⟩)⟩)⟩)⟩)⟩)⟩)⟩)⟩)⟩)⟩)⟩)⟩)⟩)⟩)⟩)⟩)⟩)⟩)⟩)⟩)⟩)⟩)⟩)⟩)⟩)⟩)⟩)⟩)⟩)⟩)⟩)⟩)⟩)⟩)⟩)⟩)⟩)⟩)⟩)⟩)⟩)⟩)⟩)⟩)⟩)⟩)⟩)⟩)⟩)⟩)⟩)⟩)⟩)⟩)⟩)⟩)⟩)⟩)⟩)⟩)⟩)⟩)⟩)⟩)⟩)⟩)⟩)⟩)⟩)⟩)
 zc:=lT (p:=fun t cs=>∃ z n b,ti Tryd.prog t = some (some z,n,b) /\ cellsOf (Ph z) = some cs) (List.forall_mem_cons.2 ⟨⟨_,_,_,afY,rfl⟩,(List.forall_mem_cons.2 ⟨⟨_,_,_,afZ,rfl⟩,(List.forall_mem_cons.2 ⟨⟨_,_,_,af0,rfl⟩,(List.forall_mem_cons.2 ⟨⟨_,_,_,af2,rfl⟩,(List.forall_mem_cons.2 ⟨⟨_,_,_,af4,rfl⟩,(List.forall_mem_cons.2 ⟨⟨_,_,_,af5,rfl⟩,(List.forall_mem_cons.2 ⟨⟨_,_,_,acR,rfl⟩,(List.forall_mem_cons.2 ⟨⟨_,_,_,acS,rfl⟩,(List.forall_mem_cons.2 ⟨⟨_,_,_,acT,rfl⟩,(List.forall_mem_cons.2 ⟨⟨_,_,_,acU,rfl⟩,(List.forall_mem_cons.2 ⟨⟨_,_,_,acV,rfl⟩,(List.forall_mem_cons.2 ⟨⟨_,_,_,acW,rfl⟩,(List.forall_mem_cons.2 ⟨⟨_,_,_,acX,rfl⟩,(List.forall_mem_cons.2 ⟨⟨_,_,_,acY,rfl⟩,(List.forall_mem_cons.2 ⟨⟨_,_,_,acZ,rfl⟩,(List.forall_mem_cons.2 ⟨⟨_,_,_,adA,rfl⟩,(List.forall_mem_cons.2 ⟨⟨_,_,_,adB,rfl⟩,(List.forall_mem_cons.2 ⟨⟨_,_,_,adC,rfl⟩,(List.forall_mem_cons.2 ⟨⟨_,_,_,adD,rfl⟩,(List.forall_mem_cons.2 ⟨⟨_,_,_,adE,rfl⟩,(List.forall_mem_cons.2 ⟨⟨_,_,_,adF,rfl⟩,(List.forall_mem_cons.2 ⟨⟨_,_,_,adG,rfl⟩,(List.forall_mem_cons.2 ⟨⟨_,_,_,adH,rfl⟩,(List.forall_mem_cons.2 ⟨⟨_,_,_,adI,rfl⟩,(List.forall_mem_cons.2 ⟨⟨_,_,_,adJ,rfl⟩,(List.forall_mem_cons.2 ⟨⟨_,_,_,adK,rfl⟩,(List.forall_mem_cons.2 ⟨⟨_,_,_,adL,rfl⟩,(List.forall_mem_cons.2 ⟨⟨_,_,_,adM,rfl⟩,(List.forall_mem_cons.2 ⟨⟨_,_,_,adN,rfl⟩,(List.forall_mem_cons.2 ⟨⟨_,_,_,adO,rfl⟩,(List.forall_mem_cons.2 ⟨⟨_,_,_,adP,rfl⟩,(List.forall_mem_cons.2 ⟨⟨_,_,_,adQ,rfl⟩,(List.forall_mem_cons.2 ⟨⟨_,_,_,adR,rfl⟩,(List.forall_mem_cons.2 ⟨⟨_,_,_,adS,rfl⟩,(List.forall_mem_cons.2 ⟨⟨_,_,_,adT,rfl⟩,(List.forall_mem_cons.2 ⟨⟨_,_,_,adU,rfl⟩,(List.forall_mem_cons.2 ⟨⟨_,_,_,adV,rfl⟩,(List.forall_mem_cons.2 ⟨⟨_,_,_,Y9,rfl⟩,(List.forall_mem_cons.2 ⟨⟨_,_,_,Za,rfl⟩,(List.forall_mem_cons.2 ⟨⟨_,_,_,Zb,rfl⟩,(List.forall_mem_cons.2 ⟨⟨_,_,_,Zc,rfl⟩,(List.forall_mem_cons.2 ⟨⟨_,_,_,Zd,rfl⟩,(List.forall_mem_cons.2 ⟨⟨_,_,_,Ze,rfl⟩,(List.forall_mem_cons.2 ⟨⟨_,_,_,Zf,rfl⟩,(List.forall_mem_cons.2 ⟨⟨_,_,_,Zg,rfl⟩,(List.forall_mem_cons.2 ⟨⟨_,_,_,Zh,rfl⟩,(List.forall_mem_cons.2 ⟨⟨_,_,_,Zi,rfl⟩,(List.forall_mem_cons.2 ⟨⟨_,_,_,Zj,rfl⟩,(List.forall_mem_cons.2 ⟨⟨_,_,_,Zk,rfl⟩,(List.forall_mem_cons.2 ⟨⟨_,_,_,Zl,rfl⟩,(List.forall_mem_cons.2 ⟨⟨_,_,_,Zm,rfl⟩,(List.forall_mem_cons.2 ⟨⟨_,_,_,Zn,rfl⟩,(List.forall_mem_cons.2 ⟨⟨_,_,_,Zo,rfl⟩,(List.forall_mem_cons.2 ⟨⟨_,_,_,Zp,rfl⟩,(List.forall_mem_cons.2 ⟨⟨_,_,_,Zq,rfl⟩,(List.forall_mem_cons.2 ⟨⟨_,_,_,Zr,rfl⟩,(List.forall_mem_cons.2 ⟨⟨_,_,_,Zt,rfl⟩,(List.forall_mem_cons.2 ⟨⟨_,_,_,Zu,rfl⟩,(List.forall_mem_cons.2 ⟨⟨_,_,_,Zv,rfl⟩,(List.forall_mem_cons.2 ⟨⟨_,_,_,Zw,rfl⟩,(List.forall_mem_cons.2 ⟨⟨_,_,_,Zx,rfl⟩,(List.forall_mem_cons.2 ⟨⟨_,_,_,Zy,rfl⟩,(List.forall_mem_cons.2 ⟨⟨_,_,_,Zz,rfl⟩,(List.forall_mem_cons.2 ⟨⟨_,_,_,ZA,rfl⟩,(List.forall_mem_cons.2 ⟨⟨_,_,_,ZB,rfl⟩,(List.forall_mem_cons.2 ⟨⟨_,_,_,ZC,rfl⟩,(List.forall_mem_cons.2 ⟨⟨_,_,_,ZE,rfl⟩,(List.forall_mem_cons.2 ⟨⟨_,_,_,ZF,rfl⟩,(fun _ h=>nomatch h)⟩)⟩)⟩)⟩)⟩)⟩)⟩)⟩)⟩)⟩)⟩)⟩)⟩)⟩)⟩)⟩)⟩)⟩)⟩)⟩)⟩)⟩)⟩)⟩)⟩)⟩)⟩)⟩)⟩)⟩)⟩)⟩)⟩)⟩)⟩)⟩)⟩)⟩)⟩)⟩)⟩)⟩)⟩)⟩)⟩)⟩)⟩)⟩)⟩)⟩)⟩)⟩)⟩)⟩)⟩)⟩)⟩)⟩)⟩)⟩)⟩)⟩)⟩)⟩)⟩)⟩)⟩)⟩)
 sl:=fun t e n b cs=>lT (l:=tab.sl) (p:=fun t (x:TypeId × Nat × Nat × List AV)=>∃ z,sle Tryd.prog t = some (x.1,some z,x.2.1,x.2.2.1) /\ cellsOf (Ph z) = some x.2.2.2 /\ z.cells.size = x.2.1 /\ 0 < x.2.1 /\ x.2.2.2.length = x.2.1) (List.forall_mem_cons.2 ⟨⟨_,Yj,rfl,rfl,Nat.succ_pos _,rfl⟩,(List.forall_mem_cons.2 ⟨⟨_,Yl,rfl,rfl,Nat.succ_pos _,rfl⟩,(List.forall_mem_cons.2 ⟨⟨_,Yo,rfl,rfl,Nat.succ_pos _,rfl⟩,(List.forall_mem_cons.2 ⟨⟨_,YL,rfl,rfl,Nat.succ_pos _,rfl⟩,(List.forall_mem_cons.2 ⟨⟨_,YV,rfl,rfl,Nat.succ_pos _,rfl⟩,(List.forall_mem_cons.2 ⟨⟨_,UN,rfl,rfl,Nat.succ_pos _,rfl⟩,(List.forall_mem_cons.2 ⟨⟨_,UZ,rfl,rfl,Nat.succ_pos _,rfl⟩,(List.forall_mem_cons.2 ⟨⟨_,Vw,rfl,rfl,Nat.succ_pos _,rfl⟩,(fun _ h=>nomatch h)⟩)⟩)⟩)⟩)⟩)⟩)⟩)⟩) t (e,n,b,cs)
 ar:=lT (p:=fun t x=>arr Tryd.prog t = some x) (List.forall_mem_cons.2 ⟨YN,(List.forall_mem_cons.2 ⟨UK,(List.forall_mem_cons.2 ⟨Vg,(List.forall_mem_cons.2 ⟨Vo,(List.forall_mem_cons.2 ⟨Vr,(fun _ h=>nomatch h)⟩)⟩)⟩)⟩)⟩)
 ly:=lT (p:=fun t x=>lay Tryd.prog t = some x) (List.forall_mem_cons.2 ⟨Yq,(List.forall_mem_cons.2 ⟨Yt,(List.forall_mem_cons.2 ⟨Yx,(List.forall_mem_cons.2 ⟨Yz,(List.forall_mem_cons.2 ⟨YD,(List.forall_mem_cons.2 ⟨YF,(List.forall_mem_cons.2 ⟨YH,(List.forall_mem_cons.2 ⟨YJ,(List.forall_mem_cons.2 ⟨YO,(List.forall_mem_cons.2 ⟨YQ,(List.forall_mem_cons.2 ⟨YS,(List.forall_mem_cons.2 ⟨YX,(List.forall_mem_cons.2 ⟨Y0,(List.forall_mem_cons.2 ⟨Y2,(List.forall_mem_cons.2 ⟨Y4,(List.forall_mem_cons.2 ⟨Y6,(List.forall_mem_cons.2 ⟨Y8,(List.forall_mem_cons.2 ⟨UD,(List.forall_mem_cons.2 ⟨UF,(List.forall_mem_cons.2 ⟨UL,(List.forall_mem_cons.2 ⟨UQ,(List.forall_mem_cons.2 ⟨UU,(List.forall_mem_cons.2 ⟨U1,(List.forall_mem_cons.2 ⟨U3,(List.forall_mem_cons.2 ⟨U5,(List.forall_mem_cons.2 ⟨U7,(List.forall_mem_cons.2 ⟨Vj,(List.forall_mem_cons.2 ⟨Vl,(List.forall_mem_cons.2 ⟨Vp,(List.forall_mem_cons.2 ⟨Vs,(List.forall_mem_cons.2 ⟨Vy,(List.forall_mem_cons.2 ⟨VA,(fun _ h=>nomatch h)⟩)⟩)⟩)⟩)⟩)⟩)⟩)⟩)⟩)⟩)⟩)⟩)⟩)⟩)⟩)⟩)⟩)⟩)⟩)⟩)⟩)⟩)⟩)⟩)⟩)⟩)⟩)⟩)⟩)⟩)⟩)⟩)
 fd:=fun t l h f x hx=>by
   have:=lT (l:=tab.fd) (p:=fun t l=>Ev.P7 Tryd.prog t 0 l) (List.forall_mem_cons.2 ⟨⟨Qm,Qn,Qo,trivial⟩,(List.forall_mem_cons.2 ⟨⟨Qp,Qq,Qr,trivial⟩,(List.forall_mem_cons.2 ⟨⟨Qs,Qu,Qv,trivial⟩,(List.forall_mem_cons.2 ⟨⟨Qw,Qy,Qz,trivial⟩,(List.forall_mem_cons.2 ⟨⟨QA,QB,trivial⟩,(List.forall_mem_cons.2 ⟨⟨QC,QD,trivial⟩,(List.forall_mem_cons.2 ⟨⟨QE,QF,trivial⟩,(List.forall_mem_cons.2 ⟨⟨QG,QH,trivial⟩,(List.forall_mem_cons.2 ⟨⟨QI,QJ,QK,trivial⟩,(List.forall_mem_cons.2 ⟨⟨QL,QM,QN,trivial⟩,(List.forall_mem_cons.2 ⟨⟨QO,QS,trivial⟩,(List.forall_mem_cons.2 ⟨⟨QT,QU,trivial⟩,(List.forall_mem_cons.2 ⟨⟨QV,QW,trivial⟩,(List.forall_mem_cons.2 ⟨⟨QX,QY,trivial⟩,(List.forall_mem_cons.2 ⟨⟨QZ,Q5,Q7,Q8,trivial⟩,(List.forall_mem_cons.2 ⟨⟨Q9,Rf,Rh,Ri,trivial⟩,(List.forall_mem_cons.2 ⟨⟨Nu,Nv,trivial⟩,(List.forall_mem_cons.2 ⟨⟨Nw,Ny,trivial⟩,(List.forall_mem_cons.2 ⟨⟨Nz,trivial⟩,(List.forall_mem_cons.2 ⟨⟨NC,trivial⟩,(List.forall_mem_cons.2 ⟨⟨ND,NG,trivial⟩,(List.forall_mem_cons.2 ⟨⟨NH,NI,trivial⟩,(List.forall_mem_cons.2 ⟨⟨NJ,NK,trivial⟩,(List.forall_mem_cons.2 ⟨⟨NM,NP,trivial⟩,(List.forall_mem_cons.2 ⟨⟨NQ,NR,trivial⟩,(List.forall_mem_cons.2 ⟨⟨NS,NT,trivial⟩,(List.forall_mem_cons.2 ⟨⟨NU,NV,trivial⟩,(List.forall_mem_cons.2 ⟨⟨NW,NY,trivial⟩,(fun _ h=>nomatch h)⟩)⟩)⟩)⟩)⟩)⟩)⟩)⟩)⟩)⟩)⟩)⟩)⟩)⟩)⟩)⟩)⟩)⟩)⟩)⟩)⟩)⟩)⟩)⟩)⟩)⟩)⟩)⟩) t l h
   have:=Ev.BI this f x hx
   rwa [Nat.zero_add] at this
 eq:=fun t h=>by
   have h':=List.contains_iff_mem.1 h
   simp only [tab,List.mem_cons,List.not_mem_nil,or_false] at h'
   rcases h' with rfl | rfl
   · exact BO Tryd.underlying34 (by decide) (by decide) ⟨rfl,rfl,rfl⟩ Tryd.underlying3 Tryd.underlying9 (by kernel_rfl) (by kernel_rfl) (by kernel_rfl) (by kernel_rfl)
   · exact BO Tryd.underlying35 (by decide) (by decide) ⟨rfl,rfl,rfl⟩ Tryd.underlying3 Tryd.underlying9 (by kernel_rfl) (by kernel_rfl) (by kernel_rfl) (by kernel_rfl)
theorem mixed' (keep:List Nat) (N:Nat):(Env.P ⟨env.P,env.G,keep,N⟩).follows .mixedOrders = true:=by rfl
theorem wJ (keep:List Nat) (N:Nat):jB (Env.P ⟨env.P,env.G,keep,N⟩) tab:=J7
end Go.Proofs.YtadlnaljicikfaaDoor.aB
