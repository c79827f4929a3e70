/- A part of the proof: a calculus over values, and contracts of functions. No condition. -/
import Derived.Test.YtadlnaljicikfaaDoorZN2
import Derived.Test.YtadlnaljicikfaaDoorProg
import Derived.Lib.DecodeN
set_option linter.unusedVariables false
set_option linter.unusedSimpArgs false
namespace Go.Proofs.YtadlnaljicikfaaDoor.aI
open Go
set_option maxRecDepth 100000
theorem adS:iK Tryd.prog 0 = some (false,1):=by rfl
theorem Qz:kindOf Tryd.prog 0 = some TK.other:=by rfl
theorem ahH:ti Tryd.prog 1 = some (some Value.nilFunc,1,8):=by rfl
theorem adT:iK Tryd.prog 1 = some (false,1):=by rfl
theorem QA:kindOf Tryd.prog 1 = some TK.other:=by rfl
theorem ahI:ti Tryd.prog 2 = some (some (Value.int IntKind.i64 0),1,8):=by rfl
theorem adU:iK Tryd.prog 2 = some (false,1):=by rfl
theorem QB:kindOf Tryd.prog 2 = some (TK.int IntKind.i64):=by rfl
theorem ahJ:ti Tryd.prog 3 = some (some (Value.int IntKind.i64 0),1,8):=by rfl
theorem adV:iK Tryd.prog 3 = some (false,1):=by rfl
theorem QC:kindOf Tryd.prog 3 = some (TK.int IntKind.i64):=by rfl
theorem ahK:ti Tryd.prog 4 = some (some (Value.bool false),1,1):=by rfl
theorem adW:iK Tryd.prog 4 = some (false,1):=by rfl
theorem QD:kindOf Tryd.prog 4 = some TK.bool:=by rfl
theorem ahL:ti Tryd.prog 5 = some (some (Value.int IntKind.u8 0),1,1):=by rfl
theorem adX:iK Tryd.prog 5 = some (false,1):=by rfl
theorem QE:kindOf Tryd.prog 5 = some (TK.int IntKind.u8):=by rfl
theorem ahM:ti Tryd.prog 9 = some (some (Value.string (⟨#[]⟩:ByteArray)),1,16):=by rfl
theorem adY:iK Tryd.prog 9 = some (false,1):=by rfl
theorem QF:kindOf Tryd.prog 9 = some TK.str:=by rfl
theorem adZ:ti Tryd.prog 12 = some (some (Value.int IntKind.u64 0),1,8):=by rfl
theorem YO:iK Tryd.prog 12 = some (false,1):=by rfl
theorem Na:kindOf Tryd.prog 12 = some (TK.int IntKind.u64):=by rfl
theorem aeA:ti Tryd.prog 20 = some (some Value.nilIface,1,16):=by rfl
theorem YP:iK Tryd.prog 20 = some (false,1):=by rfl
theorem Nb:kindOf Tryd.prog 20 = some TK.other:=by rfl
theorem aeB:ti Tryd.prog 21 = some (some (Value.int IntKind.i32 0),1,4):=by rfl
theorem YQ:iK Tryd.prog 21 = some (false,1):=by rfl
theorem Nc:kindOf Tryd.prog 21 = some (TK.int IntKind.i32):=by rfl
theorem aeC:ti Tryd.prog 22 = some (some (Value.slice none 0 0),1,24):=by rfl
theorem YR:iK Tryd.prog 22 = some (false,1):=by rfl
theorem YS:sle Tryd.prog 22 = some (23,some (Value.slice none 0 0),1,24):=by rfl
theorem Nh:kindOf Tryd.prog 22 = some (TK.sl 23):=by rfl
theorem aeD:ti Tryd.prog 23 = some (some (Value.slice none 0 0),1,24):=by rfl
theorem YT:iK Tryd.prog 23 = some (false,1):=by rfl
theorem YU:sle Tryd.prog 23 = some (35,some (Value.agg #[Value.int IntKind.i64 0,Value.int IntKind.i64 0,Value.string (⟨#[]⟩:ByteArray)]),3,32):=by rfl
theorem Nj:kindOf Tryd.prog 23 = some (TK.sl 35):=by rfl
theorem aeE:ti Tryd.prog 24 = some (some Value.nilFunc,1,8):=by rfl
theorem YV:iK Tryd.prog 24 = some (false,1):=by rfl
theorem Nk:kindOf Tryd.prog 24 = some TK.other:=by rfl
theorem aeF:ti Tryd.prog 25 = some (some (Value.slice none 0 0),1,24):=by rfl
theorem YW:iK Tryd.prog 25 = some (false,1):=by rfl
theorem YX:sle Tryd.prog 25 = some (3,some (Value.int IntKind.i64 0),1,8):=by rfl
theorem Nl:kindOf Tryd.prog 25 = some (TK.sl 3):=by rfl
theorem aeG:ti Tryd.prog 26 = some (some (Value.agg #[Value.string (⟨#[]⟩:ByteArray),Value.slice none 0 0,Value.slice none 0 0]),3,64):=by rfl
theorem YZ:iK Tryd.prog 26 = some (true,3):=by rfl
theorem Y0:lay Tryd.prog 26 = some ([AV.v (Value.string (⟨#[]⟩:ByteArray)),AV.v (Value.slice none 0 0),AV.v (Value.slice none 0 0)],[(0,1),(1,1),(2,1)]):=by rfl
theorem Np:kindOf Tryd.prog 26 = some TK.other:=by rfl
theorem QG:iY Tryd.prog 26 0 = some (0,9,1):=by rfl
theorem QH:iY Tryd.prog 26 1 = some (1,25,1):=by rfl
theorem QI:iY Tryd.prog 26 2 = some (2,22,1):=by rfl
theorem aeH:ti Tryd.prog 27 = some (some (Value.agg #[Value.string (⟨#[]⟩:ByteArray),Value.slice none 0 0,Value.slice none 0 0]),3,64):=by rfl
theorem Y1:iK Tryd.prog 27 = some (true,3):=by rfl
theorem Y2:lay Tryd.prog 27 = some ([AV.v (Value.string (⟨#[]⟩:ByteArray)),AV.v (Value.slice none 0 0),AV.v (Value.slice none 0 0)],[(0,1),(1,1),(2,1)]):=by rfl
theorem Nq:kindOf Tryd.prog 27 = some TK.other:=by rfl
theorem QJ:iY Tryd.prog 27 0 = some (0,9,1):=by rfl
theorem QK:iY Tryd.prog 27 1 = some (1,25,1):=by rfl
theorem QL:iY Tryd.prog 27 2 = some (2,22,1):=by rfl
theorem aeI:ti Tryd.prog 29 = some (some (Value.pointer none),1,8):=by rfl
theorem Y3:iK Tryd.prog 29 = some (false,1):=by rfl
theorem Nr:kindOf Tryd.prog 29 = some TK.ptr:=by rfl
theorem aeJ:ti Tryd.prog 30 = some (some (Value.int IntKind.i64 0),1,8):=by rfl
theorem Y4:iK Tryd.prog 30 = some (false,1):=by rfl
theorem Nu:kindOf Tryd.prog 30 = some (TK.int IntKind.i64):=by rfl
theorem aeK:ti Tryd.prog 34 = some (some (Value.agg #[Value.int IntKind.i64 0,Value.int IntKind.i64 0,Value.string (⟨#[]⟩:ByteArray)]),3,32):=by rfl
theorem Y5:iK Tryd.prog 34 = some (true,3):=by rfl
theorem Y6:lay Tryd.prog 34 = some ([AV.v (Value.int IntKind.i64 0),AV.v (Value.int IntKind.i64 0),AV.v (Value.string (⟨#[]⟩:ByteArray))],[(0,1),(1,1),(2,1)]):=by rfl
theorem Nv:kindOf Tryd.prog 34 = some TK.other:=by rfl
theorem QM:iY Tryd.prog 34 0 = some (0,3,1):=by rfl
theorem QN:iY Tryd.prog 34 1 = some (1,3,1):=by rfl
theorem QO:iY Tryd.prog 34 2 = some (2,9,1):=by rfl
theorem aeL:ti Tryd.prog 35 = some (some (Value.agg #[Value.int IntKind.i64 0,Value.int IntKind.i64 0,Value.string (⟨#[]⟩:ByteArray)]),3,32):=by rfl
theorem Y7:iK Tryd.prog 35 = some (true,3):=by rfl
theorem Y8:lay Tryd.prog 35 = some ([AV.v (Value.int IntKind.i64 0),AV.v (Value.int IntKind.i64 0),AV.v (Value.string (⟨#[]⟩:ByteArray))],[(0,1),(1,1),(2,1)]):=by rfl
theorem Nw:kindOf Tryd.prog 35 = some TK.other:=by rfl
theorem QS:iY Tryd.prog 35 0 = some (0,3,1):=by rfl
theorem QT:iY Tryd.prog 35 1 = some (1,3,1):=by rfl
theorem QU:iY Tryd.prog 35 2 = some (2,9,1):=by rfl
theorem aeM:ti Tryd.prog 36 = some (some Value.nilFunc,1,8):=by rfl
theorem Y9:iK Tryd.prog 36 = some (false,1):=by rfl
theorem Ny:kindOf Tryd.prog 36 = some TK.other:=by rfl
theorem aeN:ti Tryd.prog 40 = some (some Value.nilFunc,1,8):=by rfl
theorem Za:iK Tryd.prog 40 = some (false,1):=by rfl
theorem Nz:kindOf Tryd.prog 40 = some TK.other:=by rfl
theorem aeO:ti Tryd.prog 41 = some (some (Value.agg #[Value.slice none 0 0,Value.slice none 0 0]),2,48):=by rfl
theorem Zb:iK Tryd.prog 41 = some (true,2):=by rfl
theorem Zc:lay Tryd.prog 41 = some ([AV.v (Value.slice none 0 0),AV.v (Value.slice none 0 0)],[(0,1),(1,1)]):=by rfl
theorem NC:kindOf Tryd.prog 41 = some TK.other:=by rfl
theorem QV:iY Tryd.prog 41 0 = some (0,22,1):=by rfl
theorem QW:iY Tryd.prog 41 1 = some (1,25,1):=by rfl
theorem aeP:ti Tryd.prog 42 = some (some (Value.agg #[Value.slice none 0 0,Value.slice none 0 0]),2,48):=by rfl
theorem Zd:iK Tryd.prog 42 = some (true,2):=by rfl
theorem Ze:lay Tryd.prog 42 = some ([AV.v (Value.slice none 0 0),AV.v (Value.slice none 0 0)],[(0,1),(1,1)]):=by rfl
theorem ND:kindOf Tryd.prog 42 = some TK.other:=by rfl
theorem QX:iY Tryd.prog 42 0 = some (0,22,1):=by rfl
theorem QY:iY Tryd.prog 42 1 = some (1,25,1):=by rfl
theorem aeQ:ti Tryd.prog 43 = some (some (Value.agg #[Value.slice none 0 0,Value.slice none 0 0,Value.string (⟨#[]⟩:ByteArray)]),3,64):=by rfl
theorem Zf:iK Tryd.prog 43 = some (true,3):=by rfl
theorem Zg:lay Tryd.prog 43 = some ([AV.v (Value.slice none 0 0),AV.v (Value.slice none 0 0),AV.v (Value.string (⟨#[]⟩:ByteArray))],[(0,2),(2,1)]):=by rfl
theorem NG:kindOf Tryd.prog 43 = some TK.other:=by rfl
theorem QZ:iY Tryd.prog 43 0 = some (0,42,2):=by rfl
theorem Q5:iY Tryd.prog 43 1 = some (2,9,1):=by rfl
theorem aeR:ti Tryd.prog 44 = some (some (Value.agg #[Value.slice none 0 0,Value.slice none 0 0,Value.string (⟨#[]⟩:ByteArray)]),3,64):=by rfl
theorem Zh:iK Tryd.prog 44 = some (true,3):=by rfl
theorem Zi:lay Tryd.prog 44 = some ([AV.v (Value.slice none 0 0),AV.v (Value.slice none 0 0),AV.v (Value.string (⟨#[]⟩:ByteArray))],[(0,2),(2,1)]):=by rfl
theorem NH:kindOf Tryd.prog 44 = some TK.other:=by rfl
theorem Q7:iY Tryd.prog 44 0 = some (0,42,2):=by rfl
theorem Q8:iY Tryd.prog 44 1 = some (2,9,1):=by rfl
theorem aeS:ti Tryd.prog 56 = some (some (Value.slice none 0 0),1,24):=by rfl
theorem Zj:iK Tryd.prog 56 = some (false,1):=by rfl
theorem Zk:sle Tryd.prog 56 = some (5,some (Value.int IntKind.u8 0),1,1):=by rfl
theorem NI:kindOf Tryd.prog 56 = some (TK.sl 5):=by rfl
theorem aeT:ti Tryd.prog 71 = some (some (Value.agg #[Value.int IntKind.u8 0,Value.int IntKind.u8 0]),2,2):=by rfl
theorem Zl:iK Tryd.prog 71 = some (true,2):=by rfl
theorem Zm:arr Tryd.prog 71 = some (2,5,1):=by rfl
theorem Zn:lay Tryd.prog 71 = some ([AV.v (Value.int IntKind.u8 0),AV.v (Value.int IntKind.u8 0)],[(0,1),(1,1)]):=by rfl
theorem NJ:kindOf Tryd.prog 71 = some TK.other:=by rfl
theorem aeU:ti Tryd.prog 73 = some (some (Value.agg #[Value.slice none 0 0,Value.int IntKind.i64 0,Value.int IntKind.i64 0]),3,40):=by rfl
theorem Zo:iK Tryd.prog 73 = some (true,3):=by rfl
theorem Zp:lay Tryd.prog 73 = some ([AV.v (Value.slice none 0 0),AV.v (Value.int IntKind.i64 0),AV.v (Value.int IntKind.i64 0)],[(0,1),(1,1),(2,1)]):=by rfl
theorem NK:kindOf Tryd.prog 73 = some TK.other:=by rfl
theorem Q9:iY Tryd.prog 73 0 = some (0,23,1):=by rfl
theorem Rf:iY Tryd.prog 73 1 = some (1,3,1):=by rfl
theorem Rh:iY Tryd.prog 73 2 = some (2,3,1):=by rfl
theorem aeV:ti Tryd.prog 74 = some (some (Value.agg #[Value.slice none 0 0,Value.int IntKind.i64 0,Value.int IntKind.i64 0]),3,40):=by rfl
theorem Zq:iK Tryd.prog 74 = some (true,3):=by rfl
theorem Zr:lay Tryd.prog 74 = some ([AV.v (Value.slice none 0 0),AV.v (Value.int IntKind.i64 0),AV.v (Value.int IntKind.i64 0)],[(0,1),(1,1),(2,1)]):=by rfl
theorem NM:kindOf Tryd.prog 74 = some TK.other:=by rfl
theorem Ri:iY Tryd.prog 74 0 = some (0,23,1):=by rfl
theorem Rj:iY Tryd.prog 74 1 = some (1,3,1):=by rfl
theorem Rk:iY Tryd.prog 74 2 = some (2,3,1):=by rfl
theorem aeW:ti Tryd.prog 75 = some (some (Value.pointer none),1,8):=by rfl
theorem Zt:iK Tryd.prog 75 = some (false,1):=by rfl
theorem NP:kindOf Tryd.prog 75 = some TK.ptr:=by rfl
theorem aeX:ti Tryd.prog 78 = some (some (Value.slice none 0 0),1,24):=by rfl
theorem Zu:iK Tryd.prog 78 = some (false,1):=by rfl
theorem Zv:sle Tryd.prog 78 = some (9,some (Value.string (⟨#[]⟩:ByteArray)),1,16):=by rfl
theorem NQ:kindOf Tryd.prog 78 = some (TK.sl 9):=by rfl
theorem aeY:ti Tryd.prog 79 = some (some (Value.agg #[Value.slice none 0 0,Value.slice none 0 0]),2,48):=by rfl
theorem Zw:iK Tryd.prog 79 = some (true,2):=by rfl
theorem Zx:lay Tryd.prog 79 = some ([AV.v (Value.slice none 0 0),AV.v (Value.slice none 0 0)],[(0,1),(1,1)]):=by rfl
theorem NR:kindOf Tryd.prog 79 = some TK.other:=by rfl
theorem Rl:iY Tryd.prog 79 0 = some (0,78,1):=by rfl
theorem Rn:iY Tryd.prog 79 1 = some (1,22,1):=by rfl
theorem aeZ:ti Tryd.prog 80 = some (some (Value.agg #[Value.slice none 0 0,Value.slice none 0 0]),2,48):=by rfl
theorem Zy:iK Tryd.prog 80 = some (true,2):=by rfl
theorem Zz:lay Tryd.prog 80 = some ([AV.v (Value.slice none 0 0),AV.v (Value.slice none 0 0)],[(0,1),(1,1)]):=by rfl
theorem NS:kindOf Tryd.prog 80 = some TK.other:=by rfl
theorem Ro:iY Tryd.prog 80 0 = some (0,78,1):=by rfl
theorem Rq:iY Tryd.prog 80 1 = some (1,22,1):=by rfl
theorem afA:ti Tryd.prog 84 = some (some (Value.agg #[Value.slice none 0 0,Value.int IntKind.i64 0]),2,32):=by rfl
theorem ZA:iK Tryd.prog 84 = some (true,2):=by rfl
theorem ZB:lay Tryd.prog 84 = some ([AV.v (Value.slice none 0 0),AV.v (Value.int IntKind.i64 0)],[(0,1),(1,1)]):=by rfl
theorem NT:kindOf Tryd.prog 84 = some TK.other:=by rfl
theorem Rt:iY Tryd.prog 84 0 = some (0,25,1):=by rfl
theorem Ru:iY Tryd.prog 84 1 = some (1,3,1):=by rfl
theorem afB:ti Tryd.prog 85 = some (some (Value.agg #[Value.slice none 0 0,Value.int IntKind.i64 0]),2,32):=by rfl
theorem ZC:iK Tryd.prog 85 = some (true,2):=by rfl
theorem ZE:lay Tryd.prog 85 = some ([AV.v (Value.slice none 0 0),AV.v (Value.int IntKind.i64 0)],[(0,1),(1,1)]):=by rfl
theorem NU:kindOf Tryd.prog 85 = some TK.other:=by rfl
theorem Rw:iY Tryd.prog 85 0 = some (0,25,1):=by rfl
theorem Rx:iY Tryd.prog 85 1 = some (1,3,1):=by rfl
theorem afC:ti Tryd.prog 88 = some (some (Value.agg #[Value.slice none 0 0,Value.int IntKind.i64 0,Value.int IntKind.i64 0,Value.slice none 0 0]),4,64):=by rfl
theorem ZF:iK Tryd.prog 88 = some (true,4):=by rfl
theorem ZG:lay Tryd.prog 88 = some ([AV.v (Value.slice none 0 0),AV.v (Value.int IntKind.i64 0),AV.v (Value.int IntKind.i64 0),AV.v (Value.slice none 0 0)],[(0,1),(1,1),(2,1),(3,1)]):=by rfl
theorem NV:kindOf Tryd.prog 88 = some TK.other:=by rfl
theorem Ry:iY Tryd.prog 88 0 = some (0,25,1):=by rfl
theorem Rz:iY Tryd.prog 88 1 = some (1,3,1):=by rfl
theorem RD:iY Tryd.prog 88 2 = some (2,3,1):=by rfl
theorem RF:iY Tryd.prog 88 3 = some (3,23,1):=by rfl
theorem afD:ti Tryd.prog 89 = some (some (Value.agg #[Value.slice none 0 0,Value.int IntKind.i64 0,Value.int IntKind.i64 0,Value.slice none 0 0]),4,64):=by rfl
theorem ZH:iK Tryd.prog 89 = some (true,4):=by rfl
theorem ZI:lay Tryd.prog 89 = some ([AV.v (Value.slice none 0 0),AV.v (Value.int IntKind.i64 0),AV.v (Value.int IntKind.i64 0),AV.v (Value.slice none 0 0)],[(0,1),(1,1),(2,1),(3,1)]):=by rfl
theorem NW:kindOf Tryd.prog 89 = some TK.other:=by rfl
theorem RG:iY Tryd.prog 89 0 = some (0,25,1):=by rfl
theorem RH:iY Tryd.prog 89 1 = some (1,3,1):=by rfl
theorem RJ:iY Tryd.prog 89 2 = some (2,3,1):=by rfl
theorem RN:iY Tryd.prog 89 3 = some (3,23,1):=by rfl
theorem ZJ:ti Tryd.prog 103 = some (some (Value.agg #[Value.slice none 0 0,Value.slice none 0 0]),2,48):=by rfl
theorem Vd:iK Tryd.prog 103 = some (true,2):=by rfl
theorem Ve:lay Tryd.prog 103 = some ([AV.v (Value.slice none 0 0),AV.v (Value.slice none 0 0)],[(0,1),(1,1)]):=by rfl
theorem I7:kindOf Tryd.prog 103 = some TK.other:=by rfl
theorem NY:iY Tryd.prog 103 0 = some (0,25,1):=by rfl
theorem NZ:iY Tryd.prog 103 1 = some (1,56,1):=by rfl
theorem ZK:ti Tryd.prog 104 = some (some (Value.agg #[Value.slice none 0 0,Value.slice none 0 0]),2,48):=by rfl
theorem Vf:iK Tryd.prog 104 = some (true,2):=by rfl
theorem Vg:lay Tryd.prog 104 = some ([AV.v (Value.slice none 0 0),AV.v (Value.slice none 0 0)],[(0,1),(1,1)]):=by rfl
theorem I8:kindOf Tryd.prog 104 = some TK.other:=by rfl
theorem N7:iY Tryd.prog 104 0 = some (0,25,1):=by rfl
theorem N8:iY Tryd.prog 104 1 = some (1,56,1):=by rfl
theorem ZL:ti Tryd.prog 108 = some (some (Value.pointer none),1,8):=by rfl
theorem Vh:iK Tryd.prog 108 = some (false,1):=by rfl
theorem I9:kindOf Tryd.prog 108 = some TK.ptr:=by rfl
theorem ZM:ti Tryd.prog 112 = some (some Value.nilFunc,1,8):=by rfl
theorem Vj:iK Tryd.prog 112 = some (false,1):=by rfl
theorem Ja:kindOf Tryd.prog 112 = some TK.other:=by rfl
theorem ZN:ti Tryd.prog 114 = some (some (Value.agg #[Value.int IntKind.i32 0,Value.int IntKind.i32 0,Value.int IntKind.i32 0,Value.int IntKind.i32 0,Value.int IntKind.i32 0,Value.int IntKind.i32 0,Value.int IntKind.i32 0,Value.int IntKind.i32 0]),8,32):=by rfl
theorem Vk:iK Tryd.prog 114 = some (true,8):=by rfl
theorem Vl:arr Tryd.prog 114 = some (8,21,1):=by rfl
theorem Vm:lay Tryd.prog 114 = some ([AV.v (Value.int IntKind.i32 0),AV.v (Value.int IntKind.i32 0),AV.v (Value.int IntKind.i32 0),AV.v (Value.int IntKind.i32 0),AV.v (Value.int IntKind.i32 0),AV.v (Value.int IntKind.i32 0),AV.v (Value.int IntKind.i32 0),AV.v (Value.int IntKind.i32 0)],[(0,1),(1,1),(2,1),(3,1),(4,1),(5,1),(6,1),(7,1)]):=by rfl
theorem Jb:kindOf Tryd.prog 114 = some TK.other:=by rfl
theorem ZO:ti Tryd.prog 115 = some (some (Value.slice none 0 0),1,24):=by rfl
theorem Vo:iK Tryd.prog 115 = some (false,1):=by rfl
theorem Vp:sle Tryd.prog 115 = some (21,some (Value.int IntKind.i32 0),1,4):=by rfl
theorem Jc:kindOf Tryd.prog 115 = some (TK.sl 21):=by rfl
theorem ZP:ti Tryd.prog 123 = some (some (Value.agg #[Value.slice none 0 0]),1,24):=by rfl
theorem Vq:iK Tryd.prog 123 = some (true,1):=by rfl
theorem Vr:lay Tryd.prog 123 = some ([AV.v (Value.slice none 0 0)],[(0,1)]):=by rfl
theorem Jd:kindOf Tryd.prog 123 = some TK.other:=by rfl
theorem N9:iY Tryd.prog 123 0 = some (0,56,1):=by rfl
theorem ZQ:ti Tryd.prog 124 = some (some (Value.agg #[Value.slice none 0 0]),1,24):=by rfl
theorem Vs:iK Tryd.prog 124 = some (true,1):=by rfl
theorem Vt:lay Tryd.prog 124 = some ([AV.v (Value.slice none 0 0)],[(0,1)]):=by rfl
theorem Je:kindOf Tryd.prog 124 = some TK.other:=by rfl
theorem Oa:iY Tryd.prog 124 0 = some (0,56,1):=by rfl
theorem ZR:ti Tryd.prog 125 = some (some Value.nilFunc,1,8):=by rfl
theorem Vu:iK Tryd.prog 125 = some (false,1):=by rfl
theorem Jf:kindOf Tryd.prog 125 = some TK.other:=by rfl
theorem ZT:ti Tryd.prog 140 = some (some (Value.slice none 0 0),1,24):=by rfl
theorem Vw:iK Tryd.prog 140 = some (false,1):=by rfl
theorem Vx:sle Tryd.prog 140 = some (35,some (Value.agg #[Value.int IntKind.i64 0,Value.int IntKind.i64 0,Value.string (⟨#[]⟩:ByteArray)]),3,32):=by rfl
theorem Jg:kindOf Tryd.prog 140 = some (TK.sl 35):=by rfl
theorem ZU:ti Tryd.prog 142 = some (some (Value.agg #[Value.bool false,Value.bool false]),2,2):=by rfl
theorem Vy:iK Tryd.prog 142 = some (true,2):=by rfl
theorem Vz:lay Tryd.prog 142 = some ([AV.v (Value.bool false),AV.v (Value.bool false)],[(0,1),(1,1)]):=by rfl
theorem Jh:kindOf Tryd.prog 142 = some TK.other:=by rfl
theorem Ob:iY Tryd.prog 142 0 = some (0,4,1):=by rfl
theorem Oc:iY Tryd.prog 142 1 = some (1,4,1):=by rfl
theorem ZV:ti Tryd.prog 143 = some (some (Value.agg #[Value.bool false,Value.bool false]),2,2):=by rfl
theorem VA:iK Tryd.prog 143 = some (true,2):=by rfl
theorem VB:lay Tryd.prog 143 = some ([AV.v (Value.bool false),AV.v (Value.bool false)],[(0,1),(1,1)]):=by rfl
theorem Ji:kindOf Tryd.prog 143 = some TK.other:=by rfl
theorem Oe:iY Tryd.prog 143 0 = some (0,4,1):=by rfl
theorem Og:iY Tryd.prog 143 1 = some (1,4,1):=by rfl
theorem ZW:ti Tryd.prog 148 = some (some (Value.agg #[Value.slice none 0 0,Value.int IntKind.i64 0]),2,32):=by rfl
theorem VD:iK Tryd.prog 148 = some (true,2):=by rfl
theorem VE:lay Tryd.prog 148 = some ([AV.v (Value.slice none 0 0),AV.v (Value.int IntKind.i64 0)],[(0,1),(1,1)]):=by rfl
theorem Jj:kindOf Tryd.prog 148 = some TK.other:=by rfl
theorem Oh:iY Tryd.prog 148 0 = some (0,56,1):=by rfl
theorem Oi:iY Tryd.prog 148 1 = some (1,30,1):=by rfl
theorem ZX:ti Tryd.prog 149 = some (some (Value.agg #[Value.slice none 0 0,Value.int IntKind.i64 0]),2,32):=by rfl
theorem VF:iK Tryd.prog 149 = some (true,2):=by rfl
theorem VG:lay Tryd.prog 149 = some ([AV.v (Value.slice none 0 0),AV.v (Value.int IntKind.i64 0)],[(0,1),(1,1)]):=by rfl
theorem Jk:kindOf Tryd.prog 149 = some TK.other:=by rfl
theorem Oj:iY Tryd.prog 149 0 = some (0,56,1):=by rfl
theorem Ol:iY Tryd.prog 149 1 = some (1,30,1):=by rfl
theorem ZY:ti Tryd.prog 153 = some (some (Value.pointer none),1,8):=by rfl
theorem VH:iK Tryd.prog 153 = some (false,1):=by rfl
theorem Jl:kindOf Tryd.prog 153 = some TK.ptr:=by rfl
theorem Z4:ti Tryd.prog 155 = some (some Value.nilFunc,1,8):=by rfl
theorem VI:iK Tryd.prog 155 = some (false,1):=by rfl
theorem Jm:kindOf Tryd.prog 155 = some TK.other:=by rfl
theorem Z5:ti Tryd.prog 157 = some (some (Value.pointer none),1,8):=by rfl
theorem VJ:iK Tryd.prog 157 = some (false,1):=by rfl
theorem Jo:kindOf Tryd.prog 157 = some TK.ptr:=by rfl
theorem Z7:ti Tryd.prog 158 = some (some (Value.int IntKind.u64 0),1,8):=by rfl
theorem VK:iK Tryd.prog 158 = some (false,1):=by rfl
theorem Jp:kindOf Tryd.prog 158 = some (TK.int IntKind.u64):=by rfl
theorem Z8:ti Tryd.prog 161 = some (some (Value.map none),1,8):=by rfl
theorem VL:iK Tryd.prog 161 = some (false,1):=by rfl
theorem Jq:kindOf Tryd.prog 161 = some TK.other:=by rfl
theorem Z9:ti Tryd.prog 164 = some (some (Value.pointer none),1,8):=by rfl
theorem VN:iK Tryd.prog 164 = some (false,1):=by rfl
theorem Jr:kindOf Tryd.prog 164 = some TK.ptr:=by rfl
theorem VO:iK Tryd.prog 171 = some (true,256):=by rfl
theorem VP:arr Tryd.prog 171 = some (256,5,1):=by rfl
theorem Js:kindOf Tryd.prog 171 = some TK.other:=by rfl
theorem aaA:ti Tryd.prog 172 = some (some (Value.agg #[Value.int IntKind.u8 0,Value.int IntKind.u8 0]),2,2):=by rfl
theorem VQ:iK Tryd.prog 172 = some (true,2):=by rfl
theorem VR:lay Tryd.prog 172 = some ([AV.v (Value.int IntKind.u8 0),AV.v (Value.int IntKind.u8 0)],[(0,1),(1,1)]):=by rfl
theorem Jt:kindOf Tryd.prog 172 = some TK.other:=by rfl
theorem Om:iY Tryd.prog 172 0 = some (0,5,1):=by rfl
theorem Oo:iY Tryd.prog 172 1 = some (1,5,1):=by rfl
theorem aaB:ti Tryd.prog 173 = some (some (Value.agg #[Value.int IntKind.u8 0,Value.int IntKind.u8 0]),2,2):=by rfl
theorem VT:iK Tryd.prog 173 = some (true,2):=by rfl
theorem VU:lay Tryd.prog 173 = some ([AV.v (Value.int IntKind.u8 0),AV.v (Value.int IntKind.u8 0)],[(0,1),(1,1)]):=by rfl
theorem Ju:kindOf Tryd.prog 173 = some TK.other:=by rfl
theorem Oq:iY Tryd.prog 173 0 = some (0,5,1):=by rfl
theorem Ot:iY Tryd.prog 173 1 = some (1,5,1):=by rfl
theorem aaC:ti Tryd.prog 174 = some (some (Value.agg #[Value.int IntKind.u8 0,Value.int IntKind.u8 0,Value.int IntKind.u8 0,Value.int IntKind.u8 0,Value.int IntKind.u8 0,Value.int IntKind.u8 0,Value.int IntKind.u8 0,Value.int IntKind.u8 0,Value.int IntKind.u8 0,Value.int IntKind.u8 0,Value.int IntKind.u8 0,Value.int IntKind.u8 0,Value.int IntKind.u8 0,Value.int IntKind.u8 0,Value.int IntKind.u8 0,Value.int IntKind.u8 0,Value.int IntKind.u8 0,Value.int IntKind.u8 0,Value.int IntKind.u8 0,Value.int IntKind.u8 0,Value.int IntKind.u8 0,Value.int IntKind.u8 0,Value.int IntKind.u8 0,Value.int IntKind.u8 0,Value.int IntKind.u8 0,Value.int IntKind.u8 0,Value.int IntKind.u8 0,Value.int IntKind.u8 0,Value.int IntKind.u8 0,Value.int IntKind.u8 0,Value.int IntKind.u8 0,Value.int IntKind.u8 0]),32,32):=by rfl
theorem VW:iK Tryd.prog 174 = some (true,32):=by rfl
theorem VX:arr Tryd.prog 174 = some (16,173,2):=by rfl
theorem VY:lay Tryd.prog 174 = some ([AV.v (Value.int IntKind.u8 0),AV.v (Value.int IntKind.u8 0),AV.v (Value.int IntKind.u8 0),AV.v (Value.int IntKind.u8 0),AV.v (Value.int IntKind.u8 0),AV.v (Value.int IntKind.u8 0),AV.v (Value.int IntKind.u8 0),AV.v (Value.int IntKind.u8 0),AV.v (Value.int IntKind.u8 0),AV.v (Value.int IntKind.u8 0),AV.v (Value.int IntKind.u8 0),AV.v (Value.int IntKind.u8 0),AV.v (Value.int IntKind.u8 0),AV.v (Value.int IntKind.u8 0),AV.v (Value.int IntKind.u8 0),AV.v (Value.int IntKind.u8 0),AV.v (Value.int IntKind.u8 0),AV.v (Value.int IntKind.u8 0),AV.v (Value.int IntKind.u8 0),AV.v (Value.int IntKind.u8 0),AV.v (Value.int IntKind.u8 0),AV.v (Value.int IntKind.u8 0),AV.v (Value.int IntKind.u8 0),AV.v (Value.int IntKind.u8 0),AV.v (Value.int IntKind.u8 0),AV.v (Value.int IntKind.u8 0),AV.v (Value.int IntKind.u8 0),AV.v (Value.int IntKind.u8 0),AV.v (Value.int IntKind.u8 0),AV.v (Value.int IntKind.u8 0),AV.v (Value.int IntKind.u8 0),AV.v (Value.int IntKind.u8 0)],[(0,2),(2,2),(4,2),(6,2),(8,2),(10,2),(12,2),(14,2),(16,2),(18,2),(20,2),(22,2),(24,2),(26,2),(28,2),(30,2)]):=by rfl
theorem Jv:kindOf Tryd.prog 174 = some TK.other:=by rfl
theorem aaD:ti Tryd.prog 175 = some (some (Value.agg #[Value.bool false,Value.bool false,Value.bool false,Value.bool false,Value.bool false,Value.bool false,Value.bool false,Value.bool false]),8,8):=by rfl
theorem VZ:iK Tryd.prog 175 = some (true,8):=by rfl
theorem V3:arr Tryd.prog 175 = some (4,143,2):=by rfl
theorem V4:lay Tryd.prog 175 = some ([AV.v (Value.bool false),AV.v (Value.bool false),AV.v (Value.bool false),AV.v (Value.bool false),AV.v (Value.bool false),AV.v (Value.bool false),AV.v (Value.bool false),AV.v (Value.bool false)],[(0,2),(2,2),(4,2),(6,2)]):=by rfl
theorem Jw:kindOf Tryd.prog 175 = some TK.other:=by rfl
theorem aaE:ti Tryd.prog 176 = some (some (Value.pointer none),1,8):=by rfl
theorem V5:iK Tryd.prog 176 = some (false,1):=by rfl
theorem Jy:kindOf Tryd.prog 176 = some TK.ptr:=by rfl
theorem aaF:ti Tryd.prog 177 = some (some (Value.slice none 0 0),1,24):=by rfl
theorem V6:iK Tryd.prog 177 = some (false,1):=by rfl
theorem V7:sle Tryd.prog 177 = some (155,some Value.nilFunc,1,8):=by rfl
theorem Jz:kindOf Tryd.prog 177 = some (TK.sl 155):=by rfl
theorem aaG:ti Tryd.prog 181 = some (some (Value.agg #[Value.slice none 0 0,Value.slice none 0 0]),2,48):=by rfl
theorem V8:iK Tryd.prog 181 = some (true,2):=by rfl
theorem V9:lay Tryd.prog 181 = some ([AV.v (Value.slice none 0 0),AV.v (Value.slice none 0 0)],[(0,1),(1,1)]):=by rfl
theorem JA:kindOf Tryd.prog 181 = some TK.other:=by rfl
theorem Ou:iY Tryd.prog 181 0 = some (0,23,1):=by rfl
theorem Ov:iY Tryd.prog 181 1 = some (1,115,1):=by rfl
theorem aaH:ti Tryd.prog 182 = some (some (Value.agg #[Value.slice none 0 0,Value.slice none 0 0]),2,48):=by rfl
theorem Wh:iK Tryd.prog 182 = some (true,2):=by rfl
theorem Wi:lay Tryd.prog 182 = some ([AV.v (Value.slice none 0 0),AV.v (Value.slice none 0 0)],[(0,1),(1,1)]):=by rfl
theorem JB:kindOf Tryd.prog 182 = some TK.other:=by rfl
theorem Ox:iY Tryd.prog 182 0 = some (0,23,1):=by rfl
theorem Oy:iY Tryd.prog 182 1 = some (1,115,1):=by rfl
theorem aaI:ti Tryd.prog 185 = some (some (Value.int IntKind.u64 0),1,8):=by rfl
theorem Wj:iK Tryd.prog 185 = some (false,1):=by rfl
theorem JC:kindOf Tryd.prog 185 = some (TK.int IntKind.u64):=by rfl
theorem aaJ:ti Tryd.prog 187 = some (some Value.nilFunc,1,8):=by rfl
theorem Wn:iK Tryd.prog 187 = some (false,1):=by rfl
theorem JD:kindOf Tryd.prog 187 = some TK.other:=by rfl
theorem aaK:ti Tryd.prog 193 = some (some (Value.int IntKind.u32 0),1,4):=by rfl
theorem Wq:iK Tryd.prog 193 = some (false,1):=by rfl
theorem JE:kindOf Tryd.prog 193 = some (TK.int IntKind.u32):=by rfl
def RP:List AV:=[.v (.bool false),.v (.bool false),.v (.bool true),.v (.bool true),.v (.bool false),.v (.bool false),.v (.bool true),.v (.bool false)]
def Dt:List AV:=(List.range 256).map fun c=>AV.v (Value.int IntKind.u8 (Lib.firstT c))
def Bh:List AV:=(List.range 16).flatMap fun i=>[AV.v (Value.int IntKind.u8 (Lib.accLo i)),AV.v (Value.int IntKind.u8 (Lib.accHi i))]
def RQ:Nat -> Option (List AV)
 | 2=>some RP
 | 0=>some Dt
 | 1=>some Bh
 | _=>none
noncomputable def env:Env:=⟨Tryd.prog,RQ,[],0⟩
def tab:Tab where
 nK:=[(0,TK.other),(1,TK.other),(2,TK.int IntKind.i64),(3,TK.int IntKind.i64),(4,TK.bool),(5,TK.int IntKind.u8),(9,TK.str),(12,TK.int IntKind.u64),(20,TK.other),(21,TK.int IntKind.i32),(22,TK.sl 23),(23,TK.sl 35),(24,TK.other),(25,TK.sl 3),(26,TK.other),(27,TK.other),(29,TK.ptr),(30,TK.int IntKind.i64),(34,TK.other),(35,TK.other),(36,TK.other),(40,TK.other),(41,TK.other),(42,TK.other),(43,TK.other),(44,TK.other),(56,TK.sl 5),(71,TK.other),(73,TK.other),(74,TK.other),(75,TK.ptr),(78,TK.sl 9),(79,TK.other),(80,TK.other),(84,TK.other),(85,TK.other),(88,TK.other),(89,TK.other),(103,TK.other),(104,TK.other),(108,TK.ptr),(112,TK.other),(114,TK.other),(115,TK.sl 21),(123,TK.other),(124,TK.other),(125,TK.other),(140,TK.sl 35),(142,TK.other),(143,TK.other),(148,TK.other),(149,TK.other),(153,TK.ptr),(155,TK.other),(157,TK.ptr),(158,TK.int IntKind.u64),(161,TK.other),(164,TK.ptr),(171,TK.other),(172,TK.other),(173,TK.other),(174,TK.other),(175,TK.other),(176,TK.ptr),(177,TK.sl 155),(181,TK.other),(182,TK.other),(185,TK.int IntKind.u64),(187,TK.other),(193,TK.int IntKind.u32)]
 tz:=[(0,(false,1)),(1,(false,1)),(2,(false,1)),(3,(false,1)),(4,(false,1)),(5,(false,1)),(9,(false,1)),(12,(false,1)),(20,(false,1)),(21,(false,1)),(22,(false,1)),(23,(false,1)),(24,(false,1)),(25,(false,1)),(26,(true,3)),(27,(true,3)),(29,(false,1)),(30,(false,1)),(34,(true,3)),(35,(true,3)),(36,(false,1)),(40,(false,1)),(41,(true,2)),(42,(true,2)),(43,(true,3)),(44,(true,3)),(56,(false,1)),(71,(true,2)),(73,(true,3)),(74,(true,3)),(75,(false,1)),(78,(false,1)),(79,(true,2)),(80,(true,2)),(84,(true,2)),(85,(true,2)),(88,(true,4)),(89,(true,4)),(103,(true,2)),(104,(true,2)),(108,(false,1)),(112,(false,1)),(114,(true,8)),(115,(false,1)),(123,(true,1)),(124,(true,1)),(125,(false,1)),(140,(false,1)),(142,(true,2)),(143,(true,2)),(148,(true,2)),(149,(true,2)),(153,(false,1)),(155,(false,1)),(157,(false,1)),(158,(false,1)),(161,(false,1)),(164,(false,1)),(171,(true,256)),(172,(true,2)),(173,(true,2)),(174,(true,32)),(175,(true,8)),(176,(false,1)),(177,(false,1)),(181,(true,2)),(182,(true,2)),(185,(false,1)),(187,(false,1)),(193,(false,1))]
 zc:=[(1,[AV.v (Value.nilFunc)]),(2,[AV.v (Value.int IntKind.i64 0)]),(3,[AV.v (Value.int IntKind.i64 0)]),(4,[AV.v (Value.bool false)]),(5,[AV.v (Value.int IntKind.u8 0)]),(9,[AV.v (Value.string (⟨#[]⟩:ByteArray))]),(12,[AV.v (Value.int IntKind.u64 0)]),(20,[AV.v (Value.nilIface)]),(21,[AV.v (Value.int IntKind.i32 0)]),(22,[AV.v (Value.slice none 0 0)]),(23,[AV.v (Value.slice none 0 0)]),(24,[AV.v (Value.nilFunc)]),(25,[AV.v (Value.slice none 0 0)]),(26,([Value.string (⟨#[]⟩:ByteArray),Value.slice none 0 0,Value.slice none 0 0].map AV.v)),(27,([Value.string (⟨#[]⟩:ByteArray),Value.slice none 0 0,Value.slice none 0 0].map AV.v)),(29,[AV.v (Value.pointer none)]),(30,[AV.v (Value.int IntKind.i64 0)]),(34,([Value.int IntKind.i64 0,Value.int IntKind.i64 0,Value.string (⟨#[]⟩:ByteArray)].map AV.v)),(35,([Value.int IntKind.i64 0,Value.int IntKind.i64 0,Value.string (⟨#[]⟩:ByteArray)].map AV.v)),(36,[AV.v (Value.nilFunc)]),(40,[AV.v (Value.nilFunc)]),(41,([Value.slice none 0 0,Value.slice none 0 0].map AV.v)),(42,([Value.slice none 0 0,Value.slice none 0 0].map AV.v)),(43,([Value.slice none 0 0,Value.slice none 0 0,Value.string (⟨#[]⟩:ByteArray)].map AV.v)),(44,([Value.slice none 0 0,Value.slice none 0 0,Value.string (⟨#[]⟩:ByteArray)].map AV.v)),(56,[AV.v (Value.slice none 0 0)]),(71,([Value.int IntKind.u8 0,Value.int IntKind.u8 0].map AV.v)),(73,([Value.slice none 0 0,Value.int IntKind.i64 0,Value.int IntKind.i64 0].map AV.v)),(74,([Value.slice none 0 0,Value.int IntKind.i64 0,Value.int IntKind.i64 0].map AV.v)),(75,[AV.v (Value.pointer none)]),(78,[AV.v (Value.slice none 0 0)]),(79,([Value.slice none 0 0,Value.slice none 0 0].map AV.v)),(80,([Value.slice none 0 0,Value.slice none 0 0].map AV.v)),(84,([Value.slice none 0 0,Value.int IntKind.i64 0].map AV.v)),(85,([Value.slice none 0 0,Value.int IntKind.i64 0].map AV.v)),(88,([Value.slice none 0 0,Value.int IntKind.i64 0,Value.int IntKind.i64 0,Value.slice none 0 0].map AV.v)),(89,([Value.slice none 0 0,Value.int IntKind.i64 0,Value.int IntKind.i64 0,Value.slice none 0 0].map AV.v)),(103,([Value.slice none 0 0,Value.slice none 0 0].map AV.v)),(104,([Value.slice none 0 0,Value.slice none 0 0].map AV.v)),(108,[AV.v (Value.pointer none)]),(112,[AV.v (Value.nilFunc)]),(114,([Value.int IntKind.i32 0,Value.int IntKind.i32 0,Value.int IntKind.i32 0,Value.int IntKind.i32 0,Value.int IntKind.i32 0,Value.int IntKind.i32 0,Value.int IntKind.i32 0,Value.int IntKind.i32 0].map AV.v)),(115,[AV.v (Value.slice none 0 0)]),(123,([Value.slice none 0 0].map AV.v)),(124,([Value.slice none 0 0].map AV.v)),(125,[AV.v (Value.nilFunc)]),(140,[AV.v (Value.slice none 0 0)]),(142,([Value.bool false,Value.bool false].map AV.v)),(143,([Value.bool false,Value.bool false].map AV.v)),(148,([Value.slice none 0 0,Value.int IntKind.i64 0].map AV.v)),(149,([Value.slice none 0 0,Value.int IntKind.i64 0].map AV.v)),(153,[AV.v (Value.pointer none)]),(155,[AV.v (Value.nilFunc)]),(157,[AV.v (Value.pointer none)]),(158,[AV.v (Value.int IntKind.u64 0)]),(161,[AV.v (Value.map none)]),(164,[AV.v (Value.pointer none)]),(172,([Value.int IntKind.u8 0,Value.int IntKind.u8 0].map AV.v)),(173,([Value.int IntKind.u8 0,Value.int IntKind.u8 0].map AV.v)),(174,([Value.int IntKind.u8 0,Value.int IntKind.u8 0,Value.int IntKind.u8 0,Value.int IntKind.u8 0,Value.int IntKind.u8 0,Value.int IntKind.u8 0,Value.int IntKind.u8 0,Value.int IntKind.u8 0,Value.int IntKind.u8 0,Value.int IntKind.u8 0,Value.int IntKind.u8 0,Value.int IntKind.u8 0,Value.int IntKind.u8 0,Value.int IntKind.u8 0,Value.int IntKind.u8 0,Value.int IntKind.u8 0,Value.int IntKind.u8 0,Value.int IntKind.u8 0,Value.int IntKind.u8 0,Value.int IntKind.u8 0,Value.int IntKind.u8 0,Value.int IntKind.u8 0,Value.int IntKind.u8 0,Value.int IntKind.u8 0,Value.int IntKind.u8 0,Value.int IntKind.u8 0,Value.int IntKind.u8 0,Value.int IntKind.u8 0,Value.int IntKind.u8 0,Value.int IntKind.u8 0,Value.int IntKind.u8 0,Value.int IntKind.u8 0].map AV.v)),(175,([Value.bool false,Value.bool false,Value.bool false,Value.bool false,Value.bool false,Value.bool false,Value.bool false,Value.bool false].map AV.v)),(176,[AV.v (Value.pointer none)]),(177,[AV.v (Value.slice none 0 0)]),(181,([Value.slice none 0 0,Value.slice none 0 0].map AV.v)),(182,([Value.slice none 0 0,Value.slice none 0 0].map AV.v)),(185,[AV.v (Value.int IntKind.u64 0)]),(187,[AV.v (Value.nilFunc)]),(193,[AV.v (Value.int IntKind.u32 0)])]
 sl:=[(22,(23,1,24,[AV.v (Value.slice none 0 0)])),(23,(35,3,32,([Value.int IntKind.i64 0,Value.int IntKind.i64 0,Value.string (⟨#[]⟩:ByteArray)].map AV.v))),(25,(3,1,8,[AV.v (Value.int IntKind.i64 0)])),(56,(5,1,1,[AV.v (Value.int IntKind.u8 0)])),(78,(9,1,16,[AV.v (Value.string (⟨#[]⟩:ByteArray))])),(115,(21,1,4,[AV.v (Value.int IntKind.i32 0)])),(140,(35,3,32,([Value.int IntKind.i64 0,Value.int IntKind.i64 0,Value.string (⟨#[]⟩:ByteArray)].map AV.v))),(177,(155,1,8,[AV.v (Value.nilFunc)]))]
 ar:=[(71,(2,5,1)),(114,(8,21,1)),(171,(256,5,1)),(174,(16,173,2)),(175,(4,143,2))]
 ly:=[(26,([AV.v (Value.string (⟨#[]⟩:ByteArray)),AV.v (Value.slice none 0 0),AV.v (Value.slice none 0 0)],[(0,1),(1,1),(2,1)])),(27,([AV.v (Value.string (⟨#[]⟩:ByteArray)),AV.v (Value.slice none 0 0),AV.v (Value.slice none 0 0)],[(0,1),(1,1),(2,1)])),(34,([AV.v (Value.int IntKind.i64 0),AV.v (Value.int IntKind.i64 0),AV.v (Value.string (⟨#[]⟩:ByteArray))],[(0,1),(1,1),(2,1)])),(35,([AV.v (Value.int IntKind.i64 0),AV.v (Value.int IntKind.i64 0),AV.v (Value.string (⟨#[]⟩:ByteArray))],[(0,1),(1,1),(2,1)])),(41,([AV.v (Value.slice none 0 0),AV.v (Value.slice none 0 0)],[(0,1),(1,1)])),(42,([AV.v (Value.slice none 0 0),AV.v (Value.slice none 0 0)],[(0,1),(1,1)])),(43,([AV.v (Value.slice none 0 0),AV.v (Value.slice none 0 0),AV.v (Value.string (⟨#[]⟩:ByteArray))],[(0,2),(2,1)])),(44,([AV.v (Value.slice none 0 0),AV.v (Value.slice none 0 0),AV.v (Value.string (⟨#[]⟩:ByteArray))],[(0,2),(2,1)])),(71,([AV.v (Value.int IntKind.u8 0),AV.v (Value.int IntKind.u8 0)],[(0,1),(1,1)])),(73,([AV.v (Value.slice none 0 0),AV.v (Value.int IntKind.i64 0),AV.v (Value.int IntKind.i64 0)],[(0,1),(1,1),(2,1)])),(74,([AV.v (Value.slice none 0 0),AV.v (Value.int IntKind.i64 0),AV.v (Value.int IntKind.i64 0)],[(0,1),(1,1),(2,1)])),(79,([AV.v (Value.slice none 0 0),AV.v (Value.slice none 0 0)],[(0,1),(1,1)])),(80,([AV.v (Value.slice none 0 0),AV.v (Value.slice none 0 0)],[(0,1),(1,1)])),(84,([AV.v (Value.slice none 0 0),AV.v (Value.int IntKind.i64 0)],[(0,1),(1,1)])),(85,([AV.v (Value.slice none 0 0),AV.v (Value.int IntKind.i64 0)],[(0,1),(1,1)])),(88,([AV.v (Value.slice none 0 0),AV.v (Value.int IntKind.i64 0),AV.v (Value.int IntKind.i64 0),AV.v (Value.slice none 0 0)],[(0,1),(1,1),(2,1),(3,1)])),(89,([AV.v (Value.slice none 0 0),AV.v (Value.int IntKind.i64 0),AV.v (Value.int IntKind.i64 0),AV.v (Value.slice none 0 0)],[(0,1),(1,1),(2,1),(3,1)])),(103,([AV.v (Value.slice none 0 0),AV.v (Value.slice none 0 0)],[(0,1),(1,1)])),(104,([AV.v (Value.slice none 0 0),AV.v (Value.slice none 0 0)],[(0,1),(1,1)])),(114,([AV.v (Value.int IntKind.i32 0),AV.v (Value.int IntKind.i32 0),AV.v (Value.int IntKind.i32 0),AV.v (Value.int IntKind.i32 0),AV.v (Value.int IntKind.i32 0),AV.v (Value.int IntKind.i32 0),AV.v (Value.int IntKind.i32 0),AV.v (Value.int IntKind.i32 0)],[(0,1),(1,1),(2,1),(3,1),(4,1),(5,1),(6,1),(7,1)])),(123,([AV.v (Value.slice none 0 0)],[(0,1)])),(124,([AV.v (Value.slice none 0 0)],[(0,1)])),(142,([AV.v (Value.bool false),AV.v (Value.bool false)],[(0,1),(1,1)])),(143,([AV.v (Value.bool false),AV.v (Value.bool false)],[(0,1),(1,1)])),(148,([AV.v (Value.slice none 0 0),AV.v (Value.int IntKind.i64 0)],[(0,1),(1,1)])),(149,([AV.v (Value.slice none 0 0),AV.v (Value.int IntKind.i64 0)],[(0,1),(1,1)])),(172,([AV.v (Value.int IntKind.u8 0),AV.v (Value.int IntKind.u8 0)],[(0,1),(1,1)])),(173,([AV.v (Value.int IntKind.u8 0),AV.v (Value.int IntKind.u8 0)],[(0,1),(1,1)])),(174,([AV.v (Value.int IntKind.u8 0),AV.v (Value.int IntKind.u8 0),AV.v (Value.int IntKind.u8 0),AV.v (Value.int IntKind.u8 0),AV.v (Value.int IntKind.u8 0),AV.v (Value.int IntKind.u8 0),AV.v (Value.int IntKind.u8 0),AV.v (Value.int IntKind.u8 0),AV.v (Value.int IntKind.u8 0),AV.v (Value.int IntKind.u8 0),AV.v (Value.int IntKind.u8 0),AV.v (Value.int IntKind.u8 0),AV.v (Value.int IntKind.u8 0),AV.v (Value.int IntKind.u8 0),AV.v (Value.int IntKind.u8 0),AV.v (Value.int IntKind.u8 0),AV.v (Value.int IntKind.u8 0),AV.v (Value.int IntKind.u8 0),AV.v (Value.int IntKind.u8 0),AV.v (Value.int IntKind.u8 0),AV.v (Value.int IntKind.u8 0),AV.v (Value.int IntKind.u8 0),AV.v (Value.int IntKind.u8 0),AV.v (Value.int IntKind.u8 0),AV.v (Value.int IntKind.u8 0),AV.v (Value.int IntKind.u8 0),AV.v (Value.int IntKind.u8 0),AV.v (Value.int IntKind.u8 0),AV.v (Value.int IntKind.u8 0),AV.v (Value.int IntKind.u8 0),AV.v (Value.int IntKind.u8 0),AV.v (Value.int IntKind.u8 0)],[(0,2),(2,2),(4,2),(6,2),(8,2),(10,2),(12,2),(14,2),(16,2),(18,2),(20,2),(22,2),(24,2),(26,2),(28,2),(30,2)])),(175,([AV.v (Value.bool false),AV.v (Value.bool false),AV.v (Value.bool false),AV.v (Value.bool false),AV.v (Value.bool false),AV.v (Value.bool false),AV.v (Value.bool false),AV.v (Value.bool false)],[(0,2),(2,2),(4,2),(6,2)])),(181,([AV.v (Value.slice none 0 0),AV.v (Value.slice none 0 0)],[(0,1),(1,1)])),(182,([AV.v (Value.slice none 0 0),AV.v (Value.slice none 0 0)],[(0,1),(1,1)]))]
 fd:=[(26,[(0,9,1),(1,25,1),(2,22,1)]),(27,[(0,9,1),(1,25,1),(2,22,1)]),(34,[(0,3,1),(1,3,1),(2,9,1)]),(35,[(0,3,1),(1,3,1),(2,9,1)]),(41,[(0,22,1),(1,25,1)]),(42,[(0,22,1),(1,25,1)]),(43,[(0,42,2),(2,9,1)]),(44,[(0,42,2),(2,9,1)]),(73,[(0,23,1),(1,3,1),(2,3,1)]),(74,[(0,23,1),(1,3,1),(2,3,1)]),(79,[(0,78,1),(1,22,1)]),(80,[(0,78,1),(1,22,1)]),(84,[(0,25,1),(1,3,1)]),(85,[(0,25,1),(1,3,1)]),(88,[(0,25,1),(1,3,1),(2,3,1),(3,23,1)]),(89,[(0,25,1),(1,3,1),(2,3,1),(3,23,1)]),(103,[(0,25,1),(1,56,1)]),(104,[(0,25,1),(1,56,1)]),(123,[(0,56,1)]),(124,[(0,56,1)]),(142,[(0,4,1),(1,4,1)]),(143,[(0,4,1),(1,4,1)]),(148,[(0,56,1),(1,30,1)]),(149,[(0,56,1),(1,30,1)]),(172,[(0,5,1),(1,5,1)]),(173,[(0,5,1),(1,5,1)]),(181,[(0,23,1),(1,115,1)]),(182,[(0,23,1),(1,115,1)])]
 eq:=[34,35]
theorem Du:jA env.P tab where
 nK:=nV (p:=fun t x=>kindOf Tryd.prog t = some x) (List.forall_mem_cons.2 ⟨Qz,(List.forall_mem_cons.2 ⟨QA,(List.forall_mem_cons.2 ⟨QB,(List.forall_mem_cons.2 ⟨QC,(List.forall_mem_cons.2 ⟨QD,(List.forall_mem_cons.2 ⟨QE,(List.forall_mem_cons.2 ⟨QF,(List.forall_mem_cons.2 ⟨Na,(List.forall_mem_cons.2 ⟨Nb,(List.forall_mem_cons.2 ⟨Nc,(List.forall_mem_cons.2 ⟨Nh,(List.forall_mem_cons.2 ⟨Nj,(List.forall_mem_cons.2 ⟨Nk,(List.forall_mem_cons.2 ⟨Nl,(List.forall_mem_cons.2 ⟨Np,(List.forall_mem_cons.2 ⟨Nq,(List.forall_mem_cons.2 ⟨Nr,(List.forall_mem_cons.2 ⟨Nu,(List.forall_mem_cons.2 ⟨Nv,(List.forall_mem_cons.2 ⟨Nw,(List.forall_mem_cons.2 ⟨Ny,(List.forall_mem_cons.2 ⟨Nz,(List.forall_mem_cons.2 ⟨NC,(List.forall_mem_cons.2 ⟨ND,(List.forall_mem_cons.2 ⟨NG,(List.forall_mem_cons.2 ⟨NH,(List.forall_mem_cons.2 ⟨NI,(List.forall_mem_cons.2 ⟨NJ,(List.forall_mem_cons.2 ⟨NK,(List.forall_mem_cons.2 ⟨NM,(List.forall_mem_cons.2 ⟨NP,(List.forall_mem_cons.2 ⟨NQ,(List.forall_mem_cons.2 ⟨NR,(List.forall_mem_cons.2 ⟨NS,(List.forall_mem_cons.2 ⟨NT,(List.forall_mem_cons.2 ⟨NU,(List.forall_mem_cons.2 ⟨NV,(List.forall_mem_cons.2 ⟨NW,(List.forall_mem_cons.2 ⟨I7,(List.forall_mem_cons.2 ⟨I8,(List.forall_mem_cons.2 ⟨I9,(List.forall_mem_cons.2 ⟨Ja,(List.forall_mem_cons.2 ⟨Jb,(List.forall_mem_cons.2 ⟨Jc,(List.forall_mem_cons.2 ⟨Jd,(List.forall_mem_cons.2 ⟨Je,(List.forall_mem_cons.2 ⟨Jf,(List.forall_mem_cons.2 ⟨Jg,(List.forall_mem_cons.2 ⟨Jh,(List.forall_mem_cons.2 ⟨Ji,(List.forall_mem_cons.2 ⟨Jj,(List.forall_mem_cons.2 ⟨Jk,(List.forall_mem_cons.2 ⟨Jl,(List.forall_mem_cons.2 ⟨Jm,(List.forall_mem_cons.2 ⟨Jo,(List.forall_mem_cons.2 ⟨Jp,(List.forall_mem_cons.2 ⟨Jq,(List.forall_mem_cons.2 ⟨Jr,(List.forall_mem_cons.2 ⟨Js,(List.forall_mem_cons.2 ⟨Jt,(List.forall_mem_cons.2 ⟨Ju,(List.forall_mem_cons.2 ⟨Jv,(List.forall_mem_cons.2 ⟨Jw,(List.forall_mem_cons.2 ⟨Jy,(List.forall_mem_cons.2 ⟨Jz,(List.forall_mem_cons.2 ⟨JA,(List.forall_mem_cons.2 ⟨JB,(List.forall_mem_cons.2 ⟨JC,(List.forall_mem_cons.2 ⟨JD,(List.forall_mem_cons.2 ⟨JE,(fun _ h=>nomatch h)⟩)⟩)⟩)⟩)⟩)⟩)⟩)⟩)⟩)⟩)⟩)⟩)⟩)⟩)⟩)⟩)⟩)⟩)⟩)⟩)⟩)⟩)⟩)⟩)⟩)⟩)⟩)⟩)⟩)⟩)⟩)⟩)⟩)⟩)⟩)⟩)⟩)⟩)⟩)⟩)⟩)⟩)⟩)⟩)⟩)⟩)⟩)⟩)⟩)⟩)⟩)⟩)⟩)⟩)⟩)⟩)⟩)⟩)⟩)⟩)⟩)⟩)⟩)⟩)⟩)⟩)⟩)⟩)⟩)⟩)
 tz:=nV (p:=fun t x=>iK Tryd.prog t = some x) (List.forall_mem_cons.2 ⟨adS,(List.forall_mem_cons.2 ⟨adT,(List.forall_mem_cons.2 ⟨adU,(List.forall_mem_cons.2 ⟨adV,(List.forall_mem_cons.2 ⟨adW,(List.forall_mem_cons.2 ⟨adX,(List.forall_mem_cons.2 ⟨adY,(List.forall_mem_cons.2 ⟨YO,(List.forall_mem_cons.2 ⟨YP,(List.forall_mem_cons.2 ⟨YQ,(List.forall_mem_cons.2 ⟨YR,(List.forall_mem_cons.2 ⟨YT,(List.forall_mem_cons.2 ⟨YV,(List.forall_mem_cons.2 ⟨YW,(List.forall_mem_cons.2 ⟨YZ,(List.forall_mem_cons.2 ⟨Y1,(List.forall_mem_cons.2 ⟨Y3,(List.forall_mem_cons.2 ⟨Y4,(List.forall_mem_cons.2 ⟨Y5,(List.forall_mem_cons.2 ⟨Y7,(List.forall_mem_cons.2 ⟨Y9,(List.forall_mem_cons.2 ⟨Za,(List.forall_mem_cons.2 ⟨Zb,(List.forall_mem_cons.2 ⟨Zd,(List.forall_mem_cons.2 ⟨Zf,(List.forall_mem_cons.2 ⟨Zh,(List.forall_mem_cons.2 ⟨Zj,(List.forall_mem_cons.2 ⟨Zl,(List.forall_mem_cons.2 ⟨Zo,(List.forall_mem_cons.2 ⟨Zq,(List.forall_mem_cons.2 ⟨Zt,(List.forall_mem_cons.2 ⟨Zu,(List.forall_mem_cons.2 ⟨Zw,(List.forall_mem_cons.2 ⟨Zy,(List.forall_mem_cons.2 ⟨ZA,(List.forall_mem_cons.2 ⟨ZC,(List.forall_mem_cons.2 ⟨ZF,(List.forall_mem_cons.2 ⟨ZH,(List.forall_mem_cons.2 ⟨Vd,(List.forall_mem_cons.2 ⟨Vf,(List.forall_mem_cons.2 ⟨Vh,(List.forall_mem_cons.2 ⟨Vj,(List.forall_mem_cons.2 ⟨Vk,(List.forall_mem_cons.2 ⟨Vo,(List.forall_mem_cons.2 ⟨Vq,(List.forall_mem_cons.2 ⟨Vs,(List.forall_mem_cons.2 ⟨Vu,(List.forall_mem_cons.2 ⟨Vw,(List.forall_mem_cons.2 ⟨Vy,(List.forall_mem_cons.2 ⟨VA,(List.forall_mem_cons.2 ⟨VD,(List.forall_mem_cons.2 ⟨VF,(List.forall_mem_cons.2 ⟨VH,(List.forall_mem_cons.2 ⟨VI,(List.forall_mem_cons.2 ⟨VJ,(List.forall_mem_cons.2 ⟨VK,(List.forall_mem_cons.2 ⟨VL,(List.forall_mem_cons.2 ⟨VN,(List.forall_mem_cons.2 ⟨VO,(List.forall_mem_cons.2 ⟨VQ,(List.forall_mem_cons.2 ⟨VT,(List.forall_mem_cons.2 ⟨VW,(List.forall_mem_cons.2 ⟨VZ,(List.forall_mem_cons.2 ⟨V5,(List.forall_mem_cons.2 ⟨V6,(List.forall_mem_cons.2 ⟨V8,(List.forall_mem_cons.2 ⟨Wh,(List.forall_mem_cons.2 ⟨Wj,(List.forall_mem_cons.2 ⟨Wn,(List.forall_mem_cons.2 ⟨Wq,(fun _ h=>nomatch h)⟩)⟩)⟩)⟩)⟩)⟩)⟩)⟩)⟩)⟩)⟩)⟩)⟩)⟩)⟩)⟩)⟩)⟩)⟩)⟩)⟩)⟩)⟩)⟩)⟩)⟩)⟩)⟩)⟩)⟩)⟩)⟩)⟩)⟩)⟩)⟩)⟩)⟩)⟩)⟩)⟩)⟩)⟩)⟩)⟩)⟩)⟩)⟩)⟩)⟩)⟩)⟩)⟩)⟩)⟩)⟩)⟩)⟩)⟩)⟩)⟩)⟩)⟩)⟩)⟩)⟩)⟩)⟩)⟩)⟩)
 zc:=nV (p:=fun t cs=>∃ z n b,ti Tryd.prog t = some (some z,n,b) /\ cellsOf (PW z) = some cs) (List.forall_mem_cons.2 ⟨⟨_,_,_,ahH,rfl⟩,(List.forall_mem_cons.2 ⟨⟨_,_,_,ahI,rfl⟩,(List.forall_mem_cons.2 ⟨⟨_,_,_,ahJ,rfl⟩,(List.forall_mem_cons.2 ⟨⟨_,_,_,ahK,rfl⟩,(List.forall_mem_cons.2 ⟨⟨_,_,_,ahL,rfl⟩,(List.forall_mem_cons.2 ⟨⟨_,_,_,ahM,rfl⟩,(List.forall_mem_cons.2 ⟨⟨_,_,_,adZ,rfl⟩,(List.forall_mem_cons.2 ⟨⟨_,_,_,aeA,rfl⟩,(List.forall_mem_cons.2 ⟨⟨_,_,_,aeB,rfl⟩,(List.forall_mem_cons.2 ⟨⟨_,_,_,aeC,rfl⟩,(List.forall_mem_cons.2 ⟨⟨_,_,_,aeD,rfl⟩,(List.forall_mem_cons.2 ⟨⟨_,_,_,aeE,rfl⟩,(List.forall_mem_cons.2 ⟨⟨_,_,_,aeF,rfl⟩,(List.forall_mem_cons.2 ⟨⟨_,_,_,aeG,rfl⟩,(List.forall_mem_cons.2 ⟨⟨_,_,_,aeH,rfl⟩,(List.forall_mem_cons.2 ⟨⟨_,_,_,aeI,rfl⟩,(List.forall_mem_cons.2 ⟨⟨_,_,_,aeJ,rfl⟩,(List.forall_mem_cons.2 ⟨⟨_,_,_,aeK,rfl⟩,(List.forall_mem_cons.2 ⟨⟨_,_,_,aeL,rfl⟩,(List.forall_mem_cons.2 ⟨⟨_,_,_,aeM,rfl⟩,(List.forall_mem_cons.2 ⟨⟨_,_,_,aeN,rfl⟩,(List.forall_mem_cons.2 ⟨⟨_,_,_,aeO,rfl⟩,(List.forall_mem_cons.2 ⟨⟨_,_,_,aeP,rfl⟩,(List.forall_mem_cons.2 ⟨⟨_,_,_,aeQ,rfl⟩,(List.forall_mem_cons.2 ⟨⟨_,_,_,aeR,rfl⟩,(List.forall_mem_cons.2 ⟨⟨_,_,_,aeS,rfl⟩,(List.forall_mem_cons.2 ⟨⟨_,_,_,aeT,rfl⟩,(List.forall_mem_cons.2 ⟨⟨_,_,_,aeU,rfl⟩,(List.forall_mem_cons.2 ⟨⟨_,_,_,aeV,rfl⟩,(List.forall_mem_cons.2 ⟨⟨_,_,_,aeW,rfl⟩,(List.forall_mem_cons.2 ⟨⟨_,_,_,aeX,rfl⟩,(List.forall_mem_cons.2 ⟨⟨_,_,_,aeY,rfl⟩,(List.forall_mem_cons.2 ⟨⟨_,_,_,aeZ,rfl⟩,(List.forall_mem_cons.2 ⟨⟨_,_,_,afA,rfl⟩,(List.forall_mem_cons.2 ⟨⟨_,_,_,afB,rfl⟩,(List.forall_mem_cons.2 ⟨⟨_,_,_,afC,rfl⟩,(List.forall_mem_cons.2 ⟨⟨_,_,_,afD,rfl⟩,(List.forall_mem_cons.2 ⟨⟨_,_,_,ZJ,rfl⟩,(List.forall_mem_cons.2 ⟨⟨_,_,_,ZK,rfl⟩,(List.forall_mem_cons.2 ⟨⟨_,_,_,ZL,rfl⟩,(List.forall_mem_cons.2 ⟨⟨_,_,_,ZM,rfl⟩,(List.forall_mem_cons.2 ⟨⟨_,_,_,ZN,rfl⟩,(List.forall_mem_cons.2 ⟨⟨_,_,_,ZO,rfl⟩,(List.forall_mem_cons.2 ⟨⟨_,_,_,ZP,rfl⟩,(List.forall_mem_cons.2 ⟨⟨_,_,_,ZQ,rfl⟩,(List.forall_mem_cons.2 ⟨⟨_,_,_,ZR,rfl⟩,(List.forall_mem_cons.2 ⟨⟨_,_,_,ZT,rfl⟩,(List.forall_mem_cons.2 ⟨⟨_,_,_,ZU,rfl⟩,(List.forall_mem_cons.2 ⟨⟨_,_,_,ZV,rfl⟩,(List.forall_mem_cons.2 ⟨⟨_,_,_,ZW,rfl⟩,(List.forall_mem_cons.2 ⟨⟨_,_,_,ZX,rfl⟩,(List.forall_mem_cons.2 ⟨⟨_,_,_,ZY,rfl⟩,(List.forall_mem_cons.2 ⟨⟨_,_,_,Z4,rfl⟩,(List.forall_mem_cons.2 ⟨⟨_,_,_,Z5,rfl⟩,(List.forall_mem_cons.2 ⟨⟨_,_,_,Z7,rfl⟩,(List.forall_mem_cons.2 ⟨⟨_,_,_,Z8,rfl⟩,(List.forall_mem_cons.2 ⟨⟨_,_,_,Z9,rfl⟩,(List.forall_mem_cons.2 ⟨⟨_,_,_,aaA,rfl⟩,(List.forall_mem_cons.2 ⟨⟨_,_,_,aaB,rfl⟩,(List.forall_mem_cons.2 ⟨⟨_,_,_,aaC,rfl⟩,(List.forall_mem_cons.2 ⟨⟨_,_,_,aaD,rfl⟩,(List.forall_mem_cons.2 ⟨⟨_,_,_,aaE,rfl⟩,(List.forall_mem_cons.2 ⟨⟨_,_,_,aaF,rfl⟩,(List.forall_mem_cons.2 ⟨⟨_,_,_,aaG,rfl⟩,(List.forall_mem_cons.2 ⟨⟨_,_,_,aaH,rfl⟩,(List.forall_mem_cons.2 ⟨⟨_,_,_,aaI,rfl⟩,(List.forall_mem_cons.2 ⟨⟨_,_,_,aaJ,rfl⟩,(List.forall_mem_cons.2 ⟨⟨_,_,_,aaK,rfl⟩,(fun _ h=>nomatch h)⟩)⟩)⟩)⟩)⟩)⟩)⟩)⟩)⟩)⟩)⟩)⟩)⟩)⟩)⟩)⟩)⟩)⟩)⟩)⟩)⟩)⟩)⟩)⟩)⟩)⟩)⟩)⟩)⟩)⟩)⟩)⟩)⟩)⟩)⟩)⟩)⟩)⟩)⟩)⟩)⟩)⟩)⟩)⟩)⟩)⟩)⟩)⟩)⟩)⟩)⟩)⟩)⟩)⟩)⟩)⟩)⟩)⟩)⟩)⟩)⟩)⟩)⟩)⟩)⟩)⟩)⟩)⟩)
 sl:=fun t e n b cs=>nV (l:=tab.sl) (p:=fun t (x:TypeId × Nat × Nat × List AV)=>∃ z,sle Tryd.prog t = some (x.1,some z,x.2.1,x.2.2.1) /\ cellsOf (PW z) = some x.2.2.2 /\ z.cells.size = x.2.1 /\ 0 < x.2.1 /\ x.2.2.2.length = x.2.1) (List.forall_mem_cons.2 ⟨⟨_,YS,rfl,rfl,Nat.succ_pos _,rfl⟩,(List.forall_mem_cons.2 ⟨⟨_,YU,rfl,rfl,Nat.succ_pos _,rfl⟩,(List.forall_mem_cons.2 ⟨⟨_,YX,rfl,rfl,Nat.succ_pos _,rfl⟩,(List.forall_mem_cons.2 ⟨⟨_,Zk,rfl,rfl,Nat.succ_pos _,rfl⟩,(List.forall_mem_cons.2 ⟨⟨_,Zv,rfl,rfl,Nat.succ_pos _,rfl⟩,(List.forall_mem_cons.2 ⟨⟨_,Vp,rfl,rfl,Nat.succ_pos _,rfl⟩,(List.forall_mem_cons.2 ⟨⟨_,Vx,rfl,rfl,Nat.succ_pos _,rfl⟩,(List.forall_mem_cons.2 ⟨⟨_,V7,rfl,rfl,Nat.succ_pos _,rfl⟩,(fun _ h=>nomatch h)⟩)⟩)⟩)⟩)⟩)⟩)⟩)⟩) t (e,n,b,cs)
 ar:=nV (p:=fun t x=>arr Tryd.prog t = some x) (List.forall_mem_cons.2 ⟨Zm,(List.forall_mem_cons.2 ⟨Vl,(List.forall_mem_cons.2 ⟨VP,(List.forall_mem_cons.2 ⟨VX,(List.forall_mem_cons.2 ⟨V3,(fun _ h=>nomatch h)⟩)⟩)⟩)⟩)⟩)
 ly:=nV (p:=fun t x=>lay Tryd.prog t = some x) (List.forall_mem_cons.2 ⟨Y0,(List.forall_mem_cons.2 ⟨Y2,(List.forall_mem_cons.2 ⟨Y6,(List.forall_mem_cons.2 ⟨Y8,(List.forall_mem_cons.2 ⟨Zc,(List.forall_mem_cons.2 ⟨Ze,(List.forall_mem_cons.2 ⟨Zg,(List.forall_mem_cons.2 ⟨Zi,(List.forall_mem_cons.2 ⟨Zn,(List.forall_mem_cons.2 ⟨Zp,(List.forall_mem_cons.2 ⟨Zr,(List.forall_mem_cons.2 ⟨Zx,(List.forall_mem_cons.2 ⟨Zz,(List.forall_mem_cons.2 ⟨ZB,(List.forall_mem_cons.2 ⟨ZE,(List.forall_mem_cons.2 ⟨ZG,(List.forall_mem_cons.2 ⟨ZI,(List.forall_mem_cons.2 ⟨Ve,(List.forall_mem_cons.2 ⟨Vg,(List.forall_mem_cons.2 ⟨Vm,(List.forall_mem_cons.2 ⟨Vr,(List.forall_mem_cons.2 ⟨Vt,(List.forall_mem_cons.2 ⟨Vz,(List.forall_mem_cons.2 ⟨VB,(List.forall_mem_cons.2 ⟨VE,(List.forall_mem_cons.2 ⟨VG,(List.forall_mem_cons.2 ⟨VR,(List.forall_mem_cons.2 ⟨VU,(List.forall_mem_cons.2 ⟨VY,(List.forall_mem_cons.2 ⟨V4,(List.forall_mem_cons.2 ⟨V9,(List.forall_mem_cons.2 ⟨Wi,(fun _ h=>nomatch h)⟩)⟩)⟩)⟩)⟩)⟩)⟩)⟩)⟩)⟩)⟩)⟩)⟩)⟩)⟩)⟩)⟩)⟩)⟩)⟩)⟩)⟩)⟩)⟩)⟩)⟩)⟩)⟩)⟩)⟩)⟩)⟩)
 fd:=fun t l h f x hx=>by
   have:=nV (l:=tab.fd) (p:=fun t l=>Ev.Qp Tryd.prog t 0 l) (List.forall_mem_cons.2 ⟨⟨QG,QH,QI,trivial⟩,(List.forall_mem_cons.2 ⟨⟨QJ,QK,QL,trivial⟩,(List.forall_mem_cons.2 ⟨⟨QM,QN,QO,trivial⟩,(List.forall_mem_cons.2 ⟨⟨QS,QT,QU,trivial⟩,(List.forall_mem_cons.2 ⟨⟨QV,QW,trivial⟩,(List.forall_mem_cons.2 ⟨⟨QX,QY,trivial⟩,(List.forall_mem_cons.2 ⟨⟨QZ,Q5,trivial⟩,(List.forall_mem_cons.2 ⟨⟨Q7,Q8,trivial⟩,(List.forall_mem_cons.2 ⟨⟨Q9,Rf,Rh,trivial⟩,(List.forall_mem_cons.2 ⟨⟨Ri,Rj,Rk,trivial⟩,(List.forall_mem_cons.2 ⟨⟨Rl,Rn,trivial⟩,(List.forall_mem_cons.2 ⟨⟨Ro,Rq,trivial⟩,(List.forall_mem_cons.2 ⟨⟨Rt,Ru,trivial⟩,(List.forall_mem_cons.2 ⟨⟨Rw,Rx,trivial⟩,(List.forall_mem_cons.2 ⟨⟨Ry,Rz,RD,RF,trivial⟩,(List.forall_mem_cons.2 ⟨⟨RG,RH,RJ,RN,trivial⟩,(List.forall_mem_cons.2 ⟨⟨NY,NZ,trivial⟩,(List.forall_mem_cons.2 ⟨⟨N7,N8,trivial⟩,(List.forall_mem_cons.2 ⟨⟨N9,trivial⟩,(List.forall_mem_cons.2 ⟨⟨Oa,trivial⟩,(List.forall_mem_cons.2 ⟨⟨Ob,Oc,trivial⟩,(List.forall_mem_cons.2 ⟨⟨Oe,Og,trivial⟩,(List.forall_mem_cons.2 ⟨⟨Oh,Oi,trivial⟩,(List.forall_mem_cons.2 ⟨⟨Oj,Ol,trivial⟩,(List.forall_mem_cons.2 ⟨⟨Om,Oo,trivial⟩,(List.forall_mem_cons.2 ⟨⟨Oq,Ot,trivial⟩,(List.forall_mem_cons.2 ⟨⟨Ou,Ov,trivial⟩,(List.forall_mem_cons.2 ⟨⟨Ox,Oy,trivial⟩,(fun _ h=>nomatch h)⟩)⟩)⟩)⟩)⟩)⟩)⟩)⟩)⟩)⟩)⟩)⟩)⟩)⟩)⟩)⟩)⟩)⟩)⟩)⟩)⟩)⟩)⟩)⟩)⟩)⟩)⟩)⟩) t l h
   have:=Ev.Di this f x hx
   rwa [Nat.zero_add] at this
 eq:=fun t h=>by
   have h':=List.contains_iff_mem.1 h
   simp only [tab,List.mem_cons,List.not_mem_nil,or_false] at h'
   rcases h' with rfl | rfl
   · exact Dq Tryd.underlying34 (by decide) (by decide) ⟨rfl,rfl,rfl⟩ Tryd.underlying3 Tryd.underlying9 (by kernel_rfl) (by kernel_rfl) (by kernel_rfl) (by kernel_rfl)
   · exact Dq Tryd.underlying35 (by decide) (by decide) ⟨rfl,rfl,rfl⟩ Tryd.underlying3 Tryd.underlying9 (by kernel_rfl) (by kernel_rfl) (by kernel_rfl) (by kernel_rfl)
theorem mixed' (keep:List Nat) (N:Nat):(Env.P ⟨env.P,env.G,keep,N⟩).follows .mixedOrders = true:=by rfl
theorem vg (keep:List Nat) (N:Nat):jA (Env.P ⟨env.P,env.G,keep,N⟩) tab:=Du
end Go.Proofs.YtadlnaljicikfaaDoor.aI
