/- A part of the proof: a calculus over values, and contracts of functions. No condition. -/
import Derived.Test.YtadlnaljicikfaaDoorZI2
import Derived.Test.YtadlnaljicikfaaDoorProg
import Derived.Lib.DecodeN
set_option linter.unusedVariables false
set_option linter.unusedSimpArgs false
namespace Go.Proofs.YtadlnaljicikfaaDoor.Abs
open Go
set_option maxRecDepth 100000
theorem tsz_0 : tsz Tryd.prog 0 = some (false, 1) := by rfl
theorem kindOf_0 : kindOf Tryd.prog 0 = some TK.other := by rfl
theorem ti_1 : ti Tryd.prog 1 = some (some Value.nilFunc, 1, 8) := by rfl
theorem tsz_1 : tsz Tryd.prog 1 = some (false, 1) := by rfl
theorem kindOf_1 : kindOf Tryd.prog 1 = some TK.other := by rfl
theorem ti_2 : ti Tryd.prog 2 = some (some (Value.int IntKind.i64 0), 1, 8) := by rfl
theorem tsz_2 : tsz Tryd.prog 2 = some (false, 1) := by rfl
theorem kindOf_2 : kindOf Tryd.prog 2 = some (TK.int IntKind.i64) := by rfl
theorem ti_3 : ti Tryd.prog 3 = some (some (Value.int IntKind.i64 0), 1, 8) := by rfl
theorem tsz_3 : tsz Tryd.prog 3 = some (false, 1) := by rfl
theorem kindOf_3 : kindOf Tryd.prog 3 = some (TK.int IntKind.i64) := by rfl
theorem ti_4 : ti Tryd.prog 4 = some (some (Value.bool false), 1, 1) := by rfl
theorem tsz_4 : tsz Tryd.prog 4 = some (false, 1) := by rfl
theorem kindOf_4 : kindOf Tryd.prog 4 = some TK.bool := by rfl
theorem ti_5 : ti Tryd.prog 5 = some (some (Value.int IntKind.u8 0), 1, 1) := by rfl
theorem tsz_5 : tsz Tryd.prog 5 = some (false, 1) := by rfl
theorem kindOf_5 : kindOf Tryd.prog 5 = some (TK.int IntKind.u8) := by rfl
theorem ti_9 : ti Tryd.prog 9 = some (some (Value.string (⟨#[]⟩ : ByteArray)), 1, 16) := by rfl
theorem tsz_9 : tsz Tryd.prog 9 = some (false, 1) := by rfl
theorem kindOf_9 : kindOf Tryd.prog 9 = some TK.str := by rfl
theorem ti_12 : ti Tryd.prog 12 = some (some (Value.int IntKind.u64 0), 1, 8) := by rfl
theorem tsz_12 : tsz Tryd.prog 12 = some (false, 1) := by rfl
theorem kindOf_12 : kindOf Tryd.prog 12 = some (TK.int IntKind.u64) := by rfl
theorem ti_20 : ti Tryd.prog 20 = some (some Value.nilIface, 1, 16) := by rfl
theorem tsz_20 : tsz Tryd.prog 20 = some (false, 1) := by rfl
theorem kindOf_20 : kindOf Tryd.prog 20 = some TK.other := by rfl
theorem ti_21 : ti Tryd.prog 21 = some (some (Value.int IntKind.i32 0), 1, 4) := by rfl
theorem tsz_21 : tsz Tryd.prog 21 = some (false, 1) := by rfl
theorem kindOf_21 : kindOf Tryd.prog 21 = some (TK.int IntKind.i32) := by rfl
theorem ti_22 : ti Tryd.prog 22 = some (some (Value.slice none 0 0), 1, 24) := by rfl
theorem tsz_22 : tsz Tryd.prog 22 = some (false, 1) := by rfl
theorem sle_22 : sle Tryd.prog 22 = some (23, some (Value.slice none 0 0), 1, 24) := by rfl
theorem kindOf_22 : kindOf Tryd.prog 22 = some (TK.sl 23) := by rfl
theorem ti_23 : ti Tryd.prog 23 = some (some (Value.slice none 0 0), 1, 24) := by rfl
theorem tsz_23 : tsz Tryd.prog 23 = some (false, 1) := by rfl
theorem sle_23 : sle Tryd.prog 23 = some (35, some (Value.agg #[Value.int IntKind.i64 0, Value.int IntKind.i64 0, Value.string (⟨#[]⟩ : ByteArray)]), 3, 32) := by rfl
theorem kindOf_23 : kindOf Tryd.prog 23 = some (TK.sl 35) := by rfl
theorem ti_24 : ti Tryd.prog 24 = some (some Value.nilFunc, 1, 8) := by rfl
theorem tsz_24 : tsz Tryd.prog 24 = some (false, 1) := by rfl
theorem kindOf_24 : kindOf Tryd.prog 24 = some TK.other := by rfl
theorem ti_25 : ti Tryd.prog 25 = some (some (Value.slice none 0 0), 1, 24) := by rfl
theorem tsz_25 : tsz Tryd.prog 25 = some (false, 1) := by rfl
theorem sle_25 : sle Tryd.prog 25 = some (3, some (Value.int IntKind.i64 0), 1, 8) := by rfl
theorem kindOf_25 : kindOf Tryd.prog 25 = some (TK.sl 3) := by rfl
theorem ti_26 : ti Tryd.prog 26 = some (some (Value.agg #[Value.string (⟨#[]⟩ : ByteArray), Value.slice none 0 0, Value.slice none 0 0]), 3, 64) := by rfl
theorem tsz_26 : tsz Tryd.prog 26 = some (true, 3) := by rfl
theorem lay_26 : lay Tryd.prog 26 = some ([AV.v (Value.string (⟨#[]⟩ : ByteArray)), AV.v (Value.slice none 0 0), AV.v (Value.slice none 0 0)], [(0, 1), (1, 1), (2, 1)]) := by rfl
theorem kindOf_26 : kindOf Tryd.prog 26 = some TK.other := by rfl
theorem fld_26_0 : fld Tryd.prog 26 0 = some (0, 9, 1) := by rfl
theorem fld_26_1 : fld Tryd.prog 26 1 = some (1, 25, 1) := by rfl
theorem fld_26_2 : fld Tryd.prog 26 2 = some (2, 22, 1) := by rfl
theorem ti_27 : ti Tryd.prog 27 = some (some (Value.agg #[Value.string (⟨#[]⟩ : ByteArray), Value.slice none 0 0, Value.slice none 0 0]), 3, 64) := by rfl
theorem tsz_27 : tsz Tryd.prog 27 = some (true, 3) := by rfl
theorem lay_27 : lay Tryd.prog 27 = some ([AV.v (Value.string (⟨#[]⟩ : ByteArray)), AV.v (Value.slice none 0 0), AV.v (Value.slice none 0 0)], [(0, 1), (1, 1), (2, 1)]) := by rfl
theorem kindOf_27 : kindOf Tryd.prog 27 = some TK.other := by rfl
theorem fld_27_0 : fld Tryd.prog 27 0 = some (0, 9, 1) := by rfl
theorem fld_27_1 : fld Tryd.prog 27 1 = some (1, 25, 1) := by rfl
theorem fld_27_2 : fld Tryd.prog 27 2 = some (2, 22, 1) := by rfl
theorem ti_29 : ti Tryd.prog 29 = some (some (Value.pointer none), 1, 8) := by rfl
theorem tsz_29 : tsz Tryd.prog 29 = some (false, 1) := by rfl
theorem kindOf_29 : kindOf Tryd.prog 29 = some TK.ptr := by rfl
theorem ti_30 : ti Tryd.prog 30 = some (some (Value.int IntKind.i64 0), 1, 8) := by rfl
theorem tsz_30 : tsz Tryd.prog 30 = some (false, 1) := by rfl
theorem kindOf_30 : kindOf Tryd.prog 30 = some (TK.int IntKind.i64) := by rfl
theorem ti_34 : ti Tryd.prog 34 = some (some (Value.agg #[Value.int IntKind.i64 0, Value.int IntKind.i64 0, Value.string (⟨#[]⟩ : ByteArray)]), 3, 32) := by rfl
theorem tsz_34 : tsz Tryd.prog 34 = some (true, 3) := by rfl
theorem lay_34 : lay Tryd.prog 34 = some ([AV.v (Value.int IntKind.i64 0), AV.v (Value.int IntKind.i64 0), AV.v (Value.string (⟨#[]⟩ : ByteArray))], [(0, 1), (1, 1), (2, 1)]) := by rfl
theorem kindOf_34 : kindOf Tryd.prog 34 = some TK.other := by rfl
theorem fld_34_0 : fld Tryd.prog 34 0 = some (0, 3, 1) := by rfl
theorem fld_34_1 : fld Tryd.prog 34 1 = some (1, 3, 1) := by rfl
theorem fld_34_2 : fld Tryd.prog 34 2 = some (2, 9, 1) := by rfl
theorem ti_35 : ti Tryd.prog 35 = some (some (Value.agg #[Value.int IntKind.i64 0, Value.int IntKind.i64 0, Value.string (⟨#[]⟩ : ByteArray)]), 3, 32) := by rfl
theorem tsz_35 : tsz Tryd.prog 35 = some (true, 3) := by rfl
theorem lay_35 : lay Tryd.prog 35 = some ([AV.v (Value.int IntKind.i64 0), AV.v (Value.int IntKind.i64 0), AV.v (Value.string (⟨#[]⟩ : ByteArray))], [(0, 1), (1, 1), (2, 1)]) := by rfl
theorem kindOf_35 : kindOf Tryd.prog 35 = some TK.other := by rfl
theorem fld_35_0 : fld Tryd.prog 35 0 = some (0, 3, 1) := by rfl
theorem fld_35_1 : fld Tryd.prog 35 1 = some (1, 3, 1) := by rfl
theorem fld_35_2 : fld Tryd.prog 35 2 = some (2, 9, 1) := by rfl
theorem ti_36 : ti Tryd.prog 36 = some (some Value.nilFunc, 1, 8) := by rfl
theorem tsz_36 : tsz Tryd.prog 36 = some (false, 1) := by rfl
theorem kindOf_36 : kindOf Tryd.prog 36 = some TK.other := by rfl
theorem ti_40 : ti Tryd.prog 40 = some (some Value.nilFunc, 1, 8) := by rfl
theorem tsz_40 : tsz Tryd.prog 40 = some (false, 1) := by rfl
theorem kindOf_40 : kindOf Tryd.prog 40 = some TK.other := by rfl
theorem ti_41 : ti Tryd.prog 41 = some (some (Value.agg #[Value.slice none 0 0, Value.slice none 0 0]), 2, 48) := by rfl
theorem tsz_41 : tsz Tryd.prog 41 = some (true, 2) := by rfl
theorem lay_41 : lay Tryd.prog 41 = some ([AV.v (Value.slice none 0 0), AV.v (Value.slice none 0 0)], [(0, 1), (1, 1)]) := by rfl
theorem kindOf_41 : kindOf Tryd.prog 41 = some TK.other := by rfl
theorem fld_41_0 : fld Tryd.prog 41 0 = some (0, 22, 1) := by rfl
theorem fld_41_1 : fld Tryd.prog 41 1 = some (1, 25, 1) := by rfl
theorem ti_42 : ti Tryd.prog 42 = some (some (Value.agg #[Value.slice none 0 0, Value.slice none 0 0]), 2, 48) := by rfl
theorem tsz_42 : tsz Tryd.prog 42 = some (true, 2) := by rfl
theorem lay_42 : lay Tryd.prog 42 = some ([AV.v (Value.slice none 0 0), AV.v (Value.slice none 0 0)], [(0, 1), (1, 1)]) := by rfl
theorem kindOf_42 : kindOf Tryd.prog 42 = some TK.other := by rfl
theorem fld_42_0 : fld Tryd.prog 42 0 = some (0, 22, 1) := by rfl
theorem fld_42_1 : fld Tryd.prog 42 1 = some (1, 25, 1) := by rfl
theorem ti_43 : ti Tryd.prog 43 = some (some (Value.agg #[Value.slice none 0 0, Value.slice none 0 0, Value.string (⟨#[]⟩ : ByteArray)]), 3, 64) := by rfl
theorem tsz_43 : tsz Tryd.prog 43 = some (true, 3) := by rfl
theorem lay_43 : lay Tryd.prog 43 = some ([AV.v (Value.slice none 0 0), AV.v (Value.slice none 0 0), AV.v (Value.string (⟨#[]⟩ : ByteArray))], [(0, 2), (2, 1)]) := by rfl
theorem kindOf_43 : kindOf Tryd.prog 43 = some TK.other := by rfl
theorem fld_43_0 : fld Tryd.prog 43 0 = some (0, 42, 2) := by rfl
theorem fld_43_1 : fld Tryd.prog 43 1 = some (2, 9, 1) := by rfl
theorem ti_44 : ti Tryd.prog 44 = some (some (Value.agg #[Value.slice none 0 0, Value.slice none 0 0, Value.string (⟨#[]⟩ : ByteArray)]), 3, 64) := by rfl
theorem tsz_44 : tsz Tryd.prog 44 = some (true, 3) := by rfl
theorem lay_44 : lay Tryd.prog 44 = some ([AV.v (Value.slice none 0 0), AV.v (Value.slice none 0 0), AV.v (Value.string (⟨#[]⟩ : ByteArray))], [(0, 2), (2, 1)]) := by rfl
theorem kindOf_44 : kindOf Tryd.prog 44 = some TK.other := by rfl
theorem fld_44_0 : fld Tryd.prog 44 0 = some (0, 42, 2) := by rfl
theorem fld_44_1 : fld Tryd.prog 44 1 = some (2, 9, 1) := by rfl
theorem ti_56 : ti Tryd.prog 56 = some (some (Value.slice none 0 0), 1, 24) := by rfl
theorem tsz_56 : tsz Tryd.prog 56 = some (false, 1) := by rfl
theorem sle_56 : sle Tryd.prog 56 = some (5, some (Value.int IntKind.u8 0), 1, 1) := by rfl
theorem kindOf_56 : kindOf Tryd.prog 56 = some (TK.sl 5) := by rfl
theorem ti_71 : ti Tryd.prog 71 = some (some (Value.agg #[Value.int IntKind.u8 0, Value.int IntKind.u8 0]), 2, 2) := by rfl
theorem tsz_71 : tsz Tryd.prog 71 = some (true, 2) := by rfl
theorem arr_71 : arr Tryd.prog 71 = some (2, 5, 1) := by rfl
theorem lay_71 : lay Tryd.prog 71 = some ([AV.v (Value.int IntKind.u8 0), AV.v (Value.int IntKind.u8 0)], [(0, 1), (1, 1)]) := by rfl
theorem kindOf_71 : kindOf Tryd.prog 71 = some TK.other := by rfl
theorem ti_73 : ti Tryd.prog 73 = some (some (Value.agg #[Value.slice none 0 0, Value.int IntKind.i64 0, Value.int IntKind.i64 0]), 3, 40) := by rfl
theorem tsz_73 : tsz Tryd.prog 73 = some (true, 3) := by rfl
theorem lay_73 : lay Tryd.prog 73 = some ([AV.v (Value.slice none 0 0), AV.v (Value.int IntKind.i64 0), AV.v (Value.int IntKind.i64 0)], [(0, 1), (1, 1), (2, 1)]) := by rfl
theorem kindOf_73 : kindOf Tryd.prog 73 = some TK.other := by rfl
theorem fld_73_0 : fld Tryd.prog 73 0 = some (0, 23, 1) := by rfl
theorem fld_73_1 : fld Tryd.prog 73 1 = some (1, 3, 1) := by rfl
theorem fld_73_2 : fld Tryd.prog 73 2 = some (2, 3, 1) := by rfl
theorem ti_74 : ti Tryd.prog 74 = some (some (Value.agg #[Value.slice none 0 0, Value.int IntKind.i64 0, Value.int IntKind.i64 0]), 3, 40) := by rfl
theorem tsz_74 : tsz Tryd.prog 74 = some (true, 3) := by rfl
theorem lay_74 : lay Tryd.prog 74 = some ([AV.v (Value.slice none 0 0), AV.v (Value.int IntKind.i64 0), AV.v (Value.int IntKind.i64 0)], [(0, 1), (1, 1), (2, 1)]) := by rfl
theorem kindOf_74 : kindOf Tryd.prog 74 = some TK.other := by rfl
theorem fld_74_0 : fld Tryd.prog 74 0 = some (0, 23, 1) := by rfl
theorem fld_74_1 : fld Tryd.prog 74 1 = some (1, 3, 1) := by rfl
theorem fld_74_2 : fld Tryd.prog 74 2 = some (2, 3, 1) := by rfl
theorem ti_75 : ti Tryd.prog 75 = some (some (Value.pointer none), 1, 8) := by rfl
theorem tsz_75 : tsz Tryd.prog 75 = some (false, 1) := by rfl
theorem kindOf_75 : kindOf Tryd.prog 75 = some TK.ptr := by rfl
theorem ti_78 : ti Tryd.prog 78 = some (some (Value.slice none 0 0), 1, 24) := by rfl
theorem tsz_78 : tsz Tryd.prog 78 = some (false, 1) := by rfl
theorem sle_78 : sle Tryd.prog 78 = some (9, some (Value.string (⟨#[]⟩ : ByteArray)), 1, 16) := by rfl
theorem kindOf_78 : kindOf Tryd.prog 78 = some (TK.sl 9) := by rfl
theorem ti_79 : ti Tryd.prog 79 = some (some (Value.agg #[Value.slice none 0 0, Value.slice none 0 0]), 2, 48) := by rfl
theorem tsz_79 : tsz Tryd.prog 79 = some (true, 2) := by rfl
theorem lay_79 : lay Tryd.prog 79 = some ([AV.v (Value.slice none 0 0), AV.v (Value.slice none 0 0)], [(0, 1), (1, 1)]) := by rfl
theorem kindOf_79 : kindOf Tryd.prog 79 = some TK.other := by rfl
theorem fld_79_0 : fld Tryd.prog 79 0 = some (0, 78, 1) := by rfl
theorem fld_79_1 : fld Tryd.prog 79 1 = some (1, 22, 1) := by rfl
theorem ti_80 : ti Tryd.prog 80 = some (some (Value.agg #[Value.slice none 0 0, Value.slice none 0 0]), 2, 48) := by rfl
theorem tsz_80 : tsz Tryd.prog 80 = some (true, 2) := by rfl
theorem lay_80 : lay Tryd.prog 80 = some ([AV.v (Value.slice none 0 0), AV.v (Value.slice none 0 0)], [(0, 1), (1, 1)]) := by rfl
theorem kindOf_80 : kindOf Tryd.prog 80 = some TK.other := by rfl
theorem fld_80_0 : fld Tryd.prog 80 0 = some (0, 78, 1) := by rfl
theorem fld_80_1 : fld Tryd.prog 80 1 = some (1, 22, 1) := by rfl
theorem ti_84 : ti Tryd.prog 84 = some (some (Value.agg #[Value.slice none 0 0, Value.int IntKind.i64 0]), 2, 32) := by rfl
theorem tsz_84 : tsz Tryd.prog 84 = some (true, 2) := by rfl
theorem lay_84 : lay Tryd.prog 84 = some ([AV.v (Value.slice none 0 0), AV.v (Value.int IntKind.i64 0)], [(0, 1), (1, 1)]) := by rfl
theorem kindOf_84 : kindOf Tryd.prog 84 = some TK.other := by rfl
theorem fld_84_0 : fld Tryd.prog 84 0 = some (0, 25, 1) := by rfl
theorem fld_84_1 : fld Tryd.prog 84 1 = some (1, 3, 1) := by rfl
theorem ti_85 : ti Tryd.prog 85 = some (some (Value.agg #[Value.slice none 0 0, Value.int IntKind.i64 0]), 2, 32) := by rfl
theorem tsz_85 : tsz Tryd.prog 85 = some (true, 2) := by rfl
theorem lay_85 : lay Tryd.prog 85 = some ([AV.v (Value.slice none 0 0), AV.v (Value.int IntKind.i64 0)], [(0, 1), (1, 1)]) := by rfl
theorem kindOf_85 : kindOf Tryd.prog 85 = some TK.other := by rfl
theorem fld_85_0 : fld Tryd.prog 85 0 = some (0, 25, 1) := by rfl
theorem fld_85_1 : fld Tryd.prog 85 1 = some (1, 3, 1) := by rfl
theorem ti_88 : ti Tryd.prog 88 = some (some (Value.agg #[Value.slice none 0 0, Value.int IntKind.i64 0, Value.int IntKind.i64 0, Value.slice none 0 0]), 4, 64) := by rfl
theorem tsz_88 : tsz Tryd.prog 88 = some (true, 4) := by rfl
theorem lay_88 : lay Tryd.prog 88 = some ([AV.v (Value.slice none 0 0), AV.v (Value.int IntKind.i64 0), AV.v (Value.int IntKind.i64 0), AV.v (Value.slice none 0 0)], [(0, 1), (1, 1), (2, 1), (3, 1)]) := by rfl
theorem kindOf_88 : kindOf Tryd.prog 88 = some TK.other := by rfl
theorem fld_88_0 : fld Tryd.prog 88 0 = some (0, 25, 1) := by rfl
theorem fld_88_1 : fld Tryd.prog 88 1 = some (1, 3, 1) := by rfl
theorem fld_88_2 : fld Tryd.prog 88 2 = some (2, 3, 1) := by rfl
theorem fld_88_3 : fld Tryd.prog 88 3 = some (3, 23, 1) := by rfl
theorem ti_89 : ti Tryd.prog 89 = some (some (Value.agg #[Value.slice none 0 0, Value.int IntKind.i64 0, Value.int IntKind.i64 0, Value.slice none 0 0]), 4, 64) := by rfl
theorem tsz_89 : tsz Tryd.prog 89 = some (true, 4) := by rfl
theorem lay_89 : lay Tryd.prog 89 = some ([AV.v (Value.slice none 0 0), AV.v (Value.int IntKind.i64 0), AV.v (Value.int IntKind.i64 0), AV.v (Value.slice none 0 0)], [(0, 1), (1, 1), (2, 1), (3, 1)]) := by rfl
theorem kindOf_89 : kindOf Tryd.prog 89 = some TK.other := by rfl
theorem fld_89_0 : fld Tryd.prog 89 0 = some (0, 25, 1) := by rfl
theorem fld_89_1 : fld Tryd.prog 89 1 = some (1, 3, 1) := by rfl
theorem fld_89_2 : fld Tryd.prog 89 2 = some (2, 3, 1) := by rfl
theorem fld_89_3 : fld Tryd.prog 89 3 = some (3, 23, 1) := by rfl
theorem ti_103 : ti Tryd.prog 103 = some (some (Value.agg #[Value.slice none 0 0, Value.slice none 0 0]), 2, 48) := by rfl
theorem tsz_103 : tsz Tryd.prog 103 = some (true, 2) := by rfl
theorem lay_103 : lay Tryd.prog 103 = some ([AV.v (Value.slice none 0 0), AV.v (Value.slice none 0 0)], [(0, 1), (1, 1)]) := by rfl
theorem kindOf_103 : kindOf Tryd.prog 103 = some TK.other := by rfl
theorem fld_103_0 : fld Tryd.prog 103 0 = some (0, 25, 1) := by rfl
theorem fld_103_1 : fld Tryd.prog 103 1 = some (1, 56, 1) := by rfl
theorem ti_104 : ti Tryd.prog 104 = some (some (Value.agg #[Value.slice none 0 0, Value.slice none 0 0]), 2, 48) := by rfl
theorem tsz_104 : tsz Tryd.prog 104 = some (true, 2) := by rfl
theorem lay_104 : lay Tryd.prog 104 = some ([AV.v (Value.slice none 0 0), AV.v (Value.slice none 0 0)], [(0, 1), (1, 1)]) := by rfl
theorem kindOf_104 : kindOf Tryd.prog 104 = some TK.other := by rfl
theorem fld_104_0 : fld Tryd.prog 104 0 = some (0, 25, 1) := by rfl
theorem fld_104_1 : fld Tryd.prog 104 1 = some (1, 56, 1) := by rfl
theorem ti_108 : ti Tryd.prog 108 = some (some (Value.pointer none), 1, 8) := by rfl
theorem tsz_108 : tsz Tryd.prog 108 = some (false, 1) := by rfl
theorem kindOf_108 : kindOf Tryd.prog 108 = some TK.ptr := by rfl
theorem ti_112 : ti Tryd.prog 112 = some (some Value.nilFunc, 1, 8) := by rfl
theorem tsz_112 : tsz Tryd.prog 112 = some (false, 1) := by rfl
theorem kindOf_112 : kindOf Tryd.prog 112 = some TK.other := by rfl
theorem ti_114 : ti Tryd.prog 114 = some (some (Value.agg #[Value.int IntKind.i32 0, Value.int IntKind.i32 0, Value.int IntKind.i32 0, Value.int IntKind.i32 0, Value.int IntKind.i32 0, Value.int IntKind.i32 0, Value.int IntKind.i32 0, Value.int IntKind.i32 0]), 8, 32) := by rfl
theorem tsz_114 : tsz Tryd.prog 114 = some (true, 8) := by rfl
theorem arr_114 : arr Tryd.prog 114 = some (8, 21, 1) := by rfl
theorem lay_114 : lay Tryd.prog 114 = some ([AV.v (Value.int IntKind.i32 0), AV.v (Value.int IntKind.i32 0), AV.v (Value.int IntKind.i32 0), AV.v (Value.int IntKind.i32 0), AV.v (Value.int IntKind.i32 0), AV.v (Value.int IntKind.i32 0), AV.v (Value.int IntKind.i32 0), AV.v (Value.int IntKind.i32 0)], [(0, 1), (1, 1), (2, 1), (3, 1), (4, 1), (5, 1), (6, 1), (7, 1)]) := by rfl
theorem kindOf_114 : kindOf Tryd.prog 114 = some TK.other := by rfl
theorem ti_115 : ti Tryd.prog 115 = some (some (Value.slice none 0 0), 1, 24) := by rfl
theorem tsz_115 : tsz Tryd.prog 115 = some (false, 1) := by rfl
theorem sle_115 : sle Tryd.prog 115 = some (21, some (Value.int IntKind.i32 0), 1, 4) := by rfl
theorem kindOf_115 : kindOf Tryd.prog 115 = some (TK.sl 21) := by rfl
theorem ti_123 : ti Tryd.prog 123 = some (some (Value.agg #[Value.slice none 0 0]), 1, 24) := by rfl
theorem tsz_123 : tsz Tryd.prog 123 = some (true, 1) := by rfl
theorem lay_123 : lay Tryd.prog 123 = some ([AV.v (Value.slice none 0 0)], [(0, 1)]) := by rfl
theorem kindOf_123 : kindOf Tryd.prog 123 = some TK.other := by rfl
theorem fld_123_0 : fld Tryd.prog 123 0 = some (0, 56, 1) := by rfl
theorem ti_124 : ti Tryd.prog 124 = some (some (Value.agg #[Value.slice none 0 0]), 1, 24) := by rfl
theorem tsz_124 : tsz Tryd.prog 124 = some (true, 1) := by rfl
theorem lay_124 : lay Tryd.prog 124 = some ([AV.v (Value.slice none 0 0)], [(0, 1)]) := by rfl
theorem kindOf_124 : kindOf Tryd.prog 124 = some TK.other := by rfl
theorem fld_124_0 : fld Tryd.prog 124 0 = some (0, 56, 1) := by rfl
theorem ti_125 : ti Tryd.prog 125 = some (some Value.nilFunc, 1, 8) := by rfl
theorem tsz_125 : tsz Tryd.prog 125 = some (false, 1) := by rfl
theorem kindOf_125 : kindOf Tryd.prog 125 = some TK.other := by rfl
theorem ti_140 : ti Tryd.prog 140 = some (some (Value.slice none 0 0), 1, 24) := by rfl
theorem tsz_140 : tsz Tryd.prog 140 = some (false, 1) := by rfl
theorem sle_140 : sle Tryd.prog 140 = some (35, some (Value.agg #[Value.int IntKind.i64 0, Value.int IntKind.i64 0, Value.string (⟨#[]⟩ : ByteArray)]), 3, 32) := by rfl
theorem kindOf_140 : kindOf Tryd.prog 140 = some (TK.sl 35) := by rfl
theorem ti_142 : ti Tryd.prog 142 = some (some (Value.agg #[Value.bool false, Value.bool false]), 2, 2) := by rfl
theorem tsz_142 : tsz Tryd.prog 142 = some (true, 2) := by rfl
theorem lay_142 : lay Tryd.prog 142 = some ([AV.v (Value.bool false), AV.v (Value.bool false)], [(0, 1), (1, 1)]) := by rfl
theorem kindOf_142 : kindOf Tryd.prog 142 = some TK.other := by rfl
theorem fld_142_0 : fld Tryd.prog 142 0 = some (0, 4, 1) := by rfl
theorem fld_142_1 : fld Tryd.prog 142 1 = some (1, 4, 1) := by rfl
theorem ti_143 : ti Tryd.prog 143 = some (some (Value.agg #[Value.bool false, Value.bool false]), 2, 2) := by rfl
theorem tsz_143 : tsz Tryd.prog 143 = some (true, 2) := by rfl
theorem lay_143 : lay Tryd.prog 143 = some ([AV.v (Value.bool false), AV.v (Value.bool false)], [(0, 1), (1, 1)]) := by rfl
theorem kindOf_143 : kindOf Tryd.prog 143 = some TK.other := by rfl
theorem fld_143_0 : fld Tryd.prog 143 0 = some (0, 4, 1) := by rfl
theorem fld_143_1 : fld Tryd.prog 143 1 = some (1, 4, 1) := by rfl
theorem ti_148 : ti Tryd.prog 148 = some (some (Value.agg #[Value.slice none 0 0, Value.int IntKind.i64 0]), 2, 32) := by rfl
theorem tsz_148 : tsz Tryd.prog 148 = some (true, 2) := by rfl
theorem lay_148 : lay Tryd.prog 148 = some ([AV.v (Value.slice none 0 0), AV.v (Value.int IntKind.i64 0)], [(0, 1), (1, 1)]) := by rfl
theorem kindOf_148 : kindOf Tryd.prog 148 = some TK.other := by rfl
theorem fld_148_0 : fld Tryd.prog 148 0 = some (0, 56, 1) := by rfl
theorem fld_148_1 : fld Tryd.prog 148 1 = some (1, 30, 1) := by rfl
theorem ti_149 : ti Tryd.prog 149 = some (some (Value.agg #[Value.slice none 0 0, Value.int IntKind.i64 0]), 2, 32) := by rfl
theorem tsz_149 : tsz Tryd.prog 149 = some (true, 2) := by rfl
theorem lay_149 : lay Tryd.prog 149 = some ([AV.v (Value.slice none 0 0), AV.v (Value.int IntKind.i64 0)], [(0, 1), (1, 1)]) := by rfl
theorem kindOf_149 : kindOf Tryd.prog 149 = some TK.other := by rfl
theorem fld_149_0 : fld Tryd.prog 149 0 = some (0, 56, 1) := by rfl
theorem fld_149_1 : fld Tryd.prog 149 1 = some (1, 30, 1) := by rfl
theorem ti_153 : ti Tryd.prog 153 = some (some (Value.pointer none), 1, 8) := by rfl
theorem tsz_153 : tsz Tryd.prog 153 = some (false, 1) := by rfl
theorem kindOf_153 : kindOf Tryd.prog 153 = some TK.ptr := by rfl
theorem ti_155 : ti Tryd.prog 155 = some (some Value.nilFunc, 1, 8) := by rfl
theorem tsz_155 : tsz Tryd.prog 155 = some (false, 1) := by rfl
theorem kindOf_155 : kindOf Tryd.prog 155 = some TK.other := by rfl
theorem ti_157 : ti Tryd.prog 157 = some (some (Value.pointer none), 1, 8) := by rfl
theorem tsz_157 : tsz Tryd.prog 157 = some (false, 1) := by rfl
theorem kindOf_157 : kindOf Tryd.prog 157 = some TK.ptr := by rfl
theorem ti_158 : ti Tryd.prog 158 = some (some (Value.int IntKind.u64 0), 1, 8) := by rfl
theorem tsz_158 : tsz Tryd.prog 158 = some (false, 1) := by rfl
theorem kindOf_158 : kindOf Tryd.prog 158 = some (TK.int IntKind.u64) := by rfl
theorem ti_161 : ti Tryd.prog 161 = some (some (Value.map none), 1, 8) := by rfl
theorem tsz_161 : tsz Tryd.prog 161 = some (false, 1) := by rfl
theorem kindOf_161 : kindOf Tryd.prog 161 = some TK.other := by rfl
theorem ti_164 : ti Tryd.prog 164 = some (some (Value.pointer none), 1, 8) := by rfl
theorem tsz_164 : tsz Tryd.prog 164 = some (false, 1) := by rfl
theorem kindOf_164 : kindOf Tryd.prog 164 = some TK.ptr := by rfl
theorem tsz_171 : tsz Tryd.prog 171 = some (true, 256) := by rfl
theorem arr_171 : arr Tryd.prog 171 = some (256, 5, 1) := by rfl
theorem kindOf_171 : kindOf Tryd.prog 171 = some TK.other := by rfl
theorem ti_172 : ti Tryd.prog 172 = some (some (Value.agg #[Value.int IntKind.u8 0, Value.int IntKind.u8 0]), 2, 2) := by rfl
theorem tsz_172 : tsz Tryd.prog 172 = some (true, 2) := by rfl
theorem lay_172 : lay Tryd.prog 172 = some ([AV.v (Value.int IntKind.u8 0), AV.v (Value.int IntKind.u8 0)], [(0, 1), (1, 1)]) := by rfl
theorem kindOf_172 : kindOf Tryd.prog 172 = some TK.other := by rfl
theorem fld_172_0 : fld Tryd.prog 172 0 = some (0, 5, 1) := by rfl
theorem fld_172_1 : fld Tryd.prog 172 1 = some (1, 5, 1) := by rfl
theorem ti_173 : ti Tryd.prog 173 = some (some (Value.agg #[Value.int IntKind.u8 0, Value.int IntKind.u8 0]), 2, 2) := by rfl
theorem tsz_173 : tsz Tryd.prog 173 = some (true, 2) := by rfl
theorem lay_173 : lay Tryd.prog 173 = some ([AV.v (Value.int IntKind.u8 0), AV.v (Value.int IntKind.u8 0)], [(0, 1), (1, 1)]) := by rfl
theorem kindOf_173 : kindOf Tryd.prog 173 = some TK.other := by rfl
theorem fld_173_0 : fld Tryd.prog 173 0 = some (0, 5, 1) := by rfl
theorem fld_173_1 : fld Tryd.prog 173 1 = some (1, 5, 1) := by rfl
theorem ti_174 : ti Tryd.prog 174 = some (some (Value.agg #[Value.int IntKind.u8 0, Value.int IntKind.u8 0, Value.int IntKind.u8 0, Value.int IntKind.u8 0, Value.int IntKind.u8 0, Value.int IntKind.u8 0, Value.int IntKind.u8 0, Value.int IntKind.u8 0, Value.int IntKind.u8 0, Value.int IntKind.u8 0, Value.int IntKind.u8 0, Value.int IntKind.u8 0, Value.int IntKind.u8 0, Value.int IntKind.u8 0, Value.int IntKind.u8 0, Value.int IntKind.u8 0, Value.int IntKind.u8 0, Value.int IntKind.u8 0, Value.int IntKind.u8 0, Value.int IntKind.u8 0, Value.int IntKind.u8 0, Value.int IntKind.u8 0, Value.int IntKind.u8 0, Value.int IntKind.u8 0, Value.int IntKind.u8 0, Value.int IntKind.u8 0, Value.int IntKind.u8 0, Value.int IntKind.u8 0, Value.int IntKind.u8 0, Value.int IntKind.u8 0, Value.int IntKind.u8 0, Value.int IntKind.u8 0]), 32, 32) := by rfl
theorem tsz_174 : tsz Tryd.prog 174 = some (true, 32) := by rfl
theorem arr_174 : arr Tryd.prog 174 = some (16, 173, 2) := by rfl
theorem lay_174 : lay Tryd.prog 174 = some ([AV.v (Value.int IntKind.u8 0), AV.v (Value.int IntKind.u8 0), AV.v (Value.int IntKind.u8 0), AV.v (Value.int IntKind.u8 0), AV.v (Value.int IntKind.u8 0), AV.v (Value.int IntKind.u8 0), AV.v (Value.int IntKind.u8 0), AV.v (Value.int IntKind.u8 0), AV.v (Value.int IntKind.u8 0), AV.v (Value.int IntKind.u8 0), AV.v (Value.int IntKind.u8 0), AV.v (Value.int IntKind.u8 0), AV.v (Value.int IntKind.u8 0), AV.v (Value.int IntKind.u8 0), AV.v (Value.int IntKind.u8 0), AV.v (Value.int IntKind.u8 0), AV.v (Value.int IntKind.u8 0), AV.v (Value.int IntKind.u8 0), AV.v (Value.int IntKind.u8 0), AV.v (Value.int IntKind.u8 0), AV.v (Value.int IntKind.u8 0), AV.v (Value.int IntKind.u8 0), AV.v (Value.int IntKind.u8 0), AV.v (Value.int IntKind.u8 0), AV.v (Value.int IntKind.u8 0), AV.v (Value.int IntKind.u8 0), AV.v (Value.int IntKind.u8 0), AV.v (Value.int IntKind.u8 0), AV.v (Value.int IntKind.u8 0), AV.v (Value.int IntKind.u8 0), AV.v (Value.int IntKind.u8 0), AV.v (Value.int IntKind.u8 0)], [(0, 2), (2, 2), (4, 2), (6, 2), (8, 2), (10, 2), (12, 2), (14, 2), (16, 2), (18, 2), (20, 2), (22, 2), (24, 2), (26, 2), (28, 2), (30, 2)]) := by rfl
theorem kindOf_174 : kindOf Tryd.prog 174 = some TK.other := by rfl
theorem ti_175 : ti Tryd.prog 175 = some (some (Value.agg #[Value.bool false, Value.bool false, Value.bool false, Value.bool false, Value.bool false, Value.bool false, Value.bool false, Value.bool false]), 8, 8) := by rfl
theorem tsz_175 : tsz Tryd.prog 175 = some (true, 8) := by rfl
theorem arr_175 : arr Tryd.prog 175 = some (4, 143, 2) := by rfl
theorem lay_175 : lay Tryd.prog 175 = some ([AV.v (Value.bool false), AV.v (Value.bool false), AV.v (Value.bool false), AV.v (Value.bool false), AV.v (Value.bool false), AV.v (Value.bool false), AV.v (Value.bool false), AV.v (Value.bool false)], [(0, 2), (2, 2), (4, 2), (6, 2)]) := by rfl
theorem kindOf_175 : kindOf Tryd.prog 175 = some TK.other := by rfl
theorem ti_176 : ti Tryd.prog 176 = some (some (Value.pointer none), 1, 8) := by rfl
theorem tsz_176 : tsz Tryd.prog 176 = some (false, 1) := by rfl
theorem kindOf_176 : kindOf Tryd.prog 176 = some TK.ptr := by rfl
theorem ti_177 : ti Tryd.prog 177 = some (some (Value.slice none 0 0), 1, 24) := by rfl
theorem tsz_177 : tsz Tryd.prog 177 = some (false, 1) := by rfl
theorem sle_177 : sle Tryd.prog 177 = some (155, some Value.nilFunc, 1, 8) := by rfl
theorem kindOf_177 : kindOf Tryd.prog 177 = some (TK.sl 155) := by rfl
theorem ti_181 : ti Tryd.prog 181 = some (some (Value.agg #[Value.slice none 0 0, Value.slice none 0 0]), 2, 48) := by rfl
theorem tsz_181 : tsz Tryd.prog 181 = some (true, 2) := by rfl
theorem lay_181 : lay Tryd.prog 181 = some ([AV.v (Value.slice none 0 0), AV.v (Value.slice none 0 0)], [(0, 1), (1, 1)]) := by rfl
theorem kindOf_181 : kindOf Tryd.prog 181 = some TK.other := by rfl
theorem fld_181_0 : fld Tryd.prog 181 0 = some (0, 23, 1) := by rfl
theorem fld_181_1 : fld Tryd.prog 181 1 = some (1, 115, 1) := by rfl
theorem ti_182 : ti Tryd.prog 182 = some (some (Value.agg #[Value.slice none 0 0, Value.slice none 0 0]), 2, 48) := by rfl
theorem tsz_182 : tsz Tryd.prog 182 = some (true, 2) := by rfl
theorem lay_182 : lay Tryd.prog 182 = some ([AV.v (Value.slice none 0 0), AV.v (Value.slice none 0 0)], [(0, 1), (1, 1)]) := by rfl
theorem kindOf_182 : kindOf Tryd.prog 182 = some TK.other := by rfl
theorem fld_182_0 : fld Tryd.prog 182 0 = some (0, 23, 1) := by rfl
theorem fld_182_1 : fld Tryd.prog 182 1 = some (1, 115, 1) := by rfl
theorem ti_185 : ti Tryd.prog 185 = some (some (Value.int IntKind.u64 0), 1, 8) := by rfl
theorem tsz_185 : tsz Tryd.prog 185 = some (false, 1) := by rfl
theorem kindOf_185 : kindOf Tryd.prog 185 = some (TK.int IntKind.u64) := by rfl
theorem ti_187 : ti Tryd.prog 187 = some (some Value.nilFunc, 1, 8) := by rfl
theorem tsz_187 : tsz Tryd.prog 187 = some (false, 1) := by rfl
theorem kindOf_187 : kindOf Tryd.prog 187 = some TK.other := by rfl
theorem ti_193 : ti Tryd.prog 193 = some (some (Value.int IntKind.u32 0), 1, 4) := by rfl
theorem tsz_193 : tsz Tryd.prog 193 = some (false, 1) := by rfl
theorem kindOf_193 : kindOf Tryd.prog 193 = some (TK.int IntKind.u32) := by rfl
def glob2 : List AV := [.v (.bool false), .v (.bool false), .v (.bool true), .v (.bool true), .v (.bool false), .v (.bool false), .v (.bool true), .v (.bool false)]
def glob0 : List AV := (List.range 256).map fun c => AV.v (Value.int IntKind.u8 (Lib.firstT c))
def glob1 : List AV := (List.range 16).flatMap fun i => [AV.v (Value.int IntKind.u8 (Lib.accLo i)), AV.v (Value.int IntKind.u8 (Lib.accHi i))]
def envG : Nat → Option (List AV)
  | 2 => some glob2
  | 0 => some glob0
  | 1 => some glob1
  | _ => none
noncomputable def env : Env := ⟨Tryd.prog, envG, [], 0⟩
def tab : Tab where
  knd := [(0, TK.other), (1, TK.other), (2, TK.int IntKind.i64), (3, TK.int IntKind.i64), (4, TK.bool), (5, TK.int IntKind.u8), (9, TK.str), (12, TK.int IntKind.u64), (20, TK.other), (21, TK.int IntKind.i32), (22, TK.sl 23), (23, TK.sl 35), (24, TK.other), (25, TK.sl 3), (26, TK.other), (27, TK.other), (29, TK.ptr), (30, TK.int IntKind.i64), (34, TK.other), (35, TK.other), (36, TK.other), (40, TK.other), (41, TK.other), (42, TK.other), (43, TK.other), (44, TK.other), (56, TK.sl 5), (71, TK.other), (73, TK.other), (74, TK.other), (75, TK.ptr), (78, TK.sl 9), (79, TK.other), (80, TK.other), (84, TK.other), (85, TK.other), (88, TK.other), (89, TK.other), (103, TK.other), (104, TK.other), (108, TK.ptr), (112, TK.other), (114, TK.other), (115, TK.sl 21), (123, TK.other), (124, TK.other), (125, TK.other), (140, TK.sl 35), (142, TK.other), (143, TK.other), (148, TK.other), (149, TK.other), (153, TK.ptr), (155, TK.other), (157, TK.ptr), (158, TK.int IntKind.u64), (161, TK.other), (164, TK.ptr), (171, TK.other), (172, TK.other), (173, TK.other), (174, TK.other), (175, TK.other), (176, TK.ptr), (177, TK.sl 155), (181, TK.other), (182, TK.other), (185, TK.int IntKind.u64), (187, TK.other), (193, TK.int IntKind.u32)]
  tz := [(0, (false, 1)), (1, (false, 1)), (2, (false, 1)), (3, (false, 1)), (4, (false, 1)), (5, (false, 1)), (9, (false, 1)), (12, (false, 1)), (20, (false, 1)), (21, (false, 1)), (22, (false, 1)), (23, (false, 1)), (24, (false, 1)), (25, (false, 1)), (26, (true, 3)), (27, (true, 3)), (29, (false, 1)), (30, (false, 1)), (34, (true, 3)), (35, (true, 3)), (36, (false, 1)), (40, (false, 1)), (41, (true, 2)), (42, (true, 2)), (43, (true, 3)), (44, (true, 3)), (56, (false, 1)), (71, (true, 2)), (73, (true, 3)), (74, (true, 3)), (75, (false, 1)), (78, (false, 1)), (79, (true, 2)), (80, (true, 2)), (84, (true, 2)), (85, (true, 2)), (88, (true, 4)), (89, (true, 4)), (103, (true, 2)), (104, (true, 2)), (108, (false, 1)), (112, (false, 1)), (114, (true, 8)), (115, (false, 1)), (123, (true, 1)), (124, (true, 1)), (125, (false, 1)), (140, (false, 1)), (142, (true, 2)), (143, (true, 2)), (148, (true, 2)), (149, (true, 2)), (153, (false, 1)), (155, (false, 1)), (157, (false, 1)), (158, (false, 1)), (161, (false, 1)), (164, (false, 1)), (171, (true, 256)), (172, (true, 2)), (173, (true, 2)), (174, (true, 32)), (175, (true, 8)), (176, (false, 1)), (177, (false, 1)), (181, (true, 2)), (182, (true, 2)), (185, (false, 1)), (187, (false, 1)), (193, (false, 1))]
  zc := [(1, [AV.v (Value.nilFunc)]), (2, [AV.v (Value.int IntKind.i64 0)]), (3, [AV.v (Value.int IntKind.i64 0)]), (4, [AV.v (Value.bool false)]), (5, [AV.v (Value.int IntKind.u8 0)]), (9, [AV.v (Value.string (⟨#[]⟩ : ByteArray))]), (12, [AV.v (Value.int IntKind.u64 0)]), (20, [AV.v (Value.nilIface)]), (21, [AV.v (Value.int IntKind.i32 0)]), (22, [AV.v (Value.slice none 0 0)]), (23, [AV.v (Value.slice none 0 0)]), (24, [AV.v (Value.nilFunc)]), (25, [AV.v (Value.slice none 0 0)]), (26, ([Value.string (⟨#[]⟩ : ByteArray), Value.slice none 0 0, Value.slice none 0 0].map AV.v)), (27, ([Value.string (⟨#[]⟩ : ByteArray), Value.slice none 0 0, Value.slice none 0 0].map AV.v)), (29, [AV.v (Value.pointer none)]), (30, [AV.v (Value.int IntKind.i64 0)]), (34, ([Value.int IntKind.i64 0, Value.int IntKind.i64 0, Value.string (⟨#[]⟩ : ByteArray)].map AV.v)), (35, ([Value.int IntKind.i64 0, Value.int IntKind.i64 0, Value.string (⟨#[]⟩ : ByteArray)].map AV.v)), (36, [AV.v (Value.nilFunc)]), (40, [AV.v (Value.nilFunc)]), (41, ([Value.slice none 0 0, Value.slice none 0 0].map AV.v)), (42, ([Value.slice none 0 0, Value.slice none 0 0].map AV.v)), (43, ([Value.slice none 0 0, Value.slice none 0 0, Value.string (⟨#[]⟩ : ByteArray)].map AV.v)), (44, ([Value.slice none 0 0, Value.slice none 0 0, Value.string (⟨#[]⟩ : ByteArray)].map AV.v)), (56, [AV.v (Value.slice none 0 0)]), (71, ([Value.int IntKind.u8 0, Value.int IntKind.u8 0].map AV.v)), (73, ([Value.slice none 0 0, Value.int IntKind.i64 0, Value.int IntKind.i64 0].map AV.v)), (74, ([Value.slice none 0 0, Value.int IntKind.i64 0, Value.int IntKind.i64 0].map AV.v)), (75, [AV.v (Value.pointer none)]), (78, [AV.v (Value.slice none 0 0)]), (79, ([Value.slice none 0 0, Value.slice none 0 0].map AV.v)), (80, ([Value.slice none 0 0, Value.slice none 0 0].map AV.v)), (84, ([Value.slice none 0 0, Value.int IntKind.i64 0].map AV.v)), (85, ([Value.slice none 0 0, Value.int IntKind.i64 0].map AV.v)), (88, ([Value.slice none 0 0, Value.int IntKind.i64 0, Value.int IntKind.i64 0, Value.slice none 0 0].map AV.v)), (89, ([Value.slice none 0 0, Value.int IntKind.i64 0, Value.int IntKind.i64 0, Value.slice none 0 0].map AV.v)), (103, ([Value.slice none 0 0, Value.slice none 0 0].map AV.v)), (104, ([Value.slice none 0 0, Value.slice none 0 0].map AV.v)), (108, [AV.v (Value.pointer none)]), (112, [AV.v (Value.nilFunc)]), (114, ([Value.int IntKind.i32 0, Value.int IntKind.i32 0, Value.int IntKind.i32 0, Value.int IntKind.i32 0, Value.int IntKind.i32 0, Value.int IntKind.i32 0, Value.int IntKind.i32 0, Value.int IntKind.i32 0].map AV.v)), (115, [AV.v (Value.slice none 0 0)]), (123, ([Value.slice none 0 0].map AV.v)), (124, ([Value.slice none 0 0].map AV.v)), (125, [AV.v (Value.nilFunc)]), (140, [AV.v (Value.slice none 0 0)]), (142, ([Value.bool false, Value.bool false].map AV.v)), (143, ([Value.bool false, Value.bool false].map AV.v)), (148, ([Value.slice none 0 0, Value.int IntKind.i64 0].map AV.v)), (149, ([Value.slice none 0 0, Value.int IntKind.i64 0].map AV.v)), (153, [AV.v (Value.pointer none)]), (155, [AV.v (Value.nilFunc)]), (157, [AV.v (Value.pointer none)]), (158, [AV.v (Value.int IntKind.u64 0)]), (161, [AV.v (Value.map none)]), (164, [AV.v (Value.pointer none)]), (172, ([Value.int IntKind.u8 0, Value.int IntKind.u8 0].map AV.v)), (173, ([Value.int IntKind.u8 0, Value.int IntKind.u8 0].map AV.v)), (174, ([Value.int IntKind.u8 0, Value.int IntKind.u8 0, Value.int IntKind.u8 0, Value.int IntKind.u8 0, Value.int IntKind.u8 0, Value.int IntKind.u8 0, Value.int IntKind.u8 0, Value.int IntKind.u8 0, Value.int IntKind.u8 0, Value.int IntKind.u8 0, Value.int IntKind.u8 0, Value.int IntKind.u8 0, Value.int IntKind.u8 0, Value.int IntKind.u8 0, Value.int IntKind.u8 0, Value.int IntKind.u8 0, Value.int IntKind.u8 0, Value.int IntKind.u8 0, Value.int IntKind.u8 0, Value.int IntKind.u8 0, Value.int IntKind.u8 0, Value.int IntKind.u8 0, Value.int IntKind.u8 0, Value.int IntKind.u8 0, Value.int IntKind.u8 0, Value.int IntKind.u8 0, Value.int IntKind.u8 0, Value.int IntKind.u8 0, Value.int IntKind.u8 0, Value.int IntKind.u8 0, Value.int IntKind.u8 0, Value.int IntKind.u8 0].map AV.v)), (175, ([Value.bool false, Value.bool false, Value.bool false, Value.bool false, Value.bool false, Value.bool false, Value.bool false, Value.bool false].map AV.v)), (176, [AV.v (Value.pointer none)]), (177, [AV.v (Value.slice none 0 0)]), (181, ([Value.slice none 0 0, Value.slice none 0 0].map AV.v)), (182, ([Value.slice none 0 0, Value.slice none 0 0].map AV.v)), (185, [AV.v (Value.int IntKind.u64 0)]), (187, [AV.v (Value.nilFunc)]), (193, [AV.v (Value.int IntKind.u32 0)])]
  sl := [(22, (23, 1, 24, [AV.v (Value.slice none 0 0)])), (23, (35, 3, 32, ([Value.int IntKind.i64 0, Value.int IntKind.i64 0, Value.string (⟨#[]⟩ : ByteArray)].map AV.v))), (25, (3, 1, 8, [AV.v (Value.int IntKind.i64 0)])), (56, (5, 1, 1, [AV.v (Value.int IntKind.u8 0)])), (78, (9, 1, 16, [AV.v (Value.string (⟨#[]⟩ : ByteArray))])), (115, (21, 1, 4, [AV.v (Value.int IntKind.i32 0)])), (140, (35, 3, 32, ([Value.int IntKind.i64 0, Value.int IntKind.i64 0, Value.string (⟨#[]⟩ : ByteArray)].map AV.v))), (177, (155, 1, 8, [AV.v (Value.nilFunc)]))]
  ar := [(71, (2, 5, 1)), (114, (8, 21, 1)), (171, (256, 5, 1)), (174, (16, 173, 2)), (175, (4, 143, 2))]
  ly := [(26, ([AV.v (Value.string (⟨#[]⟩ : ByteArray)), AV.v (Value.slice none 0 0), AV.v (Value.slice none 0 0)], [(0, 1), (1, 1), (2, 1)])), (27, ([AV.v (Value.string (⟨#[]⟩ : ByteArray)), AV.v (Value.slice none 0 0), AV.v (Value.slice none 0 0)], [(0, 1), (1, 1), (2, 1)])), (34, ([AV.v (Value.int IntKind.i64 0), AV.v (Value.int IntKind.i64 0), AV.v (Value.string (⟨#[]⟩ : ByteArray))], [(0, 1), (1, 1), (2, 1)])), (35, ([AV.v (Value.int IntKind.i64 0), AV.v (Value.int IntKind.i64 0), AV.v (Value.string (⟨#[]⟩ : ByteArray))], [(0, 1), (1, 1), (2, 1)])), (41, ([AV.v (Value.slice none 0 0), AV.v (Value.slice none 0 0)], [(0, 1), (1, 1)])), (42, ([AV.v (Value.slice none 0 0), AV.v (Value.slice none 0 0)], [(0, 1), (1, 1)])), (43, ([AV.v (Value.slice none 0 0), AV.v (Value.slice none 0 0), AV.v (Value.string (⟨#[]⟩ : ByteArray))], [(0, 2), (2, 1)])), (44, ([AV.v (Value.slice none 0 0), AV.v (Value.slice none 0 0), AV.v (Value.string (⟨#[]⟩ : ByteArray))], [(0, 2), (2, 1)])), (71, ([AV.v (Value.int IntKind.u8 0), AV.v (Value.int IntKind.u8 0)], [(0, 1), (1, 1)])), (73, ([AV.v (Value.slice none 0 0), AV.v (Value.int IntKind.i64 0), AV.v (Value.int IntKind.i64 0)], [(0, 1), (1, 1), (2, 1)])), (74, ([AV.v (Value.slice none 0 0), AV.v (Value.int IntKind.i64 0), AV.v (Value.int IntKind.i64 0)], [(0, 1), (1, 1), (2, 1)])), (79, ([AV.v (Value.slice none 0 0), AV.v (Value.slice none 0 0)], [(0, 1), (1, 1)])), (80, ([AV.v (Value.slice none 0 0), AV.v (Value.slice none 0 0)], [(0, 1), (1, 1)])), (84, ([AV.v (Value.slice none 0 0), AV.v (Value.int IntKind.i64 0)], [(0, 1), (1, 1)])), (85, ([AV.v (Value.slice none 0 0), AV.v (Value.int IntKind.i64 0)], [(0, 1), (1, 1)])), (88, ([AV.v (Value.slice none 0 0), AV.v (Value.int IntKind.i64 0), AV.v (Value.int IntKind.i64 0), AV.v (Value.slice none 0 0)], [(0, 1), (1, 1), (2, 1), (3, 1)])), (89, ([AV.v (Value.slice none 0 0), AV.v (Value.int IntKind.i64 0), AV.v (Value.int IntKind.i64 0), AV.v (Value.slice none 0 0)], [(0, 1), (1, 1), (2, 1), (3, 1)])), (103, ([AV.v (Value.slice none 0 0), AV.v (Value.slice none 0 0)], [(0, 1), (1, 1)])), (104, ([AV.v (Value.slice none 0 0), AV.v (Value.slice none 0 0)], [(0, 1), (1, 1)])), (114, ([AV.v (Value.int IntKind.i32 0), AV.v (Value.int IntKind.i32 0), AV.v (Value.int IntKind.i32 0), AV.v (Value.int IntKind.i32 0), AV.v (Value.int IntKind.i32 0), AV.v (Value.int IntKind.i32 0), AV.v (Value.int IntKind.i32 0), AV.v (Value.int IntKind.i32 0)], [(0, 1), (1, 1), (2, 1), (3, 1), (4, 1), (5, 1), (6, 1), (7, 1)])), (123, ([AV.v (Value.slice none 0 0)], [(0, 1)])), (124, ([AV.v (Value.slice none 0 0)], [(0, 1)])), (142, ([AV.v (Value.bool false), AV.v (Value.bool false)], [(0, 1), (1, 1)])), (143, ([AV.v (Value.bool false), AV.v (Value.bool false)], [(0, 1), (1, 1)])), (148, ([AV.v (Value.slice none 0 0), AV.v (Value.int IntKind.i64 0)], [(0, 1), (1, 1)])), (149, ([AV.v (Value.slice none 0 0), AV.v (Value.int IntKind.i64 0)], [(0, 1), (1, 1)])), (172, ([AV.v (Value.int IntKind.u8 0), AV.v (Value.int IntKind.u8 0)], [(0, 1), (1, 1)])), (173, ([AV.v (Value.int IntKind.u8 0), AV.v (Value.int IntKind.u8 0)], [(0, 1), (1, 1)])), (174, ([AV.v (Value.int IntKind.u8 0), AV.v (Value.int IntKind.u8 0), AV.v (Value.int IntKind.u8 0), AV.v (Value.int IntKind.u8 0), AV.v (Value.int IntKind.u8 0), AV.v (Value.int IntKind.u8 0), AV.v (Value.int IntKind.u8 0), AV.v (Value.int IntKind.u8 0), AV.v (Value.int IntKind.u8 0), AV.v (Value.int IntKind.u8 0), AV.v (Value.int IntKind.u8 0), AV.v (Value.int IntKind.u8 0), AV.v (Value.int IntKind.u8 0), AV.v (Value.int IntKind.u8 0), AV.v (Value.int IntKind.u8 0), AV.v (Value.int IntKind.u8 0), AV.v (Value.int IntKind.u8 0), AV.v (Value.int IntKind.u8 0), AV.v (Value.int IntKind.u8 0), AV.v (Value.int IntKind.u8 0), AV.v (Value.int IntKind.u8 0), AV.v (Value.int IntKind.u8 0), AV.v (Value.int IntKind.u8 0), AV.v (Value.int IntKind.u8 0), AV.v (Value.int IntKind.u8 0), AV.v (Value.int IntKind.u8 0), AV.v (Value.int IntKind.u8 0), AV.v (Value.int IntKind.u8 0), AV.v (Value.int IntKind.u8 0), AV.v (Value.int IntKind.u8 0), AV.v (Value.int IntKind.u8 0), AV.v (Value.int IntKind.u8 0)], [(0, 2), (2, 2), (4, 2), (6, 2), (8, 2), (10, 2), (12, 2), (14, 2), (16, 2), (18, 2), (20, 2), (22, 2), (24, 2), (26, 2), (28, 2), (30, 2)])), (175, ([AV.v (Value.bool false), AV.v (Value.bool false), AV.v (Value.bool false), AV.v (Value.bool false), AV.v (Value.bool false), AV.v (Value.bool false), AV.v (Value.bool false), AV.v (Value.bool false)], [(0, 2), (2, 2), (4, 2), (6, 2)])), (181, ([AV.v (Value.slice none 0 0), AV.v (Value.slice none 0 0)], [(0, 1), (1, 1)])), (182, ([AV.v (Value.slice none 0 0), AV.v (Value.slice none 0 0)], [(0, 1), (1, 1)]))]
  fd := [(26, [(0, 9, 1), (1, 25, 1), (2, 22, 1)]), (27, [(0, 9, 1), (1, 25, 1), (2, 22, 1)]), (34, [(0, 3, 1), (1, 3, 1), (2, 9, 1)]), (35, [(0, 3, 1), (1, 3, 1), (2, 9, 1)]), (41, [(0, 22, 1), (1, 25, 1)]), (42, [(0, 22, 1), (1, 25, 1)]), (43, [(0, 42, 2), (2, 9, 1)]), (44, [(0, 42, 2), (2, 9, 1)]), (73, [(0, 23, 1), (1, 3, 1), (2, 3, 1)]), (74, [(0, 23, 1), (1, 3, 1), (2, 3, 1)]), (79, [(0, 78, 1), (1, 22, 1)]), (80, [(0, 78, 1), (1, 22, 1)]), (84, [(0, 25, 1), (1, 3, 1)]), (85, [(0, 25, 1), (1, 3, 1)]), (88, [(0, 25, 1), (1, 3, 1), (2, 3, 1), (3, 23, 1)]), (89, [(0, 25, 1), (1, 3, 1), (2, 3, 1), (3, 23, 1)]), (103, [(0, 25, 1), (1, 56, 1)]), (104, [(0, 25, 1), (1, 56, 1)]), (123, [(0, 56, 1)]), (124, [(0, 56, 1)]), (142, [(0, 4, 1), (1, 4, 1)]), (143, [(0, 4, 1), (1, 4, 1)]), (148, [(0, 56, 1), (1, 30, 1)]), (149, [(0, 56, 1), (1, 30, 1)]), (172, [(0, 5, 1), (1, 5, 1)]), (173, [(0, 5, 1), (1, 5, 1)]), (181, [(0, 23, 1), (1, 115, 1)]), (182, [(0, 23, 1), (1, 115, 1)])]
  eq := [34, 35]
theorem tabOK : TabOK env.P tab where
  knd := get_all (p := fun t x => kindOf Tryd.prog t = some x) (List.forall_mem_cons.2 ⟨kindOf_0, (List.forall_mem_cons.2 ⟨kindOf_1, (List.forall_mem_cons.2 ⟨kindOf_2, (List.forall_mem_cons.2 ⟨kindOf_3, (List.forall_mem_cons.2 ⟨kindOf_4, (List.forall_mem_cons.2 ⟨kindOf_5, (List.forall_mem_cons.2 ⟨kindOf_9, (List.forall_mem_cons.2 ⟨kindOf_12, (List.forall_mem_cons.2 ⟨kindOf_20, (List.forall_mem_cons.2 ⟨kindOf_21, (List.forall_mem_cons.2 ⟨kindOf_22, (List.forall_mem_cons.2 ⟨kindOf_23, (List.forall_mem_cons.2 ⟨kindOf_24, (List.forall_mem_cons.2 ⟨kindOf_25, (List.forall_mem_cons.2 ⟨kindOf_26, (List.forall_mem_cons.2 ⟨kindOf_27, (List.forall_mem_cons.2 ⟨kindOf_29, (List.forall_mem_cons.2 ⟨kindOf_30, (List.forall_mem_cons.2 ⟨kindOf_34, (List.forall_mem_cons.2 ⟨kindOf_35, (List.forall_mem_cons.2 ⟨kindOf_36, (List.forall_mem_cons.2 ⟨kindOf_40, (List.forall_mem_cons.2 ⟨kindOf_41, (List.forall_mem_cons.2 ⟨kindOf_42, (List.forall_mem_cons.2 ⟨kindOf_43, (List.forall_mem_cons.2 ⟨kindOf_44, (List.forall_mem_cons.2 ⟨kindOf_56, (List.forall_mem_cons.2 ⟨kindOf_71, (List.forall_mem_cons.2 ⟨kindOf_73, (List.forall_mem_cons.2 ⟨kindOf_74, (List.forall_mem_cons.2 ⟨kindOf_75, (List.forall_mem_cons.2 ⟨kindOf_78, (List.forall_mem_cons.2 ⟨kindOf_79, (List.forall_mem_cons.2 ⟨kindOf_80, (List.forall_mem_cons.2 ⟨kindOf_84, (List.forall_mem_cons.2 ⟨kindOf_85, (List.forall_mem_cons.2 ⟨kindOf_88, (List.forall_mem_cons.2 ⟨kindOf_89, (List.forall_mem_cons.2 ⟨kindOf_103, (List.forall_mem_cons.2 ⟨kindOf_104, (List.forall_mem_cons.2 ⟨kindOf_108, (List.forall_mem_cons.2 ⟨kindOf_112, (List.forall_mem_cons.2 ⟨kindOf_114, (List.forall_mem_cons.2 ⟨kindOf_115, (List.forall_mem_cons.2 ⟨kindOf_123, (List.forall_mem_cons.2 ⟨kindOf_124, (List.forall_mem_cons.2 ⟨kindOf_125, (List.forall_mem_cons.2 ⟨kindOf_140, (List.forall_mem_cons.2 ⟨kindOf_142, (List.forall_mem_cons.2 ⟨kindOf_143, (List.forall_mem_cons.2 ⟨kindOf_148, (List.forall_mem_cons.2 ⟨kindOf_149, (List.forall_mem_cons.2 ⟨kindOf_153, (List.forall_mem_cons.2 ⟨kindOf_155, (List.forall_mem_cons.2 ⟨kindOf_157, (List.forall_mem_cons.2 ⟨kindOf_158, (List.forall_mem_cons.2 ⟨kindOf_161, (List.forall_mem_cons.2 ⟨kindOf_164, (List.forall_mem_cons.2 ⟨kindOf_171, (List.forall_mem_cons.2 ⟨kindOf_172, (List.forall_mem_cons.2 ⟨kindOf_173, (List.forall_mem_cons.2 ⟨kindOf_174, (List.forall_mem_cons.2 ⟨kindOf_175, (List.forall_mem_cons.2 ⟨kindOf_176, (List.forall_mem_cons.2 ⟨kindOf_177, (List.forall_mem_cons.2 ⟨kindOf_181, (List.forall_mem_cons.2 ⟨kindOf_182, (List.forall_mem_cons.2 ⟨kindOf_185, (List.forall_mem_cons.2 ⟨kindOf_187, (List.forall_mem_cons.2 ⟨kindOf_193, (fun _ h => nomatch h)⟩)⟩)⟩)⟩)⟩)⟩)⟩)⟩)⟩)⟩)⟩)⟩)⟩)⟩)⟩)⟩)⟩)⟩)⟩)⟩)⟩)⟩)⟩)⟩)⟩)⟩)⟩)⟩)⟩)⟩)⟩)⟩)⟩)⟩)⟩)⟩)⟩)⟩)⟩)⟩)⟩)⟩)⟩)⟩)⟩)⟩)⟩)⟩)⟩)⟩)⟩)⟩)⟩)⟩)⟩)⟩)⟩)⟩)⟩)⟩)⟩)⟩)⟩)⟩)⟩)⟩)⟩)⟩)⟩)⟩)
  tz := get_all (p := fun t x => tsz Tryd.prog t = some x) (List.forall_mem_cons.2 ⟨tsz_0, (List.forall_mem_cons.2 ⟨tsz_1, (List.forall_mem_cons.2 ⟨tsz_2, (List.forall_mem_cons.2 ⟨tsz_3, (List.forall_mem_cons.2 ⟨tsz_4, (List.forall_mem_cons.2 ⟨tsz_5, (List.forall_mem_cons.2 ⟨tsz_9, (List.forall_mem_cons.2 ⟨tsz_12, (List.forall_mem_cons.2 ⟨tsz_20, (List.forall_mem_cons.2 ⟨tsz_21, (List.forall_mem_cons.2 ⟨tsz_22, (List.forall_mem_cons.2 ⟨tsz_23, (List.forall_mem_cons.2 ⟨tsz_24, (List.forall_mem_cons.2 ⟨tsz_25, (List.forall_mem_cons.2 ⟨tsz_26, (List.forall_mem_cons.2 ⟨tsz_27, (List.forall_mem_cons.2 ⟨tsz_29, (List.forall_mem_cons.2 ⟨tsz_30, (List.forall_mem_cons.2 ⟨tsz_34, (List.forall_mem_cons.2 ⟨tsz_35, (List.forall_mem_cons.2 ⟨tsz_36, (List.forall_mem_cons.2 ⟨tsz_40, (List.forall_mem_cons.2 ⟨tsz_41, (List.forall_mem_cons.2 ⟨tsz_42, (List.forall_mem_cons.2 ⟨tsz_43, (List.forall_mem_cons.2 ⟨tsz_44, (List.forall_mem_cons.2 ⟨tsz_56, (List.forall_mem_cons.2 ⟨tsz_71, (List.forall_mem_cons.2 ⟨tsz_73, (List.forall_mem_cons.2 ⟨tsz_74, (List.forall_mem_cons.2 ⟨tsz_75, (List.forall_mem_cons.2 ⟨tsz_78, (List.forall_mem_cons.2 ⟨tsz_79, (List.forall_mem_cons.2 ⟨tsz_80, (List.forall_mem_cons.2 ⟨tsz_84, (List.forall_mem_cons.2 ⟨tsz_85, (List.forall_mem_cons.2 ⟨tsz_88, (List.forall_mem_cons.2 ⟨tsz_89, (List.forall_mem_cons.2 ⟨tsz_103, (List.forall_mem_cons.2 ⟨tsz_104, (List.forall_mem_cons.2 ⟨tsz_108, (List.forall_mem_cons.2 ⟨tsz_112, (List.forall_mem_cons.2 ⟨tsz_114, (List.forall_mem_cons.2 ⟨tsz_115, (List.forall_mem_cons.2 ⟨tsz_123, (List.forall_mem_cons.2 ⟨tsz_124, (List.forall_mem_cons.2 ⟨tsz_125, (List.forall_mem_cons.2 ⟨tsz_140, (List.forall_mem_cons.2 ⟨tsz_142, (List.forall_mem_cons.2 ⟨tsz_143, (List.forall_mem_cons.2 ⟨tsz_148, (List.forall_mem_cons.2 ⟨tsz_149, (List.forall_mem_cons.2 ⟨tsz_153, (List.forall_mem_cons.2 ⟨tsz_155, (List.forall_mem_cons.2 ⟨tsz_157, (List.forall_mem_cons.2 ⟨tsz_158, (List.forall_mem_cons.2 ⟨tsz_161, (List.forall_mem_cons.2 ⟨tsz_164, (List.forall_mem_cons.2 ⟨tsz_171, (List.forall_mem_cons.2 ⟨tsz_172, (List.forall_mem_cons.2 ⟨tsz_173, (List.forall_mem_cons.2 ⟨tsz_174, (List.forall_mem_cons.2 ⟨tsz_175, (List.forall_mem_cons.2 ⟨tsz_176, (List.forall_mem_cons.2 ⟨tsz_177, (List.forall_mem_cons.2 ⟨tsz_181, (List.forall_mem_cons.2 ⟨tsz_182, (List.forall_mem_cons.2 ⟨tsz_185, (List.forall_mem_cons.2 ⟨tsz_187, (List.forall_mem_cons.2 ⟨tsz_193, (fun _ h => nomatch h)⟩)⟩)⟩)⟩)⟩)⟩)⟩)⟩)⟩)⟩)⟩)⟩)⟩)⟩)⟩)⟩)⟩)⟩)⟩)⟩)⟩)⟩)⟩)⟩)⟩)⟩)⟩)⟩)⟩)⟩)⟩)⟩)⟩)⟩)⟩)⟩)⟩)⟩)⟩)⟩)⟩)⟩)⟩)⟩)⟩)⟩)⟩)⟩)⟩)⟩)⟩)⟩)⟩)⟩)⟩)⟩)⟩)⟩)⟩)⟩)⟩)⟩)⟩)⟩)⟩)⟩)⟩)⟩)⟩)⟩)
  zc := get_all (p := fun t cs => ∃ z n b, ti Tryd.prog t = some (some z, n, b) ∧ cellsOf (ofV z) = some cs) (List.forall_mem_cons.2 ⟨⟨_, _, _, ti_1, rfl⟩, (List.forall_mem_cons.2 ⟨⟨_, _, _, ti_2, rfl⟩, (List.forall_mem_cons.2 ⟨⟨_, _, _, ti_3, rfl⟩, (List.forall_mem_cons.2 ⟨⟨_, _, _, ti_4, rfl⟩, (List.forall_mem_cons.2 ⟨⟨_, _, _, ti_5, rfl⟩, (List.forall_mem_cons.2 ⟨⟨_, _, _, ti_9, rfl⟩, (List.forall_mem_cons.2 ⟨⟨_, _, _, ti_12, rfl⟩, (List.forall_mem_cons.2 ⟨⟨_, _, _, ti_20, rfl⟩, (List.forall_mem_cons.2 ⟨⟨_, _, _, ti_21, rfl⟩, (List.forall_mem_cons.2 ⟨⟨_, _, _, ti_22, rfl⟩, (List.forall_mem_cons.2 ⟨⟨_, _, _, ti_23, rfl⟩, (List.forall_mem_cons.2 ⟨⟨_, _, _, ti_24, rfl⟩, (List.forall_mem_cons.2 ⟨⟨_, _, _, ti_25, rfl⟩, (List.forall_mem_cons.2 ⟨⟨_, _, _, ti_26, rfl⟩, (List.forall_mem_cons.2 ⟨⟨_, _, _, ti_27, rfl⟩, (List.forall_mem_cons.2 ⟨⟨_, _, _, ti_29, rfl⟩, (List.forall_mem_cons.2 ⟨⟨_, _, _, ti_30, rfl⟩, (List.forall_mem_cons.2 ⟨⟨_, _, _, ti_34, rfl⟩, (List.forall_mem_cons.2 ⟨⟨_, _, _, ti_35, rfl⟩, (List.forall_mem_cons.2 ⟨⟨_, _, _, ti_36, rfl⟩, (List.forall_mem_cons.2 ⟨⟨_, _, _, ti_40, rfl⟩, (List.forall_mem_cons.2 ⟨⟨_, _, _, ti_41, rfl⟩, (List.forall_mem_cons.2 ⟨⟨_, _, _, ti_42, rfl⟩, (List.forall_mem_cons.2 ⟨⟨_, _, _, ti_43, rfl⟩, (List.forall_mem_cons.2 ⟨⟨_, _, _, ti_44, rfl⟩, (List.forall_mem_cons.2 ⟨⟨_, _, _, ti_56, rfl⟩, (List.forall_mem_cons.2 ⟨⟨_, _, _, ti_71, rfl⟩, (List.forall_mem_cons.2 ⟨⟨_, _, _, ti_73, rfl⟩, (List.forall_mem_cons.2 ⟨⟨_, _, _, ti_74, rfl⟩, (List.forall_mem_cons.2 ⟨⟨_, _, _, ti_75, rfl⟩, (List.forall_mem_cons.2 ⟨⟨_, _, _, ti_78, rfl⟩, (List.forall_mem_cons.2 ⟨⟨_, _, _, ti_79, rfl⟩, (List.forall_mem_cons.2 ⟨⟨_, _, _, ti_80, rfl⟩, (List.forall_mem_cons.2 ⟨⟨_, _, _, ti_84, rfl⟩, (List.forall_mem_cons.2 ⟨⟨_, _, _, ti_85, rfl⟩, (List.forall_mem_cons.2 ⟨⟨_, _, _, ti_88, rfl⟩, (List.forall_mem_cons.2 ⟨⟨_, _, _, ti_89, rfl⟩, (List.forall_mem_cons.2 ⟨⟨_, _, _, ti_103, rfl⟩, (List.forall_mem_cons.2 ⟨⟨_, _, _, ti_104, rfl⟩, (List.forall_mem_cons.2 ⟨⟨_, _, _, ti_108, rfl⟩, (List.forall_mem_cons.2 ⟨⟨_, _, _, ti_112, rfl⟩, (List.forall_mem_cons.2 ⟨⟨_, _, _, ti_114, rfl⟩, (List.forall_mem_cons.2 ⟨⟨_, _, _, ti_115, rfl⟩, (List.forall_mem_cons.2 ⟨⟨_, _, _, ti_123, rfl⟩, (List.forall_mem_cons.2 ⟨⟨_, _, _, ti_124, rfl⟩, (List.forall_mem_cons.2 ⟨⟨_, _, _, ti_125, rfl⟩, (List.forall_mem_cons.2 ⟨⟨_, _, _, ti_140, rfl⟩, (List.forall_mem_cons.2 ⟨⟨_, _, _, ti_142, rfl⟩, (List.forall_mem_cons.2 ⟨⟨_, _, _, ti_143, rfl⟩, (List.forall_mem_cons.2 ⟨⟨_, _, _, ti_148, rfl⟩, (List.forall_mem_cons.2 ⟨⟨_, _, _, ti_149, rfl⟩, (List.forall_mem_cons.2 ⟨⟨_, _, _, ti_153, rfl⟩, (List.forall_mem_cons.2 ⟨⟨_, _, _, ti_155, rfl⟩, (List.forall_mem_cons.2 ⟨⟨_, _, _, ti_157, rfl⟩, (List.forall_mem_cons.2 ⟨⟨_, _, _, ti_158, rfl⟩, (List.forall_mem_cons.2 ⟨⟨_, _, _, ti_161, rfl⟩, (List.forall_mem_cons.2 ⟨⟨_, _, _, ti_164, rfl⟩, (List.forall_mem_cons.2 ⟨⟨_, _, _, ti_172, rfl⟩, (List.forall_mem_cons.2 ⟨⟨_, _, _, ti_173, rfl⟩, (List.forall_mem_cons.2 ⟨⟨_, _, _, ti_174, rfl⟩, (List.forall_mem_cons.2 ⟨⟨_, _, _, ti_175, rfl⟩, (List.forall_mem_cons.2 ⟨⟨_, _, _, ti_176, rfl⟩, (List.forall_mem_cons.2 ⟨⟨_, _, _, ti_177, rfl⟩, (List.forall_mem_cons.2 ⟨⟨_, _, _, ti_181, rfl⟩, (List.forall_mem_cons.2 ⟨⟨_, _, _, ti_182, rfl⟩, (List.forall_mem_cons.2 ⟨⟨_, _, _, ti_185, rfl⟩, (List.forall_mem_cons.2 ⟨⟨_, _, _, ti_187, rfl⟩, (List.forall_mem_cons.2 ⟨⟨_, _, _, ti_193, rfl⟩, (fun _ h => nomatch h)⟩)⟩)⟩)⟩)⟩)⟩)⟩)⟩)⟩)⟩)⟩)⟩)⟩)⟩)⟩)⟩)⟩)⟩)⟩)⟩)⟩)⟩)⟩)⟩)⟩)⟩)⟩)⟩)⟩)⟩)⟩)⟩)⟩)⟩)⟩)⟩)⟩)⟩)⟩)⟩)⟩)⟩)⟩)⟩)⟩)⟩)⟩)⟩)⟩)⟩)⟩)⟩)⟩)⟩)⟩)⟩)⟩)⟩)⟩)⟩)⟩)⟩)⟩)⟩)⟩)⟩)⟩)⟩)
  sl := fun t e n b cs => get_all (l := tab.sl) (p := fun t (x : TypeId × Nat × Nat × List AV) => ∃ z, sle Tryd.prog t = some (x.1, some z, x.2.1, x.2.2.1) ∧ cellsOf (ofV z) = some x.2.2.2 ∧ z.cells.size = x.2.1 ∧ 0 < x.2.1 ∧ x.2.2.2.length = x.2.1) (List.forall_mem_cons.2 ⟨⟨_, sle_22, rfl, rfl, Nat.succ_pos _, rfl⟩, (List.forall_mem_cons.2 ⟨⟨_, sle_23, rfl, rfl, Nat.succ_pos _, rfl⟩, (List.forall_mem_cons.2 ⟨⟨_, sle_25, rfl, rfl, Nat.succ_pos _, rfl⟩, (List.forall_mem_cons.2 ⟨⟨_, sle_56, rfl, rfl, Nat.succ_pos _, rfl⟩, (List.forall_mem_cons.2 ⟨⟨_, sle_78, rfl, rfl, Nat.succ_pos _, rfl⟩, (List.forall_mem_cons.2 ⟨⟨_, sle_115, rfl, rfl, Nat.succ_pos _, rfl⟩, (List.forall_mem_cons.2 ⟨⟨_, sle_140, rfl, rfl, Nat.succ_pos _, rfl⟩, (List.forall_mem_cons.2 ⟨⟨_, sle_177, rfl, rfl, Nat.succ_pos _, rfl⟩, (fun _ h => nomatch h)⟩)⟩)⟩)⟩)⟩)⟩)⟩)⟩) t (e, n, b, cs)
  ar := get_all (p := fun t x => arr Tryd.prog t = some x) (List.forall_mem_cons.2 ⟨arr_71, (List.forall_mem_cons.2 ⟨arr_114, (List.forall_mem_cons.2 ⟨arr_171, (List.forall_mem_cons.2 ⟨arr_174, (List.forall_mem_cons.2 ⟨arr_175, (fun _ h => nomatch h)⟩)⟩)⟩)⟩)⟩)
  ly := get_all (p := fun t x => lay Tryd.prog t = some x) (List.forall_mem_cons.2 ⟨lay_26, (List.forall_mem_cons.2 ⟨lay_27, (List.forall_mem_cons.2 ⟨lay_34, (List.forall_mem_cons.2 ⟨lay_35, (List.forall_mem_cons.2 ⟨lay_41, (List.forall_mem_cons.2 ⟨lay_42, (List.forall_mem_cons.2 ⟨lay_43, (List.forall_mem_cons.2 ⟨lay_44, (List.forall_mem_cons.2 ⟨lay_71, (List.forall_mem_cons.2 ⟨lay_73, (List.forall_mem_cons.2 ⟨lay_74, (List.forall_mem_cons.2 ⟨lay_79, (List.forall_mem_cons.2 ⟨lay_80, (List.forall_mem_cons.2 ⟨lay_84, (List.forall_mem_cons.2 ⟨lay_85, (List.forall_mem_cons.2 ⟨lay_88, (List.forall_mem_cons.2 ⟨lay_89, (List.forall_mem_cons.2 ⟨lay_103, (List.forall_mem_cons.2 ⟨lay_104, (List.forall_mem_cons.2 ⟨lay_114, (List.forall_mem_cons.2 ⟨lay_123, (List.forall_mem_cons.2 ⟨lay_124, (List.forall_mem_cons.2 ⟨lay_142, (List.forall_mem_cons.2 ⟨lay_143, (List.forall_mem_cons.2 ⟨lay_148, (List.forall_mem_cons.2 ⟨lay_149, (List.forall_mem_cons.2 ⟨lay_172, (List.forall_mem_cons.2 ⟨lay_173, (List.forall_mem_cons.2 ⟨lay_174, (List.forall_mem_cons.2 ⟨lay_175, (List.forall_mem_cons.2 ⟨lay_181, (List.forall_mem_cons.2 ⟨lay_182, (fun _ h => nomatch h)⟩)⟩)⟩)⟩)⟩)⟩)⟩)⟩)⟩)⟩)⟩)⟩)⟩)⟩)⟩)⟩)⟩)⟩)⟩)⟩)⟩)⟩)⟩)⟩)⟩)⟩)⟩)⟩)⟩)⟩)⟩)⟩)
  fd := fun t l h f x hx => by
    have := get_all (l := tab.fd) (p := fun t l => Ev.fdAll Tryd.prog t 0 l) (List.forall_mem_cons.2 ⟨⟨fld_26_0, fld_26_1, fld_26_2, trivial⟩, (List.forall_mem_cons.2 ⟨⟨fld_27_0, fld_27_1, fld_27_2, trivial⟩, (List.forall_mem_cons.2 ⟨⟨fld_34_0, fld_34_1, fld_34_2, trivial⟩, (List.forall_mem_cons.2 ⟨⟨fld_35_0, fld_35_1, fld_35_2, trivial⟩, (List.forall_mem_cons.2 ⟨⟨fld_41_0, fld_41_1, trivial⟩, (List.forall_mem_cons.2 ⟨⟨fld_42_0, fld_42_1, trivial⟩, (List.forall_mem_cons.2 ⟨⟨fld_43_0, fld_43_1, trivial⟩, (List.forall_mem_cons.2 ⟨⟨fld_44_0, fld_44_1, trivial⟩, (List.forall_mem_cons.2 ⟨⟨fld_73_0, fld_73_1, fld_73_2, trivial⟩, (List.forall_mem_cons.2 ⟨⟨fld_74_0, fld_74_1, fld_74_2, trivial⟩, (List.forall_mem_cons.2 ⟨⟨fld_79_0, fld_79_1, trivial⟩, (List.forall_mem_cons.2 ⟨⟨fld_80_0, fld_80_1, trivial⟩, (List.forall_mem_cons.2 ⟨⟨fld_84_0, fld_84_1, trivial⟩, (List.forall_mem_cons.2 ⟨⟨fld_85_0, fld_85_1, trivial⟩, (List.forall_mem_cons.2 ⟨⟨fld_88_0, fld_88_1, fld_88_2, fld_88_3, trivial⟩, (List.forall_mem_cons.2 ⟨⟨fld_89_0, fld_89_1, fld_89_2, fld_89_3, trivial⟩, (List.forall_mem_cons.2 ⟨⟨fld_103_0, fld_103_1, trivial⟩, (List.forall_mem_cons.2 ⟨⟨fld_104_0, fld_104_1, trivial⟩, (List.forall_mem_cons.2 ⟨⟨fld_123_0, trivial⟩, (List.forall_mem_cons.2 ⟨⟨fld_124_0, trivial⟩, (List.forall_mem_cons.2 ⟨⟨fld_142_0, fld_142_1, trivial⟩, (List.forall_mem_cons.2 ⟨⟨fld_143_0, fld_143_1, trivial⟩, (List.forall_mem_cons.2 ⟨⟨fld_148_0, fld_148_1, trivial⟩, (List.forall_mem_cons.2 ⟨⟨fld_149_0, fld_149_1, trivial⟩, (List.forall_mem_cons.2 ⟨⟨fld_172_0, fld_172_1, trivial⟩, (List.forall_mem_cons.2 ⟨⟨fld_173_0, fld_173_1, trivial⟩, (List.forall_mem_cons.2 ⟨⟨fld_181_0, fld_181_1, trivial⟩, (List.forall_mem_cons.2 ⟨⟨fld_182_0, fld_182_1, trivial⟩, (fun _ h => nomatch h)⟩)⟩)⟩)⟩)⟩)⟩)⟩)⟩)⟩)⟩)⟩)⟩)⟩)⟩)⟩)⟩)⟩)⟩)⟩)⟩)⟩)⟩)⟩)⟩)⟩)⟩)⟩)⟩) t l h
    have := Ev.fdAll_get this f x hx
    rwa [Nat.zero_add] at this
  eq := fun t h => by
    have h' := List.contains_iff_mem.1 h
    simp only [tab, List.mem_cons, List.not_mem_nil, or_false] at h'
    rcases h' with rfl | rfl
    · exact spanEq_of Tryd.underlying34 (by decide) (by decide) ⟨rfl, rfl, rfl⟩ Tryd.underlying3 Tryd.underlying9 (by kernel_rfl) (by kernel_rfl) (by kernel_rfl) (by kernel_rfl)
    · exact spanEq_of Tryd.underlying35 (by decide) (by decide) ⟨rfl, rfl, rfl⟩ Tryd.underlying3 Tryd.underlying9 (by kernel_rfl) (by kernel_rfl) (by kernel_rfl) (by kernel_rfl)
theorem mixed' (keep : List Nat) (N : Nat) : (Env.P ⟨env.P, env.G, keep, N⟩).follows .mixedOrders = true := by rfl
theorem tabOK' (keep : List Nat) (N : Nat) : TabOK (Env.P ⟨env.P, env.G, keep, N⟩) tab := tabOK
end Go.Proofs.YtadlnaljicikfaaDoor.Abs
