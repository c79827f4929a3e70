/- A part of the proof: a calculus over values, and contracts of functions. No condition. -/
import Derived.Test.YthdjbgbfboppcaaDoorZD2
import Derived.Test.YthdjbgbfboppcaaDoorProg
import Derived.Lib.DecodeN
import Derived.Lib.ValidU
import Derived.Lib.MapLaws
import Derived.Shelf.Unicode.ValidAny
import Derived.WalkKit
import Derived.Laws.RangeString
import Derived.Laws.Strings
import Derived.Laws.RangeAny
namespace Go.Proofs.YthdjbgbfboppcaaDoor.Abs
open Go
set_option maxRecDepth 100000
theorem tsz_0 : tsz Tryd.prog 0 = some (false, 1) := by rfl
theorem kindOf_0 : kindOf Tryd.prog 0 = some TK.other := by rfl
theorem ti_1 : ti Tryd.prog 1 = some (some Value.nilFunc, 1, 8) := by rfl
theorem tsz_1 : tsz Tryd.prog 1 = some (false, 1) := by rfl
theorem kindOf_1 : kindOf Tryd.prog 1 = some TK.other := by rfl
theorem ti_2 : ti Tryd.prog 2 = some (some (Value.int IntKind.i64 0), 1, 8) := by rfl
theorem tsz_2 : tsz Tryd.prog 2 = some (false, 1) := by rfl
theorem kindOf_2 : kindOf Tryd.prog 2 = some (TK.int IntKind.i64) := by rfl
theorem ti_3 : ti Tryd.prog 3 = some (some (Value.int IntKind.i64 0), 1, 8) := by rfl
theorem tsz_3 : tsz Tryd.prog 3 = some (false, 1) := by rfl
theorem kindOf_3 : kindOf Tryd.prog 3 = some (TK.int IntKind.i64) := by rfl
theorem ti_4 : ti Tryd.prog 4 = some (some (Value.bool false), 1, 1) := by rfl
theorem tsz_4 : tsz Tryd.prog 4 = some (false, 1) := by rfl
theorem kindOf_4 : kindOf Tryd.prog 4 = some TK.bool := by rfl
theorem ti_5 : ti Tryd.prog 5 = some (some (Value.int IntKind.u8 0), 1, 1) := by rfl
theorem tsz_5 : tsz Tryd.prog 5 = some (false, 1) := by rfl
theorem kindOf_5 : kindOf Tryd.prog 5 = some (TK.int IntKind.u8) := by rfl
theorem ti_9 : ti Tryd.prog 9 = some (some (Value.string (⟨#[]⟩ : ByteArray)), 1, 16) := by rfl
theorem tsz_9 : tsz Tryd.prog 9 = some (false, 1) := by rfl
theorem kindOf_9 : kindOf Tryd.prog 9 = some TK.str := by rfl
theorem ti_12 : ti Tryd.prog 12 = some (some (Value.int IntKind.u64 0), 1, 8) := by rfl
theorem tsz_12 : tsz Tryd.prog 12 = some (false, 1) := by rfl
theorem kindOf_12 : kindOf Tryd.prog 12 = some (TK.int IntKind.u64) := by rfl
theorem ti_20 : ti Tryd.prog 20 = some (some Value.nilIface, 1, 16) := by rfl
theorem tsz_20 : tsz Tryd.prog 20 = some (false, 1) := by rfl
theorem kindOf_20 : kindOf Tryd.prog 20 = some TK.other := by rfl
theorem ti_21 : ti Tryd.prog 21 = some (some (Value.int IntKind.i32 0), 1, 4) := by rfl
theorem tsz_21 : tsz Tryd.prog 21 = some (false, 1) := by rfl
theorem kindOf_21 : kindOf Tryd.prog 21 = some (TK.int IntKind.i32) := by rfl
theorem ti_22 : ti Tryd.prog 22 = some (some (Value.slice none 0 0), 1, 24) := by rfl
theorem tsz_22 : tsz Tryd.prog 22 = some (false, 1) := by rfl
theorem sle_22 : sle Tryd.prog 22 = some (5, some (Value.int IntKind.u8 0), 1, 1) := by rfl
theorem kindOf_22 : kindOf Tryd.prog 22 = some (TK.sl 5) := by rfl
theorem ti_23 : ti Tryd.prog 23 = some (some Value.nilFunc, 1, 8) := by rfl
theorem tsz_23 : tsz Tryd.prog 23 = some (false, 1) := by rfl
theorem kindOf_23 : kindOf Tryd.prog 23 = some TK.other := by rfl
theorem ti_25 : ti Tryd.prog 25 = some (some (Value.slice none 0 0), 1, 24) := by rfl
theorem tsz_25 : tsz Tryd.prog 25 = some (false, 1) := by rfl
theorem sle_25 : sle Tryd.prog 25 = some (35, some (Value.agg #[Value.int IntKind.i64 0, Value.int IntKind.i64 0, Value.string (⟨#[]⟩ : ByteArray)]), 3, 32) := by rfl
theorem kindOf_25 : kindOf Tryd.prog 25 = some (TK.sl 35) := by rfl
theorem ti_26 : ti Tryd.prog 26 = some (some (Value.int IntKind.i64 0), 1, 8) := by rfl
theorem tsz_26 : tsz Tryd.prog 26 = some (false, 1) := by rfl
theorem kindOf_26 : kindOf Tryd.prog 26 = some (TK.int IntKind.i64) := by rfl
theorem ti_33 : ti Tryd.prog 33 = some (some (Value.agg #[Value.slice none 0 0, Value.slice none 0 0, Value.slice none 0 0, Value.slice none 0 0, Value.slice none 0 0, Value.slice none 0 0]), 6, 144) := by rfl
theorem tsz_33 : tsz Tryd.prog 33 = some (true, 6) := by rfl
theorem arr_33 : arr Tryd.prog 33 = some (6, 22, 1) := by rfl
theorem lay_33 : lay Tryd.prog 33 = some ([AV.v (Value.slice none 0 0), AV.v (Value.slice none 0 0), AV.v (Value.slice none 0 0), AV.v (Value.slice none 0 0), AV.v (Value.slice none 0 0), AV.v (Value.slice none 0 0)], [(0, 1), (1, 1), (2, 1), (3, 1), (4, 1), (5, 1)]) := by rfl
theorem kindOf_33 : kindOf Tryd.prog 33 = some TK.other := by rfl
theorem ti_34 : ti Tryd.prog 34 = some (some (Value.agg #[Value.int IntKind.i64 0, Value.int IntKind.i64 0, Value.string (⟨#[]⟩ : ByteArray)]), 3, 32) := by rfl
theorem tsz_34 : tsz Tryd.prog 34 = some (true, 3) := by rfl
theorem lay_34 : lay Tryd.prog 34 = some ([AV.v (Value.int IntKind.i64 0), AV.v (Value.int IntKind.i64 0), AV.v (Value.string (⟨#[]⟩ : ByteArray))], [(0, 1), (1, 1), (2, 1)]) := by rfl
theorem kindOf_34 : kindOf Tryd.prog 34 = some TK.other := by rfl
theorem fld_34_0 : fld Tryd.prog 34 0 = some (0, 3, 1) := by rfl
theorem fld_34_1 : fld Tryd.prog 34 1 = some (1, 3, 1) := by rfl
theorem fld_34_2 : fld Tryd.prog 34 2 = some (2, 9, 1) := by rfl
theorem ti_35 : ti Tryd.prog 35 = some (some (Value.agg #[Value.int IntKind.i64 0, Value.int IntKind.i64 0, Value.string (⟨#[]⟩ : ByteArray)]), 3, 32) := by rfl
theorem tsz_35 : tsz Tryd.prog 35 = some (true, 3) := by rfl
theorem lay_35 : lay Tryd.prog 35 = some ([AV.v (Value.int IntKind.i64 0), AV.v (Value.int IntKind.i64 0), AV.v (Value.string (⟨#[]⟩ : ByteArray))], [(0, 1), (1, 1), (2, 1)]) := by rfl
theorem kindOf_35 : kindOf Tryd.prog 35 = some TK.other := by rfl
theorem fld_35_0 : fld Tryd.prog 35 0 = some (0, 3, 1) := by rfl
theorem fld_35_1 : fld Tryd.prog 35 1 = some (1, 3, 1) := by rfl
theorem fld_35_2 : fld Tryd.prog 35 2 = some (2, 9, 1) := by rfl
theorem ti_36 : ti Tryd.prog 36 = some (some (Value.agg #[Value.slice none 0 0, Value.slice none 0 0, Value.slice none 0 0]), 3, 72) := by rfl
theorem tsz_36 : tsz Tryd.prog 36 = some (true, 3) := by rfl
theorem arr_36 : arr Tryd.prog 36 = some (3, 25, 1) := by rfl
theorem lay_36 : lay Tryd.prog 36 = some ([AV.v (Value.slice none 0 0), AV.v (Value.slice none 0 0), AV.v (Value.slice none 0 0)], [(0, 1), (1, 1), (2, 1)]) := by rfl
theorem kindOf_36 : kindOf Tryd.prog 36 = some TK.other := by rfl
theorem ti_38 : ti Tryd.prog 38 = some (some (Value.slice none 0 0), 1, 24) := by rfl
theorem tsz_38 : tsz Tryd.prog 38 = some (false, 1) := by rfl
theorem sle_38 : sle Tryd.prog 38 = some (25, some (Value.slice none 0 0), 1, 24) := by rfl
theorem kindOf_38 : kindOf Tryd.prog 38 = some (TK.sl 25) := by rfl
theorem ti_39 : ti Tryd.prog 39 = some (some (Value.agg #[Value.int IntKind.u8 0, Value.int IntKind.u8 0]), 2, 2) := by rfl
theorem tsz_39 : tsz Tryd.prog 39 = some (true, 2) := by rfl
theorem arr_39 : arr Tryd.prog 39 = some (2, 5, 1) := by rfl
theorem lay_39 : lay Tryd.prog 39 = some ([AV.v (Value.int IntKind.u8 0), AV.v (Value.int IntKind.u8 0)], [(0, 1), (1, 1)]) := by rfl
theorem kindOf_39 : kindOf Tryd.prog 39 = some TK.other := by rfl
theorem ti_40 : ti Tryd.prog 40 = some (some (Value.slice none 0 0), 1, 24) := by rfl
theorem tsz_40 : tsz Tryd.prog 40 = some (false, 1) := by rfl
theorem sle_40 : sle Tryd.prog 40 = some (3, some (Value.int IntKind.i64 0), 1, 8) := by rfl
theorem kindOf_40 : kindOf Tryd.prog 40 = some (TK.sl 3) := by rfl
theorem ti_41 : ti Tryd.prog 41 = some (some (Value.agg #[Value.string (⟨#[]⟩ : ByteArray), Value.slice none 0 0, Value.slice none 0 0]), 3, 64) := by rfl
theorem tsz_41 : tsz Tryd.prog 41 = some (true, 3) := by rfl
theorem lay_41 : lay Tryd.prog 41 = some ([AV.v (Value.string (⟨#[]⟩ : ByteArray)), AV.v (Value.slice none 0 0), AV.v (Value.slice none 0 0)], [(0, 1), (1, 1), (2, 1)]) := by rfl
theorem kindOf_41 : kindOf Tryd.prog 41 = some TK.other := by rfl
theorem fld_41_0 : fld Tryd.prog 41 0 = some (0, 9, 1) := by rfl
theorem fld_41_1 : fld Tryd.prog 41 1 = some (1, 40, 1) := by rfl
theorem fld_41_2 : fld Tryd.prog 41 2 = some (2, 38, 1) := by rfl
theorem ti_42 : ti Tryd.prog 42 = some (some (Value.agg #[Value.string (⟨#[]⟩ : ByteArray), Value.slice none 0 0, Value.slice none 0 0]), 3, 64) := by rfl
theorem tsz_42 : tsz Tryd.prog 42 = some (true, 3) := by rfl
theorem lay_42 : lay Tryd.prog 42 = some ([AV.v (Value.string (⟨#[]⟩ : ByteArray)), AV.v (Value.slice none 0 0), AV.v (Value.slice none 0 0)], [(0, 1), (1, 1), (2, 1)]) := by rfl
theorem kindOf_42 : kindOf Tryd.prog 42 = some TK.other := by rfl
theorem fld_42_0 : fld Tryd.prog 42 0 = some (0, 9, 1) := by rfl
theorem fld_42_1 : fld Tryd.prog 42 1 = some (1, 40, 1) := by rfl
theorem fld_42_2 : fld Tryd.prog 42 2 = some (2, 38, 1) := by rfl
theorem ti_75 : ti Tryd.prog 75 = some (some (Value.agg #[Value.slice none 0 0, Value.slice none 0 0]), 2, 48) := by rfl
theorem tsz_75 : tsz Tryd.prog 75 = some (true, 2) := by rfl
theorem lay_75 : lay Tryd.prog 75 = some ([AV.v (Value.slice none 0 0), AV.v (Value.slice none 0 0)], [(0, 1), (1, 1)]) := by rfl
theorem kindOf_75 : kindOf Tryd.prog 75 = some TK.other := by rfl
theorem fld_75_0 : fld Tryd.prog 75 0 = some (0, 40, 1) := by rfl
theorem fld_75_1 : fld Tryd.prog 75 1 = some (1, 22, 1) := by rfl
theorem ti_76 : ti Tryd.prog 76 = some (some (Value.agg #[Value.slice none 0 0, Value.slice none 0 0]), 2, 48) := by rfl
theorem tsz_76 : tsz Tryd.prog 76 = some (true, 2) := by rfl
theorem lay_76 : lay Tryd.prog 76 = some ([AV.v (Value.slice none 0 0), AV.v (Value.slice none 0 0)], [(0, 1), (1, 1)]) := by rfl
theorem kindOf_76 : kindOf Tryd.prog 76 = some TK.other := by rfl
theorem fld_76_0 : fld Tryd.prog 76 0 = some (0, 40, 1) := by rfl
theorem fld_76_1 : fld Tryd.prog 76 1 = some (1, 22, 1) := by rfl
theorem ti_81 : ti Tryd.prog 81 = some (some Value.nilFunc, 1, 8) := by rfl
theorem tsz_81 : tsz Tryd.prog 81 = some (false, 1) := by rfl
theorem kindOf_81 : kindOf Tryd.prog 81 = some TK.other := by rfl
theorem ti_84 : ti Tryd.prog 84 = some (some (Value.pointer none), 1, 8) := by rfl
theorem tsz_84 : tsz Tryd.prog 84 = some (false, 1) := by rfl
theorem kindOf_84 : kindOf Tryd.prog 84 = some TK.ptr := by rfl
theorem ti_87 : ti Tryd.prog 87 = some (some Value.nilFunc, 1, 8) := by rfl
theorem tsz_87 : tsz Tryd.prog 87 = some (false, 1) := by rfl
theorem kindOf_87 : kindOf Tryd.prog 87 = some TK.other := by rfl
theorem ti_88 : ti Tryd.prog 88 = some (some Value.nilFunc, 1, 8) := by rfl
theorem tsz_88 : tsz Tryd.prog 88 = some (false, 1) := by rfl
theorem kindOf_88 : kindOf Tryd.prog 88 = some TK.other := by rfl
theorem ti_94 : ti Tryd.prog 94 = some (some (Value.slice none 0 0), 1, 24) := by rfl
theorem tsz_94 : tsz Tryd.prog 94 = some (false, 1) := by rfl
theorem sle_94 : sle Tryd.prog 94 = some (21, some (Value.int IntKind.i32 0), 1, 4) := by rfl
theorem kindOf_94 : kindOf Tryd.prog 94 = some (TK.sl 21) := by rfl
theorem ti_100 : ti Tryd.prog 100 = some (some (Value.agg #[Value.slice none 0 0]), 1, 24) := by rfl
theorem tsz_100 : tsz Tryd.prog 100 = some (true, 1) := by rfl
theorem lay_100 : lay Tryd.prog 100 = some ([AV.v (Value.slice none 0 0)], [(0, 1)]) := by rfl
theorem kindOf_100 : kindOf Tryd.prog 100 = some TK.other := by rfl
theorem fld_100_0 : fld Tryd.prog 100 0 = some (0, 22, 1) := by rfl
theorem ti_101 : ti Tryd.prog 101 = some (some (Value.agg #[Value.slice none 0 0]), 1, 24) := by rfl
theorem tsz_101 : tsz Tryd.prog 101 = some (true, 1) := by rfl
theorem lay_101 : lay Tryd.prog 101 = some ([AV.v (Value.slice none 0 0)], [(0, 1)]) := by rfl
theorem kindOf_101 : kindOf Tryd.prog 101 = some TK.other := by rfl
theorem fld_101_0 : fld Tryd.prog 101 0 = some (0, 22, 1) := by rfl
theorem ti_107 : ti Tryd.prog 107 = some (some (Value.int IntKind.u64 0), 1, 8) := by rfl
theorem tsz_107 : tsz Tryd.prog 107 = some (false, 1) := by rfl
theorem kindOf_107 : kindOf Tryd.prog 107 = some (TK.int IntKind.u64) := by rfl
theorem ti_108 : ti Tryd.prog 108 = some (some (Value.agg #[Value.int IntKind.i32 0, Value.int IntKind.i32 0, Value.int IntKind.i32 0, Value.int IntKind.i32 0, Value.int IntKind.i32 0, Value.int IntKind.i32 0, Value.int IntKind.i32 0, Value.int IntKind.i32 0]), 8, 32) := by rfl
theorem tsz_108 : tsz Tryd.prog 108 = some (true, 8) := by rfl
theorem arr_108 : arr Tryd.prog 108 = some (8, 21, 1) := by rfl
theorem lay_108 : lay Tryd.prog 108 = some ([AV.v (Value.int IntKind.i32 0), AV.v (Value.int IntKind.i32 0), AV.v (Value.int IntKind.i32 0), AV.v (Value.int IntKind.i32 0), AV.v (Value.int IntKind.i32 0), AV.v (Value.int IntKind.i32 0), AV.v (Value.int IntKind.i32 0), AV.v (Value.int IntKind.i32 0)], [(0, 1), (1, 1), (2, 1), (3, 1), (4, 1), (5, 1), (6, 1), (7, 1)]) := by rfl
theorem kindOf_108 : kindOf Tryd.prog 108 = some TK.other := by rfl
theorem ti_113 : ti Tryd.prog 113 = some (some Value.nilFunc, 1, 8) := by rfl
theorem tsz_113 : tsz Tryd.prog 113 = some (false, 1) := by rfl
theorem kindOf_113 : kindOf Tryd.prog 113 = some TK.other := by rfl
theorem ti_118 : ti Tryd.prog 118 = some (some (Value.slice none 0 0), 1, 24) := by rfl
theorem tsz_118 : tsz Tryd.prog 118 = some (false, 1) := by rfl
theorem sle_118 : sle Tryd.prog 118 = some (35, some (Value.agg #[Value.int IntKind.i64 0, Value.int IntKind.i64 0, Value.string (⟨#[]⟩ : ByteArray)]), 3, 32) := by rfl
theorem kindOf_118 : kindOf Tryd.prog 118 = some (TK.sl 35) := by rfl
theorem tsz_120 : tsz Tryd.prog 120 = some (true, 256) := by rfl
theorem arr_120 : arr Tryd.prog 120 = some (256, 5, 1) := by rfl
theorem kindOf_120 : kindOf Tryd.prog 120 = some TK.other := by rfl
theorem ti_121 : ti Tryd.prog 121 = some (some (Value.agg #[Value.int IntKind.u8 0, Value.int IntKind.u8 0]), 2, 2) := by rfl
theorem tsz_121 : tsz Tryd.prog 121 = some (true, 2) := by rfl
theorem lay_121 : lay Tryd.prog 121 = some ([AV.v (Value.int IntKind.u8 0), AV.v (Value.int IntKind.u8 0)], [(0, 1), (1, 1)]) := by rfl
theorem kindOf_121 : kindOf Tryd.prog 121 = some TK.other := by rfl
theorem fld_121_0 : fld Tryd.prog 121 0 = some (0, 5, 1) := by rfl
theorem fld_121_1 : fld Tryd.prog 121 1 = some (1, 5, 1) := by rfl
theorem ti_122 : ti Tryd.prog 122 = some (some (Value.agg #[Value.int IntKind.u8 0, Value.int IntKind.u8 0]), 2, 2) := by rfl
theorem tsz_122 : tsz Tryd.prog 122 = some (true, 2) := by rfl
theorem lay_122 : lay Tryd.prog 122 = some ([AV.v (Value.int IntKind.u8 0), AV.v (Value.int IntKind.u8 0)], [(0, 1), (1, 1)]) := by rfl
theorem kindOf_122 : kindOf Tryd.prog 122 = some TK.other := by rfl
theorem fld_122_0 : fld Tryd.prog 122 0 = some (0, 5, 1) := by rfl
theorem fld_122_1 : fld Tryd.prog 122 1 = some (1, 5, 1) := by rfl
theorem ti_123 : ti Tryd.prog 123 = some (some (Value.agg #[Value.int IntKind.u8 0, Value.int IntKind.u8 0, Value.int IntKind.u8 0, Value.int IntKind.u8 0, Value.int IntKind.u8 0, Value.int IntKind.u8 0, Value.int IntKind.u8 0, Value.int IntKind.u8 0, Value.int IntKind.u8 0, Value.int IntKind.u8 0, Value.int IntKind.u8 0, Value.int IntKind.u8 0, Value.int IntKind.u8 0, Value.int IntKind.u8 0, Value.int IntKind.u8 0, Value.int IntKind.u8 0, Value.int IntKind.u8 0, Value.int IntKind.u8 0, Value.int IntKind.u8 0, Value.int IntKind.u8 0, Value.int IntKind.u8 0, Value.int IntKind.u8 0, Value.int IntKind.u8 0, Value.int IntKind.u8 0, Value.int IntKind.u8 0, Value.int IntKind.u8 0, Value.int IntKind.u8 0, Value.int IntKind.u8 0, Value.int IntKind.u8 0, Value.int IntKind.u8 0, Value.int IntKind.u8 0, Value.int IntKind.u8 0]), 32, 32) := by rfl
theorem tsz_123 : tsz Tryd.prog 123 = some (true, 32) := by rfl
theorem arr_123 : arr Tryd.prog 123 = some (16, 122, 2) := by rfl
theorem lay_123 : lay Tryd.prog 123 = some ([AV.v (Value.int IntKind.u8 0), AV.v (Value.int IntKind.u8 0), AV.v (Value.int IntKind.u8 0), AV.v (Value.int IntKind.u8 0), AV.v (Value.int IntKind.u8 0), AV.v (Value.int IntKind.u8 0), AV.v (Value.int IntKind.u8 0), AV.v (Value.int IntKind.u8 0), AV.v (Value.int IntKind.u8 0), AV.v (Value.int IntKind.u8 0), AV.v (Value.int IntKind.u8 0), AV.v (Value.int IntKind.u8 0), AV.v (Value.int IntKind.u8 0), AV.v (Value.int IntKind.u8 0), AV.v (Value.int IntKind.u8 0), AV.v (Value.int IntKind.u8 0), AV.v (Value.int IntKind.u8 0), AV.v (Value.int IntKind.u8 0), AV.v (Value.int IntKind.u8 0), AV.v (Value.int IntKind.u8 0), AV.v (Value.int IntKind.u8 0), AV.v (Value.int IntKind.u8 0), AV.v (Value.int IntKind.u8 0), AV.v (Value.int IntKind.u8 0), AV.v (Value.int IntKind.u8 0), AV.v (Value.int IntKind.u8 0), AV.v (Value.int IntKind.u8 0), AV.v (Value.int IntKind.u8 0), AV.v (Value.int IntKind.u8 0), AV.v (Value.int IntKind.u8 0), AV.v (Value.int IntKind.u8 0), AV.v (Value.int IntKind.u8 0)], [(0, 2), (2, 2), (4, 2), (6, 2), (8, 2), (10, 2), (12, 2), (14, 2), (16, 2), (18, 2), (20, 2), (22, 2), (24, 2), (26, 2), (28, 2), (30, 2)]) := by rfl
theorem kindOf_123 : kindOf Tryd.prog 123 = some TK.other := by rfl
theorem ti_125 : ti Tryd.prog 125 = some (some (Value.agg #[Value.slice none 0 0, Value.int IntKind.i64 0]), 2, 32) := by rfl
theorem tsz_125 : tsz Tryd.prog 125 = some (true, 2) := by rfl
theorem lay_125 : lay Tryd.prog 125 = some ([AV.v (Value.slice none 0 0), AV.v (Value.int IntKind.i64 0)], [(0, 1), (1, 1)]) := by rfl
theorem kindOf_125 : kindOf Tryd.prog 125 = some TK.other := by rfl
theorem fld_125_0 : fld Tryd.prog 125 0 = some (0, 22, 1) := by rfl
theorem fld_125_1 : fld Tryd.prog 125 1 = some (1, 26, 1) := by rfl
theorem ti_126 : ti Tryd.prog 126 = some (some (Value.agg #[Value.slice none 0 0, Value.int IntKind.i64 0]), 2, 32) := by rfl
theorem tsz_126 : tsz Tryd.prog 126 = some (true, 2) := by rfl
theorem lay_126 : lay Tryd.prog 126 = some ([AV.v (Value.slice none 0 0), AV.v (Value.int IntKind.i64 0)], [(0, 1), (1, 1)]) := by rfl
theorem kindOf_126 : kindOf Tryd.prog 126 = some TK.other := by rfl
theorem fld_126_0 : fld Tryd.prog 126 0 = some (0, 22, 1) := by rfl
theorem fld_126_1 : fld Tryd.prog 126 1 = some (1, 26, 1) := by rfl
theorem ti_128 : ti Tryd.prog 128 = some (some (Value.pointer none), 1, 8) := by rfl
theorem tsz_128 : tsz Tryd.prog 128 = some (false, 1) := by rfl
theorem kindOf_128 : kindOf Tryd.prog 128 = some TK.ptr := by rfl
theorem ti_129 : ti Tryd.prog 129 = some (some (Value.map none), 1, 8) := by rfl
theorem tsz_129 : tsz Tryd.prog 129 = some (false, 1) := by rfl
theorem kindOf_129 : kindOf Tryd.prog 129 = some TK.other := by rfl
theorem ti_133 : ti Tryd.prog 133 = some (some (Value.agg #[Value.bool false, Value.bool false]), 2, 2) := by rfl
theorem tsz_133 : tsz Tryd.prog 133 = some (true, 2) := by rfl
theorem lay_133 : lay Tryd.prog 133 = some ([AV.v (Value.bool false), AV.v (Value.bool false)], [(0, 1), (1, 1)]) := by rfl
theorem kindOf_133 : kindOf Tryd.prog 133 = some TK.other := by rfl
theorem fld_133_0 : fld Tryd.prog 133 0 = some (0, 4, 1) := by rfl
theorem fld_133_1 : fld Tryd.prog 133 1 = some (1, 4, 1) := by rfl
theorem ti_134 : ti Tryd.prog 134 = some (some (Value.agg #[Value.bool false, Value.bool false]), 2, 2) := by rfl
theorem tsz_134 : tsz Tryd.prog 134 = some (true, 2) := by rfl
theorem lay_134 : lay Tryd.prog 134 = some ([AV.v (Value.bool false), AV.v (Value.bool false)], [(0, 1), (1, 1)]) := by rfl
theorem kindOf_134 : kindOf Tryd.prog 134 = some TK.other := by rfl
theorem fld_134_0 : fld Tryd.prog 134 0 = some (0, 4, 1) := by rfl
theorem fld_134_1 : fld Tryd.prog 134 1 = some (1, 4, 1) := by rfl
theorem ti_139 : ti Tryd.prog 139 = some (some (Value.slice none 0 0), 1, 24) := by rfl
theorem tsz_139 : tsz Tryd.prog 139 = some (false, 1) := by rfl
theorem sle_139 : sle Tryd.prog 139 = some (113, some Value.nilFunc, 1, 8) := by rfl
theorem kindOf_139 : kindOf Tryd.prog 139 = some (TK.sl 113) := by rfl
theorem ti_140 : ti Tryd.prog 140 = some (some (Value.int IntKind.u64 0), 1, 8) := by rfl
theorem tsz_140 : tsz Tryd.prog 140 = some (false, 1) := by rfl
theorem kindOf_140 : kindOf Tryd.prog 140 = some (TK.int IntKind.u64) := by rfl
theorem ti_141 : ti Tryd.prog 141 = some (some (Value.pointer none), 1, 8) := by rfl
theorem tsz_141 : tsz Tryd.prog 141 = some (false, 1) := by rfl
theorem kindOf_141 : kindOf Tryd.prog 141 = some TK.ptr := by rfl
theorem ti_142 : ti Tryd.prog 142 = some (some (Value.pointer none), 1, 8) := by rfl
theorem tsz_142 : tsz Tryd.prog 142 = some (false, 1) := by rfl
theorem kindOf_142 : kindOf Tryd.prog 142 = some TK.ptr := by rfl
theorem ti_145 : ti Tryd.prog 145 = some (some (Value.agg #[Value.bool false, Value.bool false, Value.bool false, Value.bool false, Value.bool false, Value.bool false, Value.bool false, Value.bool false]), 8, 8) := by rfl
theorem tsz_145 : tsz Tryd.prog 145 = some (true, 8) := by rfl
theorem arr_145 : arr Tryd.prog 145 = some (4, 134, 2) := by rfl
theorem lay_145 : lay Tryd.prog 145 = some ([AV.v (Value.bool false), AV.v (Value.bool false), AV.v (Value.bool false), AV.v (Value.bool false), AV.v (Value.bool false), AV.v (Value.bool false), AV.v (Value.bool false), AV.v (Value.bool false)], [(0, 2), (2, 2), (4, 2), (6, 2)]) := by rfl
theorem kindOf_145 : kindOf Tryd.prog 145 = some TK.other := by rfl
theorem ti_146 : ti Tryd.prog 146 = some (some (Value.agg #[Value.slice none 0 0, Value.slice none 0 0]), 2, 48) := by rfl
theorem tsz_146 : tsz Tryd.prog 146 = some (true, 2) := by rfl
theorem lay_146 : lay Tryd.prog 146 = some ([AV.v (Value.slice none 0 0), AV.v (Value.slice none 0 0)], [(0, 1), (1, 1)]) := by rfl
theorem kindOf_146 : kindOf Tryd.prog 146 = some TK.other := by rfl
theorem fld_146_0 : fld Tryd.prog 146 0 = some (0, 25, 1) := by rfl
theorem fld_146_1 : fld Tryd.prog 146 1 = some (1, 94, 1) := by rfl
theorem ti_147 : ti Tryd.prog 147 = some (some (Value.agg #[Value.slice none 0 0, Value.slice none 0 0]), 2, 48) := by rfl
theorem tsz_147 : tsz Tryd.prog 147 = some (true, 2) := by rfl
theorem lay_147 : lay Tryd.prog 147 = some ([AV.v (Value.slice none 0 0), AV.v (Value.slice none 0 0)], [(0, 1), (1, 1)]) := by rfl
theorem kindOf_147 : kindOf Tryd.prog 147 = some TK.other := by rfl
theorem fld_147_0 : fld Tryd.prog 147 0 = some (0, 25, 1) := by rfl
theorem fld_147_1 : fld Tryd.prog 147 1 = some (1, 94, 1) := by rfl
theorem ti_148 : ti Tryd.prog 148 = some (some Value.nilFunc, 1, 8) := by rfl
theorem tsz_148 : tsz Tryd.prog 148 = some (false, 1) := by rfl
theorem kindOf_148 : kindOf Tryd.prog 148 = some TK.other := by rfl
theorem ti_154 : ti Tryd.prog 154 = some (some (Value.int IntKind.u32 0), 1, 4) := by rfl
theorem tsz_154 : tsz Tryd.prog 154 = some (false, 1) := by rfl
theorem kindOf_154 : kindOf Tryd.prog 154 = some (TK.int IntKind.u32) := by rfl
def glob2 : List AV := [.v (.bool false), .v (.bool false), .v (.bool true), .v (.bool true), .v (.bool false), .v (.bool false), .v (.bool true), .v (.bool false)]
def glob0 : List AV := (List.range 256).map fun c => AV.v (Value.int IntKind.u8 (Lib.firstT c))
def glob1 : List AV := (List.range 16).flatMap fun i => [AV.v (Value.int IntKind.u8 (Lib.accLo i)), AV.v (Value.int IntKind.u8 (Lib.accHi i))]
def envG : Nat → Option (List AV)
  | 2 => some glob2
  | 0 => some glob0
  | 1 => some glob1
  | _ => none
noncomputable def env : Env := ⟨Tryd.prog, envG, [], 0⟩
def tab : Tab where
  knd := [(0, TK.other), (1, TK.other), (2, TK.int IntKind.i64), (3, TK.int IntKind.i64), (4, TK.bool), (5, TK.int IntKind.u8), (9, TK.str), (12, TK.int IntKind.u64), (20, TK.other), (21, TK.int IntKind.i32), (22, TK.sl 5), (23, TK.other), (25, TK.sl 35), (26, TK.int IntKind.i64), (33, TK.other), (34, TK.other), (35, TK.other), (36, TK.other), (38, TK.sl 25), (39, TK.other), (40, TK.sl 3), (41, TK.other), (42, TK.other), (75, TK.other), (76, TK.other), (81, TK.other), (84, TK.ptr), (87, TK.other), (88, TK.other), (94, TK.sl 21), (100, TK.other), (101, TK.other), (107, TK.int IntKind.u64), (108, TK.other), (113, TK.other), (118, TK.sl 35), (120, TK.other), (121, TK.other), (122, TK.other), (123, TK.other), (125, TK.other), (126, TK.other), (128, TK.ptr), (129, TK.other), (133, TK.other), (134, TK.other), (139, TK.sl 113), (140, TK.int IntKind.u64), (141, TK.ptr), (142, TK.ptr), (145, TK.other), (146, TK.other), (147, TK.other), (148, TK.other), (154, TK.int IntKind.u32)]
  tz := [(0, (false, 1)), (1, (false, 1)), (2, (false, 1)), (3, (false, 1)), (4, (false, 1)), (5, (false, 1)), (9, (false, 1)), (12, (false, 1)), (20, (false, 1)), (21, (false, 1)), (22, (false, 1)), (23, (false, 1)), (25, (false, 1)), (26, (false, 1)), (33, (true, 6)), (34, (true, 3)), (35, (true, 3)), (36, (true, 3)), (38, (false, 1)), (39, (true, 2)), (40, (false, 1)), (41, (true, 3)), (42, (true, 3)), (75, (true, 2)), (76, (true, 2)), (81, (false, 1)), (84, (false, 1)), (87, (false, 1)), (88, (false, 1)), (94, (false, 1)), (100, (true, 1)), (101, (true, 1)), (107, (false, 1)), (108, (true, 8)), (113, (false, 1)), (118, (false, 1)), (120, (true, 256)), (121, (true, 2)), (122, (true, 2)), (123, (true, 32)), (125, (true, 2)), (126, (true, 2)), (128, (false, 1)), (129, (false, 1)), (133, (true, 2)), (134, (true, 2)), (139, (false, 1)), (140, (false, 1)), (141, (false, 1)), (142, (false, 1)), (145, (true, 8)), (146, (true, 2)), (147, (true, 2)), (148, (false, 1)), (154, (false, 1))]
  zc := [(1, [AV.v (Value.nilFunc)]), (2, [AV.v (Value.int IntKind.i64 0)]), (3, [AV.v (Value.int IntKind.i64 0)]), (4, [AV.v (Value.bool false)]), (5, [AV.v (Value.int IntKind.u8 0)]), (9, [AV.v (Value.string (⟨#[]⟩ : ByteArray))]), (12, [AV.v (Value.int IntKind.u64 0)]), (20, [AV.v (Value.nilIface)]), (21, [AV.v (Value.int IntKind.i32 0)]), (22, [AV.v (Value.slice none 0 0)]), (23, [AV.v (Value.nilFunc)]), (25, [AV.v (Value.slice none 0 0)]), (26, [AV.v (Value.int IntKind.i64 0)]), (33, ([Value.slice none 0 0, Value.slice none 0 0, Value.slice none 0 0, Value.slice none 0 0, Value.slice none 0 0, Value.slice none 0 0].map AV.v)), (34, ([Value.int IntKind.i64 0, Value.int IntKind.i64 0, Value.string (⟨#[]⟩ : ByteArray)].map AV.v)), (35, ([Value.int IntKind.i64 0, Value.int IntKind.i64 0, Value.string (⟨#[]⟩ : ByteArray)].map AV.v)), (36, ([Value.slice none 0 0, Value.slice none 0 0, Value.slice none 0 0].map AV.v)), (38, [AV.v (Value.slice none 0 0)]), (39, ([Value.int IntKind.u8 0, Value.int IntKind.u8 0].map AV.v)), (40, [AV.v (Value.slice none 0 0)]), (41, ([Value.string (⟨#[]⟩ : ByteArray), Value.slice none 0 0, Value.slice none 0 0].map AV.v)), (42, ([Value.string (⟨#[]⟩ : ByteArray), Value.slice none 0 0, Value.slice none 0 0].map AV.v)), (75, ([Value.slice none 0 0, Value.slice none 0 0].map AV.v)), (76, ([Value.slice none 0 0, Value.slice none 0 0].map AV.v)), (81, [AV.v (Value.nilFunc)]), (84, [AV.v (Value.pointer none)]), (87, [AV.v (Value.nilFunc)]), (88, [AV.v (Value.nilFunc)]), (94, [AV.v (Value.slice none 0 0)]), (100, ([Value.slice none 0 0].map AV.v)), (101, ([Value.slice none 0 0].map AV.v)), (107, [AV.v (Value.int IntKind.u64 0)]), (108, ([Value.int IntKind.i32 0, Value.int IntKind.i32 0, Value.int IntKind.i32 0, Value.int IntKind.i32 0, Value.int IntKind.i32 0, Value.int IntKind.i32 0, Value.int IntKind.i32 0, Value.int IntKind.i32 0].map AV.v)), (113, [AV.v (Value.nilFunc)]), (118, [AV.v (Value.slice none 0 0)]), (121, ([Value.int IntKind.u8 0, Value.int IntKind.u8 0].map AV.v)), (122, ([Value.int IntKind.u8 0, Value.int IntKind.u8 0].map AV.v)), (123, ([Value.int IntKind.u8 0, Value.int IntKind.u8 0, Value.int IntKind.u8 0, Value.int IntKind.u8 0, Value.int IntKind.u8 0, Value.int IntKind.u8 0, Value.int IntKind.u8 0, Value.int IntKind.u8 0, Value.int IntKind.u8 0, Value.int IntKind.u8 0, Value.int IntKind.u8 0, Value.int IntKind.u8 0, Value.int IntKind.u8 0, Value.int IntKind.u8 0, Value.int IntKind.u8 0, Value.int IntKind.u8 0, Value.int IntKind.u8 0, Value.int IntKind.u8 0, Value.int IntKind.u8 0, Value.int IntKind.u8 0, Value.int IntKind.u8 0, Value.int IntKind.u8 0, Value.int IntKind.u8 0, Value.int IntKind.u8 0, Value.int IntKind.u8 0, Value.int IntKind.u8 0, Value.int IntKind.u8 0, Value.int IntKind.u8 0, Value.int IntKind.u8 0, Value.int IntKind.u8 0, Value.int IntKind.u8 0, Value.int IntKind.u8 0].map AV.v)), (125, ([Value.slice none 0 0, Value.int IntKind.i64 0].map AV.v)), (126, ([Value.slice none 0 0, Value.int IntKind.i64 0].map AV.v)), (128, [AV.v (Value.pointer none)]), (129, [AV.v (Value.map none)]), (133, ([Value.bool false, Value.bool false].map AV.v)), (134, ([Value.bool false, Value.bool false].map AV.v)), (139, [AV.v (Value.slice none 0 0)]), (140, [AV.v (Value.int IntKind.u64 0)]), (141, [AV.v (Value.pointer none)]), (142, [AV.v (Value.pointer none)]), (145, ([Value.bool false, Value.bool false, Value.bool false, Value.bool false, Value.bool false, Value.bool false, Value.bool false, Value.bool false].map AV.v)), (146, ([Value.slice none 0 0, Value.slice none 0 0].map AV.v)), (147, ([Value.slice none 0 0, Value.slice none 0 0].map AV.v)), (148, [AV.v (Value.nilFunc)]), (154, [AV.v (Value.int IntKind.u32 0)])]
  sl := [(22, (5, 1, 1, [AV.v (Value.int IntKind.u8 0)])), (25, (35, 3, 32, ([Value.int IntKind.i64 0, Value.int IntKind.i64 0, Value.string (⟨#[]⟩ : ByteArray)].map AV.v))), (38, (25, 1, 24, [AV.v (Value.slice none 0 0)])), (40, (3, 1, 8, [AV.v (Value.int IntKind.i64 0)])), (94, (21, 1, 4, [AV.v (Value.int IntKind.i32 0)])), (118, (35, 3, 32, ([Value.int IntKind.i64 0, Value.int IntKind.i64 0, Value.string (⟨#[]⟩ : ByteArray)].map AV.v))), (139, (113, 1, 8, [AV.v (Value.nilFunc)]))]
  ar := [(33, (6, 22, 1)), (36, (3, 25, 1)), (39, (2, 5, 1)), (108, (8, 21, 1)), (120, (256, 5, 1)), (123, (16, 122, 2)), (145, (4, 134, 2))]
  ly := [(33, ([AV.v (Value.slice none 0 0), AV.v (Value.slice none 0 0), AV.v (Value.slice none 0 0), AV.v (Value.slice none 0 0), AV.v (Value.slice none 0 0), AV.v (Value.slice none 0 0)], [(0, 1), (1, 1), (2, 1), (3, 1), (4, 1), (5, 1)])), (34, ([AV.v (Value.int IntKind.i64 0), AV.v (Value.int IntKind.i64 0), AV.v (Value.string (⟨#[]⟩ : ByteArray))], [(0, 1), (1, 1), (2, 1)])), (35, ([AV.v (Value.int IntKind.i64 0), AV.v (Value.int IntKind.i64 0), AV.v (Value.string (⟨#[]⟩ : ByteArray))], [(0, 1), (1, 1), (2, 1)])), (36, ([AV.v (Value.slice none 0 0), AV.v (Value.slice none 0 0), AV.v (Value.slice none 0 0)], [(0, 1), (1, 1), (2, 1)])), (39, ([AV.v (Value.int IntKind.u8 0), AV.v (Value.int IntKind.u8 0)], [(0, 1), (1, 1)])), (41, ([AV.v (Value.string (⟨#[]⟩ : ByteArray)), AV.v (Value.slice none 0 0), AV.v (Value.slice none 0 0)], [(0, 1), (1, 1), (2, 1)])), (42, ([AV.v (Value.string (⟨#[]⟩ : ByteArray)), AV.v (Value.slice none 0 0), AV.v (Value.slice none 0 0)], [(0, 1), (1, 1), (2, 1)])), (75, ([AV.v (Value.slice none 0 0), AV.v (Value.slice none 0 0)], [(0, 1), (1, 1)])), (76, ([AV.v (Value.slice none 0 0), AV.v (Value.slice none 0 0)], [(0, 1), (1, 1)])), (100, ([AV.v (Value.slice none 0 0)], [(0, 1)])), (101, ([AV.v (Value.slice none 0 0)], [(0, 1)])), (108, ([AV.v (Value.int IntKind.i32 0), AV.v (Value.int IntKind.i32 0), AV.v (Value.int IntKind.i32 0), AV.v (Value.int IntKind.i32 0), AV.v (Value.int IntKind.i32 0), AV.v (Value.int IntKind.i32 0), AV.v (Value.int IntKind.i32 0), AV.v (Value.int IntKind.i32 0)], [(0, 1), (1, 1), (2, 1), (3, 1), (4, 1), (5, 1), (6, 1), (7, 1)])), (121, ([AV.v (Value.int IntKind.u8 0), AV.v (Value.int IntKind.u8 0)], [(0, 1), (1, 1)])), (122, ([AV.v (Value.int IntKind.u8 0), AV.v (Value.int IntKind.u8 0)], [(0, 1), (1, 1)])), (123, ([AV.v (Value.int IntKind.u8 0), AV.v (Value.int IntKind.u8 0), AV.v (Value.int IntKind.u8 0), AV.v (Value.int IntKind.u8 0), AV.v (Value.int IntKind.u8 0), AV.v (Value.int IntKind.u8 0), AV.v (Value.int IntKind.u8 0), AV.v (Value.int IntKind.u8 0), AV.v (Value.int IntKind.u8 0), AV.v (Value.int IntKind.u8 0), AV.v (Value.int IntKind.u8 0), AV.v (Value.int IntKind.u8 0), AV.v (Value.int IntKind.u8 0), AV.v (Value.int IntKind.u8 0), AV.v (Value.int IntKind.u8 0), AV.v (Value.int IntKind.u8 0), AV.v (Value.int IntKind.u8 0), AV.v (Value.int IntKind.u8 0), AV.v (Value.int IntKind.u8 0), AV.v (Value.int IntKind.u8 0), AV.v (Value.int IntKind.u8 0), AV.v (Value.int IntKind.u8 0), AV.v (Value.int IntKind.u8 0), AV.v (Value.int IntKind.u8 0), AV.v (Value.int IntKind.u8 0), AV.v (Value.int IntKind.u8 0), AV.v (Value.int IntKind.u8 0), AV.v (Value.int IntKind.u8 0), AV.v (Value.int IntKind.u8 0), AV.v (Value.int IntKind.u8 0), AV.v (Value.int IntKind.u8 0), AV.v (Value.int IntKind.u8 0)], [(0, 2), (2, 2), (4, 2), (6, 2), (8, 2), (10, 2), (12, 2), (14, 2), (16, 2), (18, 2), (20, 2), (22, 2), (24, 2), (26, 2), (28, 2), (30, 2)])), (125, ([AV.v (Value.slice none 0 0), AV.v (Value.int IntKind.i64 0)], [(0, 1), (1, 1)])), (126, ([AV.v (Value.slice none 0 0), AV.v (Value.int IntKind.i64 0)], [(0, 1), (1, 1)])), (133, ([AV.v (Value.bool false), AV.v (Value.bool false)], [(0, 1), (1, 1)])), (134, ([AV.v (Value.bool false), AV.v (Value.bool false)], [(0, 1), (1, 1)])), (145, ([AV.v (Value.bool false), AV.v (Value.bool false), AV.v (Value.bool false), AV.v (Value.bool false), AV.v (Value.bool false), AV.v (Value.bool false), AV.v (Value.bool false), AV.v (Value.bool false)], [(0, 2), (2, 2), (4, 2), (6, 2)])), (146, ([AV.v (Value.slice none 0 0), AV.v (Value.slice none 0 0)], [(0, 1), (1, 1)])), (147, ([AV.v (Value.slice none 0 0), AV.v (Value.slice none 0 0)], [(0, 1), (1, 1)]))]
  fd := [(34, [(0, 3, 1), (1, 3, 1), (2, 9, 1)]), (35, [(0, 3, 1), (1, 3, 1), (2, 9, 1)]), (41, [(0, 9, 1), (1, 40, 1), (2, 38, 1)]), (42, [(0, 9, 1), (1, 40, 1), (2, 38, 1)]), (75, [(0, 40, 1), (1, 22, 1)]), (76, [(0, 40, 1), (1, 22, 1)]), (100, [(0, 22, 1)]), (101, [(0, 22, 1)]), (121, [(0, 5, 1), (1, 5, 1)]), (122, [(0, 5, 1), (1, 5, 1)]), (125, [(0, 22, 1), (1, 26, 1)]), (126, [(0, 22, 1), (1, 26, 1)]), (133, [(0, 4, 1), (1, 4, 1)]), (134, [(0, 4, 1), (1, 4, 1)]), (146, [(0, 25, 1), (1, 94, 1)]), (147, [(0, 25, 1), (1, 94, 1)])]
  eq := [34, 35]
theorem tabOK : TabOK env.P tab where
  knd := get_all (p := fun t x => kindOf Tryd.prog t = some x) (List.forall_mem_cons.2 ⟨kindOf_0, (List.forall_mem_cons.2 ⟨kindOf_1, (List.forall_mem_cons.2 ⟨kindOf_2, (List.forall_mem_cons.2 ⟨kindOf_3, (List.forall_mem_cons.2 ⟨kindOf_4, (List.forall_mem_cons.2 ⟨kindOf_5, (List.forall_mem_cons.2 ⟨kindOf_9, (List.forall_mem_cons.2 ⟨kindOf_12, (List.forall_mem_cons.2 ⟨kindOf_20, (List.forall_mem_cons.2 ⟨kindOf_21, (List.forall_mem_cons.2 ⟨kindOf_22, (List.forall_mem_cons.2 ⟨kindOf_23, (List.forall_mem_cons.2 ⟨kindOf_25, (List.forall_mem_cons.2 ⟨kindOf_26, (List.forall_mem_cons.2 ⟨kindOf_33, (List.forall_mem_cons.2 ⟨kindOf_34, (List.forall_mem_cons.2 ⟨kindOf_35, (List.forall_mem_cons.2 ⟨kindOf_36, (List.forall_mem_cons.2 ⟨kindOf_38, (List.forall_mem_cons.2 ⟨kindOf_39, (List.forall_mem_cons.2 ⟨kindOf_40, (List.forall_mem_cons.2 ⟨kindOf_41, (List.forall_mem_cons.2 ⟨kindOf_42, (List.forall_mem_cons.2 ⟨kindOf_75, (List.forall_mem_cons.2 ⟨kindOf_76, (List.forall_mem_cons.2 ⟨kindOf_81, (List.forall_mem_cons.2 ⟨kindOf_84, (List.forall_mem_cons.2 ⟨kindOf_87, (List.forall_mem_cons.2 ⟨kindOf_88, (List.forall_mem_cons.2 ⟨kindOf_94, (List.forall_mem_cons.2 ⟨kindOf_100, (List.forall_mem_cons.2 ⟨kindOf_101, (List.forall_mem_cons.2 ⟨kindOf_107, (List.forall_mem_cons.2 ⟨kindOf_108, (List.forall_mem_cons.2 ⟨kindOf_113, (List.forall_mem_cons.2 ⟨kindOf_118, (List.forall_mem_cons.2 ⟨kindOf_120, (List.forall_mem_cons.2 ⟨kindOf_121, (List.forall_mem_cons.2 ⟨kindOf_122, (List.forall_mem_cons.2 ⟨kindOf_123, (List.forall_mem_cons.2 ⟨kindOf_125, (List.forall_mem_cons.2 ⟨kindOf_126, (List.forall_mem_cons.2 ⟨kindOf_128, (List.forall_mem_cons.2 ⟨kindOf_129, (List.forall_mem_cons.2 ⟨kindOf_133, (List.forall_mem_cons.2 ⟨kindOf_134, (List.forall_mem_cons.2 ⟨kindOf_139, (List.forall_mem_cons.2 ⟨kindOf_140, (List.forall_mem_cons.2 ⟨kindOf_141, (List.forall_mem_cons.2 ⟨kindOf_142, (List.forall_mem_cons.2 ⟨kindOf_145, (List.forall_mem_cons.2 ⟨kindOf_146, (List.forall_mem_cons.2 ⟨kindOf_147, (List.forall_mem_cons.2 ⟨kindOf_148, (List.forall_mem_cons.2 ⟨kindOf_154, (fun _ h => nomatch h)⟩)⟩)⟩)⟩)⟩)⟩)⟩)⟩)⟩)⟩)⟩)⟩)⟩)⟩)⟩)⟩)⟩)⟩)⟩)⟩)⟩)⟩)⟩)⟩)⟩)⟩)⟩)⟩)⟩)⟩)⟩)⟩)⟩)⟩)⟩)⟩)⟩)⟩)⟩)⟩)⟩)⟩)⟩)⟩)⟩)⟩)⟩)⟩)⟩)⟩)⟩)⟩)⟩)⟩)⟩)
  tz := get_all (p := fun t x => tsz Tryd.prog t = some x) (List.forall_mem_cons.2 ⟨tsz_0, (List.forall_mem_cons.2 ⟨tsz_1, (List.forall_mem_cons.2 ⟨tsz_2, (List.forall_mem_cons.2 ⟨tsz_3, (List.forall_mem_cons.2 ⟨tsz_4, (List.forall_mem_cons.2 ⟨tsz_5, (List.forall_mem_cons.2 ⟨tsz_9, (List.forall_mem_cons.2 ⟨tsz_12, (List.forall_mem_cons.2 ⟨tsz_20, (List.forall_mem_cons.2 ⟨tsz_21, (List.forall_mem_cons.2 ⟨tsz_22, (List.forall_mem_cons.2 ⟨tsz_23, (List.forall_mem_cons.2 ⟨tsz_25, (List.forall_mem_cons.2 ⟨tsz_26, (List.forall_mem_cons.2 ⟨tsz_33, (List.forall_mem_cons.2 ⟨tsz_34, (List.forall_mem_cons.2 ⟨tsz_35, (List.forall_mem_cons.2 ⟨tsz_36, (List.forall_mem_cons.2 ⟨tsz_38, (List.forall_mem_cons.2 ⟨tsz_39, (List.forall_mem_cons.2 ⟨tsz_40, (List.forall_mem_cons.2 ⟨tsz_41, (List.forall_mem_cons.2 ⟨tsz_42, (List.forall_mem_cons.2 ⟨tsz_75, (List.forall_mem_cons.2 ⟨tsz_76, (List.forall_mem_cons.2 ⟨tsz_81, (List.forall_mem_cons.2 ⟨tsz_84, (List.forall_mem_cons.2 ⟨tsz_87, (List.forall_mem_cons.2 ⟨tsz_88, (List.forall_mem_cons.2 ⟨tsz_94, (List.forall_mem_cons.2 ⟨tsz_100, (List.forall_mem_cons.2 ⟨tsz_101, (List.forall_mem_cons.2 ⟨tsz_107, (List.forall_mem_cons.2 ⟨tsz_108, (List.forall_mem_cons.2 ⟨tsz_113, (List.forall_mem_cons.2 ⟨tsz_118, (List.forall_mem_cons.2 ⟨tsz_120, (List.forall_mem_cons.2 ⟨tsz_121, (List.forall_mem_cons.2 ⟨tsz_122, (List.forall_mem_cons.2 ⟨tsz_123, (List.forall_mem_cons.2 ⟨tsz_125, (List.forall_mem_cons.2 ⟨tsz_126, (List.forall_mem_cons.2 ⟨tsz_128, (List.forall_mem_cons.2 ⟨tsz_129, (List.forall_mem_cons.2 ⟨tsz_133, (List.forall_mem_cons.2 ⟨tsz_134, (List.forall_mem_cons.2 ⟨tsz_139, (List.forall_mem_cons.2 ⟨tsz_140, (List.forall_mem_cons.2 ⟨tsz_141, (List.forall_mem_cons.2 ⟨tsz_142, (List.forall_mem_cons.2 ⟨tsz_145, (List.forall_mem_cons.2 ⟨tsz_146, (List.forall_mem_cons.2 ⟨tsz_147, (List.forall_mem_cons.2 ⟨tsz_148, (List.forall_mem_cons.2 ⟨tsz_154, (fun _ h => nomatch h)⟩)⟩)⟩)⟩)⟩)⟩)⟩)⟩)⟩)⟩)⟩)⟩)⟩)⟩)⟩)⟩)⟩)⟩)⟩)⟩)⟩)⟩)⟩)⟩)⟩)⟩)⟩)⟩)⟩)⟩)⟩)⟩)⟩)⟩)⟩)⟩)⟩)⟩)⟩)⟩)⟩)⟩)⟩)⟩)⟩)⟩)⟩)⟩)⟩)⟩)⟩)⟩)⟩)⟩)⟩)
  zc := get_all (p := fun t cs => ∃ z n b, ti Tryd.prog t = some (some z, n, b) ∧ cellsOf (ofV z) = some cs) (List.forall_mem_cons.2 ⟨⟨_, _, _, ti_1, rfl⟩, (List.forall_mem_cons.2 ⟨⟨_, _, _, ti_2, rfl⟩, (List.forall_mem_cons.2 ⟨⟨_, _, _, ti_3, rfl⟩, (List.forall_mem_cons.2 ⟨⟨_, _, _, ti_4, rfl⟩, (List.forall_mem_cons.2 ⟨⟨_, _, _, ti_5, rfl⟩, (List.forall_mem_cons.2 ⟨⟨_, _, _, ti_9, rfl⟩, (List.forall_mem_cons.2 ⟨⟨_, _, _, ti_12, rfl⟩, (List.forall_mem_cons.2 ⟨⟨_, _, _, ti_20, rfl⟩, (List.forall_mem_cons.2 ⟨⟨_, _, _, ti_21, rfl⟩, (List.forall_mem_cons.2 ⟨⟨_, _, _, ti_22, rfl⟩, (List.forall_mem_cons.2 ⟨⟨_, _, _, ti_23, rfl⟩, (List.forall_mem_cons.2 ⟨⟨_, _, _, ti_25, rfl⟩, (List.forall_mem_cons.2 ⟨⟨_, _, _, ti_26, rfl⟩, (List.forall_mem_cons.2 ⟨⟨_, _, _, ti_33, rfl⟩, (List.forall_mem_cons.2 ⟨⟨_, _, _, ti_34, rfl⟩, (List.forall_mem_cons.2 ⟨⟨_, _, _, ti_35, rfl⟩, (List.forall_mem_cons.2 ⟨⟨_, _, _, ti_36, rfl⟩, (List.forall_mem_cons.2 ⟨⟨_, _, _, ti_38, rfl⟩, (List.forall_mem_cons.2 ⟨⟨_, _, _, ti_39, rfl⟩, (List.forall_mem_cons.2 ⟨⟨_, _, _, ti_40, rfl⟩, (List.forall_mem_cons.2 ⟨⟨_, _, _, ti_41, rfl⟩, (List.forall_mem_cons.2 ⟨⟨_, _, _, ti_42, rfl⟩, (List.forall_mem_cons.2 ⟨⟨_, _, _, ti_75, rfl⟩, (List.forall_mem_cons.2 ⟨⟨_, _, _, ti_76, rfl⟩, (List.forall_mem_cons.2 ⟨⟨_, _, _, ti_81, rfl⟩, (List.forall_mem_cons.2 ⟨⟨_, _, _, ti_84, rfl⟩, (List.forall_mem_cons.2 ⟨⟨_, _, _, ti_87, rfl⟩, (List.forall_mem_cons.2 ⟨⟨_, _, _, ti_88, rfl⟩, (List.forall_mem_cons.2 ⟨⟨_, _, _, ti_94, rfl⟩, (List.forall_mem_cons.2 ⟨⟨_, _, _, ti_100, rfl⟩, (List.forall_mem_cons.2 ⟨⟨_, _, _, ti_101, rfl⟩, (List.forall_mem_cons.2 ⟨⟨_, _, _, ti_107, rfl⟩, (List.forall_mem_cons.2 ⟨⟨_, _, _, ti_108, rfl⟩, (List.forall_mem_cons.2 ⟨⟨_, _, _, ti_113, rfl⟩, (List.forall_mem_cons.2 ⟨⟨_, _, _, ti_118, rfl⟩, (List.forall_mem_cons.2 ⟨⟨_, _, _, ti_121, rfl⟩, (List.forall_mem_cons.2 ⟨⟨_, _, _, ti_122, rfl⟩, (List.forall_mem_cons.2 ⟨⟨_, _, _, ti_123, rfl⟩, (List.forall_mem_cons.2 ⟨⟨_, _, _, ti_125, rfl⟩, (List.forall_mem_cons.2 ⟨⟨_, _, _, ti_126, rfl⟩, (List.forall_mem_cons.2 ⟨⟨_, _, _, ti_128, rfl⟩, (List.forall_mem_cons.2 ⟨⟨_, _, _, ti_129, rfl⟩, (List.forall_mem_cons.2 ⟨⟨_, _, _, ti_133, rfl⟩, (List.forall_mem_cons.2 ⟨⟨_, _, _, ti_134, rfl⟩, (List.forall_mem_cons.2 ⟨⟨_, _, _, ti_139, rfl⟩, (List.forall_mem_cons.2 ⟨⟨_, _, _, ti_140, rfl⟩, (List.forall_mem_cons.2 ⟨⟨_, _, _, ti_141, rfl⟩, (List.forall_mem_cons.2 ⟨⟨_, _, _, ti_142, rfl⟩, (List.forall_mem_cons.2 ⟨⟨_, _, _, ti_145, rfl⟩, (List.forall_mem_cons.2 ⟨⟨_, _, _, ti_146, rfl⟩, (List.forall_mem_cons.2 ⟨⟨_, _, _, ti_147, rfl⟩, (List.forall_mem_cons.2 ⟨⟨_, _, _, ti_148, rfl⟩, (List.forall_mem_cons.2 ⟨⟨_, _, _, ti_154, rfl⟩, (fun _ h => nomatch h)⟩)⟩)⟩)⟩)⟩)⟩)⟩)⟩)⟩)⟩)⟩)⟩)⟩)⟩)⟩)⟩)⟩)⟩)⟩)⟩)⟩)⟩)⟩)⟩)⟩)⟩)⟩)⟩)⟩)⟩)⟩)⟩)⟩)⟩)⟩)⟩)⟩)⟩)⟩)⟩)⟩)⟩)⟩)⟩)⟩)⟩)⟩)⟩)⟩)⟩)⟩)⟩)⟩)
  sl := fun t e n b cs => get_all (l := tab.sl) (p := fun t (x : TypeId × Nat × Nat × List AV) => ∃ z, sle Tryd.prog t = some (x.1, some z, x.2.1, x.2.2.1) ∧ cellsOf (ofV z) = some x.2.2.2 ∧ z.cells.size = x.2.1 ∧ 0 < x.2.1 ∧ x.2.2.2.length = x.2.1) (List.forall_mem_cons.2 ⟨⟨_, sle_22, rfl, rfl, Nat.succ_pos _, rfl⟩, (List.forall_mem_cons.2 ⟨⟨_, sle_25, rfl, rfl, Nat.succ_pos _, rfl⟩, (List.forall_mem_cons.2 ⟨⟨_, sle_38, rfl, rfl, Nat.succ_pos _, rfl⟩, (List.forall_mem_cons.2 ⟨⟨_, sle_40, rfl, rfl, Nat.succ_pos _, rfl⟩, (List.forall_mem_cons.2 ⟨⟨_, sle_94, rfl, rfl, Nat.succ_pos _, rfl⟩, (List.forall_mem_cons.2 ⟨⟨_, sle_118, rfl, rfl, Nat.succ_pos _, rfl⟩, (List.forall_mem_cons.2 ⟨⟨_, sle_139, rfl, rfl, Nat.succ_pos _, rfl⟩, (fun _ h => nomatch h)⟩)⟩)⟩)⟩)⟩)⟩)⟩) t (e, n, b, cs)
  ar := get_all (p := fun t x => arr Tryd.prog t = some x) (List.forall_mem_cons.2 ⟨arr_33, (List.forall_mem_cons.2 ⟨arr_36, (List.forall_mem_cons.2 ⟨arr_39, (List.forall_mem_cons.2 ⟨arr_108, (List.forall_mem_cons.2 ⟨arr_120, (List.forall_mem_cons.2 ⟨arr_123, (List.forall_mem_cons.2 ⟨arr_145, (fun _ h => nomatch h)⟩)⟩)⟩)⟩)⟩)⟩)⟩)
  ly := get_all (p := fun t x => lay Tryd.prog t = some x) (List.forall_mem_cons.2 ⟨lay_33, (List.forall_mem_cons.2 ⟨lay_34, (List.forall_mem_cons.2 ⟨lay_35, (List.forall_mem_cons.2 ⟨lay_36, (List.forall_mem_cons.2 ⟨lay_39, (List.forall_mem_cons.2 ⟨lay_41, (List.forall_mem_cons.2 ⟨lay_42, (List.forall_mem_cons.2 ⟨lay_75, (List.forall_mem_cons.2 ⟨lay_76, (List.forall_mem_cons.2 ⟨lay_100, (List.forall_mem_cons.2 ⟨lay_101, (List.forall_mem_cons.2 ⟨lay_108, (List.forall_mem_cons.2 ⟨lay_121, (List.forall_mem_cons.2 ⟨lay_122, (List.forall_mem_cons.2 ⟨lay_123, (List.forall_mem_cons.2 ⟨lay_125, (List.forall_mem_cons.2 ⟨lay_126, (List.forall_mem_cons.2 ⟨lay_133, (List.forall_mem_cons.2 ⟨lay_134, (List.forall_mem_cons.2 ⟨lay_145, (List.forall_mem_cons.2 ⟨lay_146, (List.forall_mem_cons.2 ⟨lay_147, (fun _ h => nomatch h)⟩)⟩)⟩)⟩)⟩)⟩)⟩)⟩)⟩)⟩)⟩)⟩)⟩)⟩)⟩)⟩)⟩)⟩)⟩)⟩)⟩)⟩)
  fd := fun t l h f x hx => by
    have := get_all (l := tab.fd) (p := fun t l => Ev.fdAll Tryd.prog t 0 l) (List.forall_mem_cons.2 ⟨⟨fld_34_0, fld_34_1, fld_34_2, trivial⟩, (List.forall_mem_cons.2 ⟨⟨fld_35_0, fld_35_1, fld_35_2, trivial⟩, (List.forall_mem_cons.2 ⟨⟨fld_41_0, fld_41_1, fld_41_2, trivial⟩, (List.forall_mem_cons.2 ⟨⟨fld_42_0, fld_42_1, fld_42_2, trivial⟩, (List.forall_mem_cons.2 ⟨⟨fld_75_0, fld_75_1, trivial⟩, (List.forall_mem_cons.2 ⟨⟨fld_76_0, fld_76_1, trivial⟩, (List.forall_mem_cons.2 ⟨⟨fld_100_0, trivial⟩, (List.forall_mem_cons.2 ⟨⟨fld_101_0, trivial⟩, (List.forall_mem_cons.2 ⟨⟨fld_121_0, fld_121_1, trivial⟩, (List.forall_mem_cons.2 ⟨⟨fld_122_0, fld_122_1, trivial⟩, (List.forall_mem_cons.2 ⟨⟨fld_125_0, fld_125_1, trivial⟩, (List.forall_mem_cons.2 ⟨⟨fld_126_0, fld_126_1, trivial⟩, (List.forall_mem_cons.2 ⟨⟨fld_133_0, fld_133_1, trivial⟩, (List.forall_mem_cons.2 ⟨⟨fld_134_0, fld_134_1, trivial⟩, (List.forall_mem_cons.2 ⟨⟨fld_146_0, fld_146_1, trivial⟩, (List.forall_mem_cons.2 ⟨⟨fld_147_0, fld_147_1, trivial⟩, (fun _ h => nomatch h)⟩)⟩)⟩)⟩)⟩)⟩)⟩)⟩)⟩)⟩)⟩)⟩)⟩)⟩)⟩)⟩) t l h
    have := Ev.fdAll_get this f x hx
    rwa [Nat.zero_add] at this
  eq := fun t h => by
    have h' := List.contains_iff_mem.1 h
    simp only [tab, List.mem_cons, List.not_mem_nil, or_false] at h'
    rcases h' with rfl | rfl
    · exact spanEq_of Tryd.underlying34 (by decide) (by decide) ⟨rfl, rfl, rfl⟩ Tryd.underlying3 Tryd.underlying9 (by kernel_rfl) (by kernel_rfl) (by kernel_rfl) (by kernel_rfl)
    · exact spanEq_of Tryd.underlying35 (by decide) (by decide) ⟨rfl, rfl, rfl⟩ Tryd.underlying3 Tryd.underlying9 (by kernel_rfl) (by kernel_rfl) (by kernel_rfl) (by kernel_rfl)
theorem mixed' (keep : List Nat) (N : Nat) : (Env.P ⟨env.P, env.G, keep, N⟩).follows .mixedOrders = true := by rfl
theorem tabOK' (keep : List Nat) (N : Nat) : TabOK (Env.P ⟨env.P, env.G, keep, N⟩) tab := tabOK
end Go.Proofs.YthdjbgbfboppcaaDoor.Abs

namespace Go.Proofs.YthdjbgbfboppcaaDoor.Abs
open Go
set_option maxRecDepth 100000
set_option linter.unusedSimpArgs false
set_option linter.unusedVariables false
attribute [local irreducible] Ev.Unr Ev.Go' Ev.bytK Ev.runK Ev.FinL Ev.brC Ev.Side Ev.Wp Ev.Again Ev.To Ev.Fin
def sizeF (n : Int) : Int := if n < 0 ∨ 1114111 < n ∨ (55296 ≤ n ∧ n ≤ 57343) then 0 else if n < 128 then 1 else if n < 2048 then 2 else if n < 65536 then 3 else 4
def cc117 : CC := (.seq (.reg 0 [⟨0, some 2, (.assign (.const (Value.int .i64 0))), none⟩]) (.seq (.seq (.reg 1 [⟨0, some 3, (.move (.tmp 0)), none⟩, ⟨1, some 4, (.binOp .lss 3 (.tmp 3) (.const (Value.int .i64 0)) 3), none⟩, ⟨2, some 5, (.move (.tmp 4)), none⟩, ⟨3, some 6, (.move (.tmp 0)), (some (5, false))⟩, ⟨4, some 7, (.binOp .gtr 3 (.tmp 6) (.const (Value.int .i64 1114111)) 3), (some (5, false))⟩, ⟨5, some 8, (.pick (.tmp 5) (.const (Value.bool true)) (.tmp 7)), none⟩, ⟨6, some 9, (.move (.tmp 8)), none⟩, ⟨7, some 10, (.move (.tmp 0)), (some (9, false))⟩, ⟨8, some 11, (.binOp .geq 3 (.tmp 10) (.const (Value.int .i64 55296)) 3), (some (9, false))⟩, ⟨9, some 12, (.move (.tmp 11)), (some (9, false))⟩, ⟨10, some 13, (.move (.tmp 0)), (some (12, true))⟩, ⟨11, some 14, (.binOp .leq 3 (.tmp 13) (.const (Value.int .i64 57343)) 3), (some (12, true))⟩, ⟨12, some 15, (.pick (.tmp 12) (.tmp 14) (.const (Value.bool false))), (some (9, false))⟩, ⟨13, some 16, (.pick (.tmp 9) (.const (Value.bool true)) (.tmp 15)), none⟩]) (.cond (.tmp 16) (.seq (.reg 2 [⟨0, some 2, (.assign (.const (Value.int .i64 0))), none⟩]) .ret) .skip)) (.seq (.seq (.reg 3 [⟨0, some 17, (.move (.tmp 0)), none⟩, ⟨1, some 18, (.binOp .lss 3 (.tmp 17) (.const (Value.int .i64 128)) 3), none⟩]) (.cond (.tmp 18) (.seq (.reg 4 [⟨0, some 2, (.assign (.const (Value.int .i64 1))), none⟩]) .ret) .skip)) (.seq (.seq (.reg 5 [⟨0, some 19, (.move (.tmp 0)), none⟩, ⟨1, some 20, (.binOp .lss 3 (.tmp 19) (.const (Value.int .i64 2048)) 3), none⟩]) (.cond (.tmp 20) (.seq (.reg 6 [⟨0, some 2, (.assign (.const (Value.int .i64 2))), none⟩]) .ret) .skip)) (.seq (.seq (.reg 7 [⟨0, some 21, (.move (.tmp 0)), none⟩, ⟨1, some 22, (.binOp .lss 3 (.tmp 21) (.const (Value.int .i64 65536)) 3), none⟩]) (.cond (.tmp 22) (.seq (.reg 8 [⟨0, some 2, (.assign (.const (Value.int .i64 3))), none⟩]) .ret) .skip)) (.seq (.reg 9 [⟨0, some 2, (.assign (.const (Value.int .i64 4))), none⟩]) .ret))))))
theorem comp117 : ∀ c, Tryd.f117.body = some c → comp c = cc117 := by
  intro c h
  have : c = Tryd.f117.body.get rfl := by rw [← Option.some_inj, ← h]; rfl
  rw [this]; rfl
theorem size_call (n : Int) : CallW env 117 [.v (.int .i64 n)] (fun r hs => r = .v (.int .i64 (sizeF n)) ∧ hs = []) := by
  refine Ev.func tabOK [0, 2, 16, 18, 20, 22] 0 Tryd.func117 rfl rfl (by simp [Tryd.ntmps117]) (by rfl) (comp117 _ rfl) (rs := [.tmp 2]) rfl ?_; rw [cc117]; show Ev.Wp _ _ _ _ ⟨[(0, _)], [], 0⟩
  repeat' (first | ((with_reducible first | refine Ev.sided ?_ ?_ | refine Ev.w_put ?_ | refine Ev.w_step ?_ | refine Ev.w_opt ?_); (conv => whnf)) | ((with_reducible refine Ev.chk_k ?_ ?_); rotate_left; (focus first | rfl | (simp only [Ev.nbeq, Bool.and_true, Bool.true_and, Bool.not_false]; done) | ((repeat' (first | exact Ev.nbeq _ | rfl | refine Bool.and_eq_true_iff.2 ⟨?_, ?_⟩)); done)); conv => whnf) | (with_reducible first | refine Ev.c_dec (fun _ => ?_) (fun _ => ?_) | refine Ev.c_not ?_ | refine Ev.c_t ?_ | refine Ev.c_f ?_ | refine Ev.c_br (fun _ => ?_) (fun _ => ?_)) | ((with_reducible refine Ev.br_not ?_); conv => whnf) | (with_reducible first | refine Ev.br_dec (fun _ => ?_) (fun _ => ?_) | refine Ev.br (fun _ => ?_) (fun _ => ?_) | refine Ev.eo_ret ?_ | refine Ev.eo_norm ?_ | refine Ev.t_norm ?_ | refine Ev.k_seq ?_) | ((with_reducible refine Ev.k_reg (hs := []) (tabOK' _ _) (fun Q hQ => ?_)); (simp only [Ev.runE_cons, Ev.runE_nil]); conv => whnf) | (with_reducible refine hQ _ ?_; clear hQ Q) | (with_reducible first | refine Ev.k_cond rfl ?_ | refine Ev.k_skip ?_ | refine Ev.k_block ?_ | refine Ev.k_exit ?_ | refine Ev.k_ret ?_ | refine Ev.t_ret ?_ | refine Ev.t_exit ?_ | refine Ev.b_norm ?_ | refine Ev.b_ret ?_ | refine Ev.b_here ?_ | refine Ev.b_off rfl ?_) | ((with_reducible first | refine Ev.e_ret (fun F hF => ?_) | refine Ev.e_norm (fun F hF => ?_) | refine Ev.eh_ret (fun F hF => ?_) | refine Ev.eh_norm (fun F hF => ?_) | refine Ev.go_k (fun c' => ?_) | refine Ev.byt_cut ?_ | refine Ev.byt_all ?_ | refine Ev.run_cut ?_ | refine Ev.run_all ?_); conv => whnf) | (with_reducible refine hF _ ?_; clear hF F) | (with_reducible refine Ev.u_step ?_) | (refine Ev.Side.of ?_; exact Nat.le_of_ble_eq_true rfl))
  all_goals (refine ⟨congrArg (fun z => AV.v (Value.int IntKind.i64 z)) ?_, rfl⟩; unfold sizeF; omega)
def leadP (b m n : Int) : Prop := (240 ≤ b ∧ b < 248 ∧ m = 3 ∧ n = b - 240) ∨ (224 ≤ b ∧ b < 240 ∧ m = 2 ∧ n = b - 224) ∨ (192 ≤ b ∧ b < 224 ∧ m = 1 ∧ n = b - 192) ∨ (b < 128 ∧ m = 0 ∧ n = b)
def accF (s : ByteArray) (n0 : Int) : Nat → Option Int
  | 0 => some n0
  | i + 1 => match accF s n0 i with
    | some n => if 128 ≤ Ev.byt s (i + 1) ∧ Ev.byt s (i + 1) ≤ 191 then some (n * 64 + Ev.byt s (i + 1) - 128) else none
    | none => none
def firstP (t : ByteArray) (n k : Int) : Prop :=
  (n = 0 ∧ k = 0 ∧ (t.size = 0 ∨ (128 ≤ Ev.byt t 0 ∧ (Ev.byt t 0 < 192 ∨ 248 ≤ Ev.byt t 0)) ∨ ∃ m n0, leadP (Ev.byt t 0) m n0 ∧ (t.size < m + 1 ∨ (∃ i : Nat, i ≤ m ∧ accF t n0 i = none) ∨ ∃ n', accF t n0 m.toNat = some n' ∧ sizeF n' ≠ m + 1))) ∨
  (0 < t.size ∧ ∃ m n0, leadP (Ev.byt t 0) m n0 ∧ m + 1 ≤ t.size ∧ accF t n0 m.toNat = some n ∧ sizeF n = m + 1 ∧ k = m + 1)
def cc118 : CC := (.seq (.reg 0 [⟨0, some 2, (.assign (.const (Value.int .i64 0))), none⟩, ⟨1, some 3, (.assign (.const (Value.int .i64 0))), none⟩]) (.seq (.seq (.reg 1 [⟨0, some 9, (.move (.tmp 0)), none⟩, ⟨1, some 10, (.call { callee := .builtin .len, args := #[.tmp 9], argTypes := #[9] }), none⟩, ⟨2, some 11, (.binOp .eql 3 (.tmp 10) (.const (Value.int .i64 0)) 3), none⟩]) (.cond (.tmp 11) (.seq (.reg 2 [⟨0, some 2, (.assign (.const (Value.int .i64 0))), none⟩, ⟨1, some 3, (.assign (.const (Value.int .i64 0))), none⟩]) .ret) .skip)) (.seq (.reg 3 [⟨0, some 12, (.move (.tmp 0)), none⟩, ⟨1, some 13, (.index 9 (.tmp 12) (.const (Value.int .i64 0))), none⟩, ⟨2, some 14, (.convert 5 3 (.tmp 13)), none⟩, ⟨3, some 4, (.assign (.tmp 14)), none⟩]) (.seq (.reg 4 [⟨0, some 5, (.assign (.const (Value.int .i64 0))), none⟩]) (.seq (.reg 5 [⟨0, some 15, (.move (.tmp 4)), none⟩, ⟨1, some 6, (.assign (.tmp 15)), none⟩]) (.seq (.seq (.reg 6 [⟨0, some 16, (.move (.tmp 4)), none⟩, ⟨1, some 17, (.binOp .geq 3 (.tmp 16) (.const (Value.int .i64 240)) 3), none⟩, ⟨2, some 18, (.move (.tmp 17)), none⟩, ⟨3, some 19, (.move (.tmp 4)), (some (18, true))⟩, ⟨4, some 20, (.binOp .lss 3 (.tmp 19) (.const (Value.int .i64 248)) 3), (some (18, true))⟩, ⟨5, some 21, (.pick (.tmp 18) (.tmp 20) (.const (Value.bool false))), none⟩]) (.cond (.tmp 21) (.seq (.reg 7 [⟨0, some 5, (.assign (.const (Value.int .i64 3))), none⟩]) (.reg 8 [⟨0, some 22, (.move (.tmp 4)), none⟩, ⟨1, some 23, (.binOp .sub 3 (.tmp 22) (.const (Value.int .i64 240)) 3), none⟩, ⟨2, some 6, (.assign (.tmp 23)), none⟩])) (.seq (.reg 9 [⟨0, some 24, (.move (.tmp 4)), none⟩, ⟨1, some 25, (.binOp .geq 3 (.tmp 24) (.const (Value.int .i64 224)) 3), none⟩, ⟨2, some 26, (.move (.tmp 25)), none⟩, ⟨3, some 27, (.move (.tmp 4)), (some (26, true))⟩, ⟨4, some 28, (.binOp .lss 3 (.tmp 27) (.const (Value.int .i64 240)) 3), (some (26, true))⟩, ⟨5, some 29, (.pick (.tmp 26) (.tmp 28) (.const (Value.bool false))), none⟩]) (.cond (.tmp 29) (.seq (.reg 10 [⟨0, some 5, (.assign (.const (Value.int .i64 2))), none⟩]) (.reg 11 [⟨0, some 30, (.move (.tmp 4)), none⟩, ⟨1, some 31, (.binOp .sub 3 (.tmp 30) (.const (Value.int .i64 224)) 3), none⟩, ⟨2, some 6, (.assign (.tmp 31)), none⟩])) (.seq (.reg 12 [⟨0, some 32, (.move (.tmp 4)), none⟩, ⟨1, some 33, (.binOp .geq 3 (.tmp 32) (.const (Value.int .i64 192)) 3), none⟩, ⟨2, some 34, (.move (.tmp 33)), none⟩, ⟨3, some 35, (.move (.tmp 4)), (some (34, true))⟩, ⟨4, some 36, (.binOp .lss 3 (.tmp 35) (.const (Value.int .i64 224)) 3), (some (34, true))⟩, ⟨5, some 37, (.pick (.tmp 34) (.tmp 36) (.const (Value.bool false))), none⟩]) (.cond (.tmp 37) (.seq (.reg 13 [⟨0, some 5, (.assign (.const (Value.int .i64 1))), none⟩]) (.reg 14 [⟨0, some 38, (.move (.tmp 4)), none⟩, ⟨1, some 39, (.binOp .sub 3 (.tmp 38) (.const (Value.int .i64 192)) 3), none⟩, ⟨2, some 6, (.assign (.tmp 39)), none⟩])) (.seq (.reg 15 [⟨0, some 40, (.move (.tmp 4)), none⟩, ⟨1, some 41, (.binOp .geq 3 (.tmp 40) (.const (Value.int .i64 128)) 3), none⟩]) (.cond (.tmp 41) (.seq (.reg 16 [⟨0, some 2, (.assign (.const (Value.int .i64 0))), none⟩, ⟨1, some 3, (.assign (.const (Value.int .i64 0))), none⟩]) .ret) .skip)))))))) (.seq (.seq (.reg 17 [⟨0, some 42, (.move (.tmp 0)), none⟩, ⟨1, some 43, (.call { callee := .builtin .len, args := #[.tmp 42], argTypes := #[9] }), none⟩, ⟨2, some 44, (.move (.tmp 5)), none⟩, ⟨3, some 45, (.binOp .add 3 (.tmp 44) (.const (Value.int .i64 1)) 3), none⟩, ⟨4, some 46, (.binOp .lss 3 (.tmp 43) (.tmp 45) 3), none⟩]) (.cond (.tmp 46) (.seq (.reg 18 [⟨0, some 2, (.assign (.const (Value.int .i64 0))), none⟩, ⟨1, some 3, (.assign (.const (Value.int .i64 0))), none⟩]) .ret) .skip)) (.seq (.seq (.reg 19 [⟨0, some 7, (.assign (.const (Value.int .i64 1))), none⟩]) (.block 0 (.loop (.seq (.seq (.reg 20 [⟨0, some 47, (.move (.tmp 7)), none⟩, ⟨1, some 48, (.move (.tmp 5)), none⟩, ⟨2, some 49, (.binOp .leq 3 (.tmp 47) (.tmp 48) 3), none⟩]) (.cond (.tmp 49) .skip (.exit 0))) (.seq (.block 1 (.seq (.reg 22 [⟨0, some 52, (.move (.tmp 0)), none⟩, ⟨1, some 53, (.move (.tmp 7)), none⟩, ⟨2, some 54, (.index 9 (.tmp 52) (.tmp 53)), none⟩, ⟨3, some 55, (.convert 5 3 (.tmp 54)), none⟩, ⟨4, some 8, (.assign (.tmp 55)), none⟩]) (.seq (.seq (.reg 23 [⟨0, some 56, (.move (.tmp 8)), none⟩, ⟨1, some 57, (.binOp .lss 3 (.tmp 56) (.const (Value.int .i64 128)) 3), none⟩, ⟨2, some 58, (.move (.tmp 57)), none⟩, ⟨3, some 59, (.move (.tmp 8)), (some (58, false))⟩, ⟨4, some 60, (.binOp .gtr 3 (.tmp 59) (.const (Value.int .i64 191)) 3), (some (58, false))⟩, ⟨5, some 61, (.pick (.tmp 58) (.const (Value.bool true)) (.tmp 60)), none⟩]) (.cond (.tmp 61) (.seq (.reg 24 [⟨0, some 2, (.assign (.const (Value.int .i64 0))), none⟩, ⟨1, some 3, (.assign (.const (Value.int .i64 0))), none⟩]) .ret) .skip)) (.reg 25 [⟨0, some 62, (.move (.tmp 6)), none⟩, ⟨1, some 63, (.binOp .mul 3 (.tmp 62) (.const (Value.int .i64 64)) 3), none⟩, ⟨2, some 64, (.move (.tmp 8)), none⟩, ⟨3, some 65, (.binOp .add 3 (.tmp 63) (.tmp 64) 3), none⟩, ⟨4, some 66, (.binOp .sub 3 (.tmp 65) (.const (Value.int .i64 128)) 3), none⟩, ⟨5, some 6, (.assign (.tmp 66)), none⟩])))) (.reg 21 [⟨0, some 50, (.move (.tmp 7)), none⟩, ⟨1, some 51, (.binOp .add 3 (.tmp 50) (.const (Value.int .i64 1)) 3), none⟩, ⟨2, some 7, (.assign (.tmp 51)), none⟩])))))) (.seq (.seq (.reg 26 [⟨0, some 67, (.move (.tmp 6)), none⟩, ⟨1, some 68, (.call { callee := .value (.func 117), args := #[.tmp 67], argTypes := #[3] }), none⟩, ⟨2, some 69, (.move (.tmp 5)), none⟩, ⟨3, some 70, (.binOp .add 3 (.tmp 69) (.const (Value.int .i64 1)) 3), none⟩, ⟨4, some 71, (.binOp .neq 3 (.tmp 68) (.tmp 70) 3), none⟩]) (.cond (.tmp 71) (.seq (.reg 27 [⟨0, some 2, (.assign (.const (Value.int .i64 0))), none⟩, ⟨1, some 3, (.assign (.const (Value.int .i64 0))), none⟩]) .ret) .skip)) (.seq (.reg 28 [⟨0, some 72, (.move (.tmp 6)), none⟩, ⟨1, some 73, (.move (.tmp 5)), none⟩, ⟨2, some 74, (.binOp .add 3 (.tmp 73) (.const (Value.int .i64 1)) 3), none⟩, ⟨3, some 2, (.assign (.tmp 72)), none⟩, ⟨4, some 3, (.assign (.tmp 74)), none⟩]) .ret))))))))))
theorem comp118 : ∀ c, Tryd.f118.body = some c → comp c = cc118 := by
  intro c h
  have : c = Tryd.f118.body.get rfl := by rw [← Option.some_inj, ← h]; rfl
  rw [this]; rfl
theorem first_call (t : ByteArray) : CallW env 118 [.v (.string t)] (fun r hs => ∃ n k, r = .tup [.v (.int .i64 n), .v (.int .i64 k)] ∧ firstP t n k ∧ hs = []) := by
  have hb := Ev.byt_lt t 0
  refine Ev.func tabOK [0, 2, 3, 4, 5, 6, 7, 8, 11, 21, 29, 37, 41, 46, 49, 61, 71] 0 Tryd.func118 rfl rfl (by simp [Tryd.ntmps118]) (by rfl) (comp118 _ rfl) (rs := [.tmp 2, .tmp 3]) rfl ?_; rw [cc118]; show Ev.Wp _ _ _ _ ⟨[(0, _)], [], 0⟩
  repeat' (first | (with_reducible refine Ev.join (a := .seq (.reg 6 _) _) (fun s => ∃ m n, s = ⟨[(0, .v (.string t)), (2, .v (.int .i64 0)), (3, .v (.int .i64 0)), (5, .v (.int .i64 m)), (6, .v (.int .i64 n))], [], 0⟩ ∧ leadP (Ev.byt t 0) m n) ?_ ?_) | ((with_reducible first | refine Ev.sided ?_ ?_ | refine Ev.w_put ?_ | refine Ev.w_step ?_ | refine Ev.w_opt ?_); (conv => whnf)) | ((with_reducible refine Ev.chk_k ?_ ?_); rotate_left; (focus first | rfl | (simp only [Ev.nbeq, Bool.and_true, Bool.true_and, Bool.not_false]; done) | ((repeat' (first | exact Ev.nbeq _ | rfl | refine Bool.and_eq_true_iff.2 ⟨?_, ?_⟩)); done)); conv => whnf) | (with_reducible first | refine Ev.c_dec (fun _ => ?_) (fun _ => ?_) | refine Ev.c_not ?_ | refine Ev.c_t ?_ | refine Ev.c_f ?_ | refine Ev.c_br (fun _ => ?_) (fun _ => ?_)) | ((with_reducible refine Ev.br_not ?_); conv => whnf) | (with_reducible first | refine Ev.br_dec (fun _ => ?_) (fun _ => ?_) | refine Ev.br (fun _ => ?_) (fun _ => ?_) | refine Ev.eo_ret ?_ | refine Ev.eo_norm ?_ | refine Ev.t_norm ?_ | refine Ev.k_seq ?_) | ((with_reducible refine Ev.k_reg (hs := []) (tabOK' _ _) (fun Q hQ => ?_)); (simp only [Ev.runE_cons, Ev.runE_nil]); conv => whnf) | (with_reducible refine hQ _ ?_; clear hQ Q) | (with_reducible first | refine Ev.k_cond rfl ?_ | refine Ev.k_skip ?_ | refine Ev.k_block ?_ | refine Ev.k_exit ?_ | refine Ev.k_ret ?_ | refine Ev.t_ret ?_ | refine Ev.t_exit ?_ | refine Ev.b_norm ?_ | refine Ev.b_ret ?_ | refine Ev.b_here ?_ | refine Ev.b_off rfl ?_) | ((with_reducible first | refine Ev.e_ret (fun F hF => ?_) | refine Ev.e_norm (fun F hF => ?_) | refine Ev.eh_ret (fun F hF => ?_) | refine Ev.eh_norm (fun F hF => ?_) | refine Ev.go_k (fun c' => ?_) | refine Ev.byt_cut ?_ | refine Ev.byt_all ?_ | refine Ev.run_cut ?_ | refine Ev.run_all ?_); conv => whnf) | (with_reducible refine hF _ ?_; clear hF F) | (with_reducible refine Ev.u_step ?_) | (refine Ev.Side.of ?_; exact Nat.le_of_ble_eq_true rfl))
  all_goals first
    | (refine Ev.to ⟨[(0, _), (2, _), (3, _), (5, _), (6, _)], [], 0⟩ ⟨rfl, rfl, rfl, rfl, rfl, trivial⟩ trivial (Nat.le_refl _) ⟨_, _, rfl, ?_⟩; (try simp only [Ev.wrap64, Int.reduceToNat] at *); unfold leadP; omega)
    | (refine ⟨_, _, rfl, Or.inl ⟨rfl, rfl, ?_⟩, rfl⟩; (try simp only [Ev.wrap64, Int.reduceToNat] at *); first | exact Or.inl (by omega) | exact Or.inr (Or.inl (by omega)))
    | skip
  rintro s ⟨m, n0, rfl, hl⟩
  have hm : 0 ≤ m ∧ m ≤ 3 ∧ 0 ≤ n0 ∧ n0 < 256 := by unfold leadP at hl; omega
  repeat' (first | ((with_reducible first | refine Ev.sided ?_ ?_ | refine Ev.w_put ?_ | refine Ev.w_step ?_ | refine Ev.w_opt ?_); (conv => whnf)) | ((with_reducible refine Ev.chk_k ?_ ?_); rotate_left; (focus first | rfl | (simp only [Ev.nbeq, Bool.and_true, Bool.true_and, Bool.not_false]; done) | ((repeat' (first | exact Ev.nbeq _ | rfl | refine Bool.and_eq_true_iff.2 ⟨?_, ?_⟩)); done)); conv => whnf) | (with_reducible first | refine Ev.c_dec (fun _ => ?_) (fun _ => ?_) | refine Ev.c_not ?_ | refine Ev.c_t ?_ | refine Ev.c_f ?_ | refine Ev.c_br (fun _ => ?_) (fun _ => ?_)) | ((with_reducible refine Ev.br_not ?_); conv => whnf) | (with_reducible first | refine Ev.br_dec (fun _ => ?_) (fun _ => ?_) | refine Ev.br (fun _ => ?_) (fun _ => ?_) | refine Ev.eo_ret ?_ | refine Ev.eo_norm ?_ | refine Ev.t_norm ?_ | refine Ev.k_seq ?_) | ((with_reducible refine Ev.k_reg (hs := []) (tabOK' _ _) (fun Q hQ => ?_)); (simp only [Ev.runE_cons, Ev.runE_nil]); conv => whnf) | (with_reducible refine hQ _ ?_; clear hQ Q) | (with_reducible first | refine Ev.k_cond rfl ?_ | refine Ev.k_skip ?_ | refine Ev.k_block ?_ | refine Ev.k_exit ?_ | refine Ev.k_ret ?_ | refine Ev.t_ret ?_ | refine Ev.t_exit ?_ | refine Ev.b_norm ?_ | refine Ev.b_ret ?_ | refine Ev.b_here ?_ | refine Ev.b_off rfl ?_) | ((with_reducible first | refine Ev.e_ret (fun F hF => ?_) | refine Ev.e_norm (fun F hF => ?_) | refine Ev.eh_ret (fun F hF => ?_) | refine Ev.eh_norm (fun F hF => ?_) | refine Ev.go_k (fun c' => ?_) | refine Ev.byt_cut ?_ | refine Ev.byt_all ?_ | refine Ev.run_cut ?_ | refine Ev.run_all ?_); conv => whnf) | (with_reducible refine hF _ ?_; clear hF F) | (with_reducible refine Ev.u_step ?_) | (refine Ev.Side.of ?_; exact Nat.le_of_ble_eq_true rfl))
  · refine ⟨_, _, rfl, Or.inl ⟨rfl, rfl, Or.inr (Or.inr ⟨m, n0, hl, Or.inl ?_⟩)⟩, rfl⟩
    simp only [Ev.wrap64] at *; omega
  rename_i hsz
  simp only [Ev.wrap64] at hsz
  refine Ev.loop (fun k s => ∃ (i : Nat) (n : Int), s = ⟨[(0, .v (.string t)), (2, .v (.int .i64 0)), (3, .v (.int .i64 0)), (5, .v (.int .i64 m)), (6, .v (.int .i64 n)), (7, .v (.int .i64 i))], [], 0⟩ ∧ (k : Int) + i = m + 1 ∧ 1 ≤ i ∧ accF t n0 (i - 1) = some n ∧ 0 ≤ n ∧ (i = 1 → n < 256) ∧ (i = 2 → n < 20000) ∧ (i = 3 → n < 2000000) ∧ (i = 4 → n < 200000000)) ?_ ?_
  · refine Ev.to ⟨[(0, _), (2, _), (3, _), (5, _), (6, _), (7, _)], [], 0⟩ ⟨rfl, rfl, rfl, rfl, rfl, rfl, trivial⟩ trivial (Nat.le_refl _) ⟨m.toNat, 1, n0, rfl, ?_⟩
    exact ⟨by omega, by omega, rfl, by omega, by omega, by omega, by omega, by omega⟩
  rintro k s1 ⟨i, n, rfl, hk, hi, ha, hn, h1, h2, h3, h4⟩
  repeat' (first | ((with_reducible first | refine Ev.sided ?_ ?_ | refine Ev.w_put ?_ | refine Ev.w_step ?_ | refine Ev.w_opt ?_); (conv => whnf)) | ((with_reducible refine Ev.chk_k ?_ ?_); rotate_left; (focus first | rfl | (simp only [Ev.nbeq, Bool.and_true, Bool.true_and, Bool.not_false]; done) | ((repeat' (first | exact Ev.nbeq _ | rfl | refine Bool.and_eq_true_iff.2 ⟨?_, ?_⟩)); done)); conv => whnf) | (with_reducible first | refine Ev.c_dec (fun _ => ?_) (fun _ => ?_) | refine Ev.c_not ?_ | refine Ev.c_t ?_ | refine Ev.c_f ?_ | refine Ev.c_br (fun _ => ?_) (fun _ => ?_)) | ((with_reducible refine Ev.br_not ?_); conv => whnf) | (with_reducible first | refine Ev.br_dec (fun _ => ?_) (fun _ => ?_) | refine Ev.br (fun _ => ?_) (fun _ => ?_) | refine Ev.eo_ret ?_ | refine Ev.eo_norm ?_ | refine Ev.t_norm ?_ | refine Ev.k_seq ?_) | ((with_reducible refine Ev.k_reg (hs := []) (tabOK' _ _) (fun Q hQ => ?_)); (simp only [Ev.runE_cons, Ev.runE_nil]); conv => whnf) | (with_reducible refine hQ _ ?_; clear hQ Q) | (with_reducible first | refine Ev.k_cond rfl ?_ | refine Ev.k_skip ?_ | refine Ev.k_block ?_ | refine Ev.k_exit ?_ | refine Ev.k_ret ?_ | refine Ev.t_ret ?_ | refine Ev.t_exit ?_ | refine Ev.b_norm ?_ | refine Ev.b_ret ?_ | refine Ev.b_here ?_ | refine Ev.b_off rfl ?_) | ((with_reducible first | refine Ev.e_ret (fun F hF => ?_) | refine Ev.e_norm (fun F hF => ?_) | refine Ev.eh_ret (fun F hF => ?_) | refine Ev.eh_norm (fun F hF => ?_) | refine Ev.go_k (fun c' => ?_) | refine Ev.byt_cut ?_ | refine Ev.byt_all ?_ | refine Ev.run_cut ?_ | refine Ev.run_all ?_); conv => whnf) | (with_reducible refine hF _ ?_; clear hF F) | (with_reducible refine Ev.u_step ?_) | ((refine Ev.call_det (size_call _) rfl rfl ?_); conv => whnf) | (refine Ev.Side.of ?_; exact Nat.le_of_ble_eq_true rfl))
  · rename_i _ hc
    have hbi := Ev.byt_lt t i
    simp only [Ev.wrap64, Int.toNat_natCast] at hc
    refine ⟨_, _, rfl, Or.inl ⟨rfl, rfl, Or.inr (Or.inr ⟨m, n0, hl, Or.inr (Or.inl ⟨i, by omega, ?_⟩)⟩)⟩, rfl⟩
    obtain ⟨j, rfl⟩ : ∃ j, i = j + 1 := ⟨i - 1, by omega⟩
    simp only [Nat.add_sub_cancel] at ha
    simp only [accF, ha]; rw [if_neg (by omega)]
  · rename_i _ _ hc
    have hbi := Ev.byt_lt t i
    simp only [Ev.wrap64, Int.toNat_natCast] at hc
    refine ⟨_, _, rfl, Or.inl ⟨rfl, rfl, Or.inr (Or.inr ⟨m, n0, hl, Or.inr (Or.inl ⟨i, by omega, ?_⟩)⟩)⟩, rfl⟩
    obtain ⟨j, rfl⟩ : ∃ j, i = j + 1 := ⟨i - 1, by omega⟩
    simp only [Nat.add_sub_cancel] at ha
    simp only [accF, ha]; rw [if_neg (by omega)]
  · rename_i hm1 hc1 hc2
    have hbi := Ev.byt_lt t i
    simp only [Ev.wrap64, Int.toNat_natCast] at hc1 hc2
    have hi4 : i = 1 ∨ i = 2 ∨ i = 3 := by omega
    refine Ev.again (k - 1) ⟨[(0, _), (2, _), (3, _), (5, _), (6, .v (.int .i64 (n * 64 + Ev.byt t i - 128))), (7, .v (.int .i64 ((i + 1 : Nat) : Int)))], [], 0⟩ (by omega)
      ⟨rfl, rfl, rfl, rfl, Ev.slot_int rfl (by simp only [Ev.wrap64, Int.toNat_natCast]; omega), Ev.slot_int rfl (by simp only [Ev.wrap64]; omega), trivial⟩ trivial (Nat.le_refl _) ⟨i + 1, _, rfl, by omega, by omega, ?_, by omega, by omega, by omega, by omega, by omega⟩
    obtain ⟨j, rfl⟩ : ∃ j, i = j + 1 := ⟨i - 1, by omega⟩
    simp only [Nat.add_sub_cancel] at ha
    simp only [Nat.add_sub_cancel, accF, ha]; rw [if_pos (by omega)]
  · refine Ev.Side.of ?_; omega
  · rename_i hm1 hs
    refine ⟨_, _, rfl, Or.inr ⟨by omega, m, n0, hl, by omega, ?_, ?_, ?_⟩, rfl⟩
    · rw [← ha, show i - 1 = m.toNat by omega]
    · simp only [Ev.wrap64] at hs; omega
    · simp only [Ev.wrap64]; omega
  · rename_i hm1 hs
    refine ⟨_, _, rfl, Or.inl ⟨rfl, rfl, Or.inr (Or.inr ⟨m, n0, hl, Or.inr (Or.inr ⟨n, ?_, ?_⟩)⟩)⟩, rfl⟩
    · rw [← ha, show i - 1 = m.toNat by omega]
    · simp only [Ev.wrap64] at hs; omega
  · refine Ev.Side.of ?_; omega
end Go.Proofs.YthdjbgbfboppcaaDoor.Abs

namespace Go.Proofs.YthdjbgbfboppcaaDoor.Abs
open Go
set_option linter.unusedSimpArgs false
set_option linter.unusedVariables false
def firstF (t : ByteArray) : Int × Int := if t.size = 0 ∨ Utf8.decode t 0 = (65533, 1) then (0, 0) else (((Utf8.decode t 0).1 : Int), ((Utf8.decode t 0).2 : Int))
theorem byt_get {t : ByteArray} {i : Nat} (h : i < t.size) : Ev.byt t i = ((t.get! i).toNat : Int) := by
  rw [Ev.byt_eq h]
  have : t.get! i = t[i]'h := by
    show t.data[i]! = t.data[i]
    rw [getElem!_pos t.data i h]
  rw [this]
theorem decN (t : ByteArray) : Utf8.decode t 0 =
    if (t.get! 0).toNat < 128 then ((t.get! 0).toNat, 1)
    else if (t.get! 0).toNat / 32 = 6 ∧ 1 < t.size ∧ (t.get! 1).toNat / 64 = 2 then
      (if (t.get! 0).toNat % 32 * 64 + (t.get! 1).toNat % 64 ≥ 128 then ((t.get! 0).toNat % 32 * 64 + (t.get! 1).toNat % 64, 2) else (65533, 1))
    else if (t.get! 0).toNat / 16 = 14 ∧ (1 < t.size ∧ (t.get! 1).toNat / 64 = 2) ∧ 2 < t.size ∧ (t.get! 2).toNat / 64 = 2 then
      (if (t.get! 0).toNat % 16 * 4096 + (t.get! 1).toNat % 64 * 64 + (t.get! 2).toNat % 64 ≥ 2048 ∧ Utf8.valid ((t.get! 0).toNat % 16 * 4096 + (t.get! 1).toNat % 64 * 64 + (t.get! 2).toNat % 64 : Nat) = true then ((t.get! 0).toNat % 16 * 4096 + (t.get! 1).toNat % 64 * 64 + (t.get! 2).toNat % 64, 3) else (65533, 1))
    else if (t.get! 0).toNat / 8 = 30 ∧ (1 < t.size ∧ (t.get! 1).toNat / 64 = 2) ∧ (2 < t.size ∧ (t.get! 2).toNat / 64 = 2) ∧ 3 < t.size ∧ (t.get! 3).toNat / 64 = 2 then
      (if (t.get! 0).toNat % 8 * 262144 + (t.get! 1).toNat % 64 * 4096 + (t.get! 2).toNat % 64 * 64 + (t.get! 3).toNat % 64 ≥ 65536 ∧ Utf8.valid ((t.get! 0).toNat % 8 * 262144 + (t.get! 1).toNat % 64 * 4096 + (t.get! 2).toNat % 64 * 64 + (t.get! 3).toNat % 64 : Nat) = true then ((t.get! 0).toNat % 8 * 262144 + (t.get! 1).toNat % 64 * 4096 + (t.get! 2).toNat % 64 * 64 + (t.get! 3).toNat % 64, 4) else (65533, 1))
    else (65533, 1) := by
  simp only [Utf8.decode, Utf8.runeError, Nat.zero_add, Bool.and_eq_true, decide_eq_true_eq, beq_iff_eq, and_assoc]
theorem valid_iff (n : Nat) : Utf8.valid (n : Int) = true ↔ (n < 55296 ∨ (57344 ≤ n ∧ n ≤ 1114111)) := by
  simp only [Utf8.valid, Bool.or_eq_true, Bool.and_eq_true, decide_eq_true_eq]; omega
theorem acc_ok {t : ByteArray} {n0 n : Int} {i : Nat} (h : accF t n0 i = some n) (h1 : 128 ≤ Ev.byt t (i + 1)) (h2 : Ev.byt t (i + 1) ≤ 191) : accF t n0 (i + 1) = some (n * 64 + Ev.byt t (i + 1) - 128) := by
  simp only [accF, h]; rw [if_pos ⟨h1, h2⟩]
theorem acc_inv {t : ByteArray} {n0 n : Int} {i : Nat} (h : accF t n0 (i + 1) = some n) : ∃ n', accF t n0 i = some n' ∧ 128 ≤ Ev.byt t (i + 1) ∧ Ev.byt t (i + 1) ≤ 191 ∧ n = n' * 64 + Ev.byt t (i + 1) - 128 := by
  simp only [accF] at h
  split at h
  · rename_i n' hn'
    split at h
    · rename_i hc; exact ⟨n', hn', hc.1, hc.2, (Option.some.inj h).symm⟩
    · cases h
  · cases h
theorem firstP_eq {t : ByteArray} {n k : Int} (h : firstP t n k) : (n, k) = firstF t := by
  unfold firstF
  by_cases hz : t.size = 0
  · rw [if_pos (Or.inl hz)]
    rcases h with ⟨rfl, rfl, _⟩ | ⟨h, _⟩
    · rfl
    · omega
  have e0 := byt_get (t := t) (i := 0) (by omega)
  have l0 := (t.get! 0).toNat_lt
  have l1 := (t.get! 1).toNat_lt
  have l2 := (t.get! 2).toNat_lt
  have l3 := (t.get! 3).toNat_lt
  have e1 : 1 < t.size → Ev.byt t 1 = ((t.get! 1).toNat : Int) := fun h => byt_get h
  have e2 : 2 < t.size → Ev.byt t 2 = ((t.get! 2).toNat : Int) := fun h => byt_get h
  have e3 : 3 < t.size → Ev.byt t 3 = ((t.get! 3).toNat : Int) := fun h => byt_get h
  have D := decN t
  generalize (t.get! 0).toNat = b0 at *
  generalize (t.get! 1).toNat = b1 at *
  generalize (t.get! 2).toNat = b2 at *
  generalize (t.get! 3).toNat = b3 at *
  simp only [valid_iff] at D
  rcases h with ⟨rfl, rfl, h⟩ | ⟨hs, m, n0, hl, hsz, ha, hn, rfl⟩
  · have goal : Utf8.decode t 0 = (65533, 1) := by
      rw [D]
      rcases h with h | h | ⟨m, n0, hl, h⟩
      · exact absurd h hz
      · rw [if_neg (by omega), if_neg (by omega), if_neg (by omega), if_neg (by omega)]
      · rcases hl with ⟨a1, a2, rfl, rfl⟩ | ⟨a1, a2, rfl, rfl⟩ | ⟨a1, a2, rfl, rfl⟩ | ⟨a1, rfl, rfl⟩
        · rw [if_neg (by omega), if_neg (by omega), if_neg (by omega)]
          by_cases hc : b0 / 8 = 30 ∧ (1 < t.size ∧ b1 / 64 = 2) ∧ (2 < t.size ∧ b2 / 64 = 2) ∧ 3 < t.size ∧ b3 / 64 = 2
          · rw [if_pos hc, if_neg]
            obtain ⟨c0, ⟨c1, c1'⟩, ⟨c2, c2'⟩, c3, c3'⟩ := hc
            have q1 : accF t (Ev.byt t 0 - 240) 1 = some ((Ev.byt t 0 - 240) * 64 + Ev.byt t 1 - 128) := acc_ok (i := 0) rfl (by have := e1 c1; show 128 ≤ Ev.byt t 1; omega) (by have := e1 c1; show Ev.byt t 1 ≤ 191; omega)
            have q2 : accF t (Ev.byt t 0 - 240) 2 = some (((Ev.byt t 0 - 240) * 64 + Ev.byt t 1 - 128) * 64 + Ev.byt t 2 - 128) := acc_ok (i := 1) q1 (by have := e2 c2; show 128 ≤ Ev.byt t 2; omega) (by have := e2 c2; show Ev.byt t 2 ≤ 191; omega)
            have q3 : accF t (Ev.byt t 0 - 240) 3 = some ((((Ev.byt t 0 - 240) * 64 + Ev.byt t 1 - 128) * 64 + Ev.byt t 2 - 128) * 64 + Ev.byt t 3 - 128) := acc_ok (i := 2) q2 (by have := e3 c3; show 128 ≤ Ev.byt t 3; omega) (by have := e3 c3; show Ev.byt t 3 ≤ 191; omega)
            have := e1 c1; have := e2 c2; have := e3 c3
            rcases h with h | ⟨i, hi, h⟩ | ⟨n', h, h'⟩
            · omega
            · have : i = 0 ∨ i = 1 ∨ i = 2 ∨ i = 3 := by omega
              rcases this with rfl | rfl | rfl | rfl
              · simp [accF] at h
              · rw [q1] at h; cases h
              · rw [q2] at h; cases h
              · rw [q3] at h; cases h
            · rw [show (3 : Int).toNat = 3 from rfl, q3] at h
              obtain rfl := Option.some.inj h
              unfold sizeF at h'
              split at h' <;> omega
          · rw [if_neg hc]
        · rw [if_neg (by omega), if_neg (by omega)]
          by_cases hc : b0 / 16 = 14 ∧ (1 < t.size ∧ b1 / 64 = 2) ∧ 2 < t.size ∧ b2 / 64 = 2
          · rw [if_pos hc, if_neg]
            obtain ⟨c0, ⟨c1, c1'⟩, c2, c2'⟩ := hc
            have q1 : accF t (Ev.byt t 0 - 224) 1 = some ((Ev.byt t 0 - 224) * 64 + Ev.byt t 1 - 128) := acc_ok (i := 0) rfl (by have := e1 c1; show 128 ≤ Ev.byt t 1; omega) (by have := e1 c1; show Ev.byt t 1 ≤ 191; omega)
            have q2 : accF t (Ev.byt t 0 - 224) 2 = some (((Ev.byt t 0 - 224) * 64 + Ev.byt t 1 - 128) * 64 + Ev.byt t 2 - 128) := acc_ok (i := 1) q1 (by have := e2 c2; show 128 ≤ Ev.byt t 2; omega) (by have := e2 c2; show Ev.byt t 2 ≤ 191; omega)
            have := e1 c1; have := e2 c2
            rcases h with h | ⟨i, hi, h⟩ | ⟨n', h, h'⟩
            · omega
            · have : i = 0 ∨ i = 1 ∨ i = 2 := by omega
              rcases this with rfl | rfl | rfl
              · simp [accF] at h
              · rw [q1] at h; cases h
              · rw [q2] at h; cases h
            · rw [show (2 : Int).toNat = 2 from rfl, q2] at h
              obtain rfl := Option.some.inj h
              unfold sizeF at h'
              split at h' <;> omega
          · rw [if_neg hc, if_neg (by omega)]
        · rw [if_neg (by omega)]
          by_cases hc : b0 / 32 = 6 ∧ 1 < t.size ∧ b1 / 64 = 2
          · rw [if_pos hc, if_neg]
            obtain ⟨c0, c1, c1'⟩ := hc
            have q1 : accF t (Ev.byt t 0 - 192) 1 = some ((Ev.byt t 0 - 192) * 64 + Ev.byt t 1 - 128) := acc_ok (i := 0) rfl (by have := e1 c1; show 128 ≤ Ev.byt t 1; omega) (by have := e1 c1; show Ev.byt t 1 ≤ 191; omega)
            have := e1 c1
            rcases h with h | ⟨i, hi, h⟩ | ⟨n', h, h'⟩
            · omega
            · have : i = 0 ∨ i = 1 := by omega
              rcases this with rfl | rfl
              · simp [accF] at h
              · rw [q1] at h; cases h
            · rw [show (1 : Int).toNat = 1 from rfl, q1] at h
              obtain rfl := Option.some.inj h
              unfold sizeF at h'
              split at h' <;> omega
          · rw [if_neg hc, if_neg (by omega), if_neg (by omega)]
        · exfalso
          rcases h with h | ⟨i, hi, h⟩ | ⟨n', h, h'⟩
          · omega
          · have : i = 0 := by omega
            subst this; simp [accF] at h
          · simp only [Int.toNat_zero, accF, Option.some.injEq] at h
            unfold sizeF at h'
            split at h' <;> omega
    rw [if_pos (Or.inr goal)]
  · have goal : Utf8.decode t 0 = (n.toNat, (m + 1).toNat) ∧ 0 ≤ n ∧ 0 ≤ m ∧ ¬ (n = 65533 ∧ m = 0) := by
      rw [D]
      rcases hl with ⟨a1, a2, rfl, rfl⟩ | ⟨a1, a2, rfl, rfl⟩ | ⟨a1, a2, rfl, rfl⟩ | ⟨a1, rfl, rfl⟩
      · have := e1 (by omega); have := e2 (by omega); have := e3 (by omega)
        obtain ⟨n1, ha2, c1, c1', rfl⟩ := acc_inv (i := 2) ha
        obtain ⟨n2, ha1, c2, c2', rfl⟩ := acc_inv (i := 1) ha2
        obtain ⟨n3, ha0, c3, c3', rfl⟩ := acc_inv (i := 0) ha1
        simp only [accF, Option.some.injEq] at ha0
        subst ha0
        simp only [Nat.zero_add, Nat.reduceAdd] at *
        unfold sizeF at hn
        split at hn
        · omega
        rw [if_neg (by omega), if_neg (by omega), if_neg (by omega), if_pos (by omega), if_pos (by omega)]
        refine ⟨?_, by omega, by omega, by omega⟩
        simp only [Prod.mk.injEq]; omega
      · have := e1 (by omega); have := e2 (by omega)
        obtain ⟨n2, ha1, c2, c2', rfl⟩ := acc_inv (i := 1) ha
        obtain ⟨n3, ha0, c3, c3', rfl⟩ := acc_inv (i := 0) ha1
        simp only [accF, Option.some.injEq] at ha0
        subst ha0
        simp only [Nat.zero_add, Nat.reduceAdd] at *
        unfold sizeF at hn
        split at hn
        · omega
        rw [if_neg (by omega), if_neg (by omega), if_pos (by omega), if_pos (by omega)]
        refine ⟨?_, by omega, by omega, by omega⟩
        simp only [Prod.mk.injEq]; omega
      · have := e1 (by omega)
        obtain ⟨n3, ha0, c3, c3', rfl⟩ := acc_inv (i := 0) ha
        simp only [accF, Option.some.injEq] at ha0
        subst ha0
        simp only [Nat.zero_add, Nat.reduceAdd] at *
        unfold sizeF at hn
        split at hn
        · omega
        rw [if_neg (by omega), if_pos (by omega), if_pos (by omega)]
        refine ⟨?_, by omega, by omega, by omega⟩
        simp only [Prod.mk.injEq]; omega
      · simp only [Int.toNat_zero, accF, Option.some.injEq] at ha
        subst ha
        rw [if_pos (by omega)]
        refine ⟨?_, by omega, by omega, by omega⟩
        simp only [Prod.mk.injEq]; omega
    rw [if_neg]
    · rw [goal.1]; simp only [Prod.mk.injEq]; omega
    · rw [goal.1]; simp only [Prod.mk.injEq]; omega
end Go.Proofs.YthdjbgbfboppcaaDoor.Abs

namespace Go.Proofs.YthdjbgbfboppcaaDoor.Abs
open Go
set_option maxRecDepth 100000
set_option linter.unusedSimpArgs false
set_option linter.unusedVariables false
attribute [local irreducible] Ev.Unr Ev.Go' Ev.bytK Ev.runK Ev.FinL Ev.brC Ev.Side Ev.Wp Ev.Again Ev.To Ev.Fin
open Go.Lib
def ints (l : List Int) : List (List AV) := l.map fun n => [.v (.int .i64 n)]
def posGo : Nat → List UInt8 → Int → List Int
  | 0, _, _ => []
  | n + 1, l, at' => if l = [] then [] else (at' + (decodeL l).2) :: posGo n (l.drop (decodeL l).2) (at' + (decodeL l).2)
def posD (l : List UInt8) (at' : Int) : List Int := posGo l.length l at'
theorem posGo_fuel : ∀ (n m : Nat) (l : List UInt8) (a : Int), l.length ≤ n → l.length ≤ m → posGo n l a = posGo m l a
  | 0, 0, l, a, _, _ => rfl
  | 0, m + 1, l, a, h, _ => by
    have : l = [] := List.length_eq_zero_iff.1 (by omega)
    subst this; simp [posGo]
  | n + 1, 0, l, a, _, h => by
    have : l = [] := List.length_eq_zero_iff.1 (by omega)
    subst this; simp [posGo]
  | n + 1, m + 1, l, a, h1, h2 => by
    simp only [posGo]
    by_cases he : l = []
    · rw [if_pos he, if_pos he]
    · rw [if_neg he, if_neg he]
      have := decodeL_width l
      rw [posGo_fuel n m _ _ (by rw [List.length_drop]; omega) (by rw [List.length_drop]; omega)]
theorem posD_nil (a : Int) : posD [] a = [] := rfl
theorem posD_step {l : List UInt8} (h : l ≠ []) (a : Int) : posD l a = (a + (decodeL l).2) :: posD (l.drop (decodeL l).2) (a + (decodeL l).2) := by
  unfold posD
  obtain ⟨n, hn⟩ : ∃ n, l.length = n + 1 := ⟨l.length - 1, by have := List.length_pos_iff.2 h; omega⟩
  rw [hn, posGo, if_neg h]
  have := decodeL_width l
  rw [posGo_fuel n _ _ _ (by rw [List.length_drop]; omega) (Nat.le_refl _)]
theorem validGo_fuel : ∀ (n m : Nat) (l : List UInt8), l.length ≤ n → l.length ≤ m → validGoD n l = validGoD m l
  | 0, 0, l, _, _ => rfl
  | 0, m + 1, l, h, _ => by
    have : l = [] := List.length_eq_zero_iff.1 (by omega)
    subst this; simp [validGoD]
  | n + 1, 0, l, _, h => by
    have : l = [] := List.length_eq_zero_iff.1 (by omega)
    subst this; simp [validGoD]
  | n + 1, m + 1, l, h1, h2 => by
    simp only [validGoD]
    by_cases he : l = []
    · rw [if_pos he, if_pos he]
    · rw [if_neg he, if_neg he]
      have := decodeL_width l
      rw [validGo_fuel n m _ (by rw [List.length_drop]; omega) (by rw [List.length_drop]; omega)]
theorem validD_step {l : List UInt8} (h : l ≠ []) : validD l = if decodeL l = (65533, 1) then false else validD (l.drop (decodeL l).2) := by
  unfold validD
  obtain ⟨n, hn⟩ : ∃ n, l.length = n + 1 := ⟨l.length - 1, by have := List.length_pos_iff.2 h; omega⟩
  rw [hn, validGoD, if_neg h]
  have := decodeL_width l
  rw [validGo_fuel n _ _ (by rw [List.length_drop]; omega) (Nat.le_refl _)]
  have e : (decodeL l = (65533, 1)) ↔ ((decodeL l).1 = 65533 ∧ (decodeL l).2 = 1) := by rw [Prod.ext_iff]
  simp only [e]
theorem extract_list (t : ByteArray) (i : Nat) : (t.extract i t.size).data.toList = t.data.toList.drop i := by
  simp only [ByteArray.data_extract, Array.toList_extract, List.extract_eq_take_drop]
  apply List.take_of_length_le
  simp
theorem firstF_drop (t : ByteArray) (i : Nat) (hi : i < t.size) : firstF (t.extract i t.size) = if decodeL (t.data.toList.drop i) = (65533, 1) then (0, 0) else (((decodeL (t.data.toList.drop i)).1 : Int), ((decodeL (t.data.toList.drop i)).2 : Int)) := by
  have e : Utf8.decode (t.extract i t.size) 0 = decodeL (t.data.toList.drop i) := by
    rw [← decodeL_drop (t.extract i t.size) 0, List.drop_zero, extract_list]
  unfold firstF
  rw [e]
  have : ¬ (t.extract i t.size).size = 0 := by rw [ByteArray.size_extract]; omega
  by_cases h : decodeL (t.data.toList.drop i) = (65533, 1)
  · rw [if_pos (Or.inr h), if_pos h]
  · rw [if_neg (by rintro (h' | h'); exact this h'; exact h h'), if_neg h]
theorem len_list (t : ByteArray) : t.data.toList.length = t.size := Array.length_toList
theorem first_det (t : ByteArray) : CallW env 118 [.v (.string t)] (fun r hs => r = .tup [.v (.int .i64 (firstF t).1), .v (.int .i64 (firstF t).2)] ∧ hs = []) :=
  (first_call t).mono fun r hs ⟨n, k, a, b, c⟩ => by rw [← firstP_eq b]; exact ⟨a, c⟩
def cc93 : CC := (.seq (.reg 0 [⟨0, some 2, (.assign (.const (Value.slice none 0 0))), none⟩, ⟨1, some 3, (.assign (.const (Value.bool false))), none⟩]) (.seq (.reg 1 [⟨0, some 8, (.buildSlice 40 1 #[(0, .const (Value.int .i64 0))]), none⟩, ⟨1, some 4, (.assign (.tmp 8)), none⟩]) (.seq (.reg 2 [⟨0, some 5, (.assign (.const (Value.int .i64 0))), none⟩]) (.seq (.block 0 (.loop (.seq (.seq (.reg 3 [⟨0, some 9, (.move (.tmp 5)), none⟩, ⟨1, some 10, (.move (.tmp 0)), none⟩, ⟨2, some 11, (.call { callee := .builtin .len, args := #[.tmp 10], argTypes := #[9] }), none⟩, ⟨3, some 12, (.binOp .lss 3 (.tmp 9) (.tmp 11) 3), none⟩]) (.cond (.tmp 12) .skip (.exit 0))) (.block 1 (.seq (.reg 4 [⟨0, some 14, (.move (.tmp 0)), none⟩, ⟨1, some 15, (.move (.tmp 5)), none⟩, ⟨2, some 16, (.slice 9 (.tmp 14) (some (.tmp 15)) none none), none⟩, ⟨3, some 17, (.call { callee := .value (.func 118), args := #[.tmp 16], argTypes := #[9] }), none⟩, ⟨4, some 13, (.move (.tmp 17)), none⟩, ⟨5, some 18, (.extract (.tmp 13) 0), none⟩, ⟨6, some 19, (.extract (.tmp 13) 1), none⟩, ⟨7, some 6, (.assign (.tmp 18)), none⟩, ⟨8, some 7, (.assign (.tmp 19)), none⟩]) (.seq (.seq (.reg 5 [⟨0, some 20, (.move (.tmp 7)), none⟩, ⟨1, some 21, (.binOp .eql 3 (.tmp 20) (.const (Value.int .i64 0)) 3), none⟩]) (.cond (.tmp 21) (.seq (.reg 6 [⟨0, some 2, (.assign (.const (Value.slice none 0 0))), none⟩, ⟨1, some 3, (.assign (.const (Value.bool false))), none⟩]) .ret) .skip)) (.seq (.reg 7 [⟨0, some 22, (.move (.tmp 5)), none⟩, ⟨1, some 23, (.move (.tmp 7)), none⟩, ⟨2, some 24, (.binOp .add 3 (.tmp 22) (.tmp 23) 3), none⟩, ⟨3, some 5, (.assign (.tmp 24)), none⟩]) (.reg 8 [⟨0, some 25, (.move (.tmp 4)), none⟩, ⟨1, some 26, (.move (.tmp 5)), none⟩, ⟨2, some 27, (.buildSlice 40 1 #[(0, .tmp 26)]), none⟩, ⟨3, some 28, (.call { callee := .builtin .append, args := #[.tmp 25, .tmp 27], argTypes := #[40, 40] }), none⟩, ⟨4, some 4, (.assign (.tmp 28)), none⟩])))))))) (.seq (.reg 9 [⟨0, some 29, (.move (.tmp 4)), none⟩, ⟨1, some 2, (.assign (.tmp 29)), none⟩, ⟨2, some 3, (.assign (.const (Value.bool true))), none⟩]) .ret)))))
theorem comp93 : ∀ c, Tryd.f93.body = some c → comp c = cc93 := by
  intro c h
  have : c = Tryd.f93.body.get rfl := by rw [← Option.some_inj, ← h]; rfl
  rw [this]; rfl
def StartsR (t : ByteArray) (r : AV) (hs : List Blk) : Prop :=
  if validD t.data.toList then r = .tup [.own 0 0 0 ((posD t.data.toList 0).length + 1), .v (.bool true)] ∧ hs = [⟨1, 3, 0, 0, false, ints (0 :: posD t.data.toList 0)⟩] else r = .tup [.v (.slice none 0 0), .v (.bool false)] ∧ hs = []
theorem starts_call (t : ByteArray) (ht : t.size ≤ 1000000000) : CallW env 93 [.v (.string t)] (StartsR t) := by
  refine Ev.funcO tabOK [0, 2, 3, 4, 5, 7, 12, 21] 0 Tryd.func93 rfl rfl (by simp [Tryd.ntmps93]) (by rfl) (comp93 _ rfl) (rs := [.tmp 2, .tmp 3]) rfl ?_; rw [cc93]; show Ev.Wp _ _ _ _ ⟨[(0, _)], [], 0⟩
  repeat' (first | ((with_reducible first | refine Ev.sided ?_ ?_ | refine Ev.w_put ?_ | refine Ev.w_step ?_ | refine Ev.w_opt ?_); (conv => whnf)) | ((with_reducible refine Ev.chk_k ?_ ?_); rotate_left; (focus first | rfl | (simp only [Ev.nbeq, Bool.and_true, Bool.true_and, Bool.not_false]; done) | ((repeat' (first | exact Ev.nbeq _ | rfl | refine Bool.and_eq_true_iff.2 ⟨?_, ?_⟩)); done)); conv => whnf) | (with_reducible first | refine Ev.c_dec (fun _ => ?_) (fun _ => ?_) | refine Ev.c_not ?_ | refine Ev.c_t ?_ | refine Ev.c_f ?_ | refine Ev.c_br (fun _ => ?_) (fun _ => ?_)) | ((with_reducible refine Ev.br_not ?_); conv => whnf) | (with_reducible first | refine Ev.br_dec (fun _ => ?_) (fun _ => ?_) | refine Ev.br (fun _ => ?_) (fun _ => ?_) | refine Ev.eo_ret ?_ | refine Ev.eo_norm ?_ | refine Ev.t_norm ?_ | refine Ev.k_seq ?_) | ((with_reducible refine Ev.k_reg (hs := []) (tabOK' _ _) (fun Q hQ => ?_)); (simp only [Ev.runE_cons, Ev.runE_nil]); conv => whnf) | (with_reducible refine hQ _ ?_; clear hQ Q) | (with_reducible first | refine Ev.k_cond rfl ?_ | refine Ev.k_skip ?_ | refine Ev.k_block ?_ | refine Ev.k_exit ?_ | refine Ev.k_ret ?_ | refine Ev.t_ret ?_ | refine Ev.t_exit ?_ | refine Ev.b_norm ?_ | refine Ev.b_ret ?_ | refine Ev.b_here ?_ | refine Ev.b_off rfl ?_) | ((with_reducible first | refine Ev.e_ret (fun F hF => ?_) | refine Ev.e_norm (fun F hF => ?_) | refine Ev.eh_ret (fun F hF => ?_) | refine Ev.eh_norm (fun F hF => ?_) | refine Ev.go_k (fun c' => ?_) | refine Ev.byt_cut ?_ | refine Ev.byt_all ?_ | refine Ev.run_cut ?_ | refine Ev.run_all ?_); conv => whnf) | (with_reducible refine hF _ ?_; clear hF F) | (with_reducible refine Ev.u_step ?_) | (refine Ev.Side.of ?_; exact Nat.le_of_ble_eq_true rfl))
  refine Ev.loop (fun k s => ∃ (i v c : Nat) (out : List Int), s = ⟨[(0, .v (.string t)), (2, .v (.slice none 0 0)), (3, .v (.bool false)), (4, .own 512 v 0 out.length), (5, .v (.int .i64 i))], [(512, ⟨1, 3, v, 0, false, ints out⟩)], c⟩ ∧
      k + i = t.size ∧ out ++ posD (t.data.toList.drop i) i = 0 :: posD t.data.toList 0 ∧ validD (t.data.toList.drop i) = validD t.data.toList ∧ out.length ≤ i + 1) ?_ ?_
  · exact Ev.to ⟨[(0, _), (2, _), (3, _), (4, .own 512 0 0 1), (5, .v (.int .i64 ((0 : Nat) : Int)))], [(512, ⟨1, 3, 0, 0, false, ints [0]⟩)], 8⟩ ⟨rfl, rfl, rfl, rfl, rfl, trivial⟩ ⟨rfl, trivial⟩ (Nat.le_refl _) ⟨t.size, 0, 0, 8, [0], rfl, by omega, rfl, rfl, by simp⟩
  rintro k s1 ⟨i, v, c, out, rfl, hk, ho, hv, hl⟩
  repeat' (first | ((with_reducible first | refine Ev.sided ?_ ?_ | refine Ev.w_put ?_ | refine Ev.w_step ?_ | refine Ev.w_opt ?_); (conv => whnf)) | ((with_reducible refine Ev.chk_k ?_ ?_); rotate_left; (focus first | rfl | (simp only [Ev.nbeq, Bool.and_true, Bool.true_and, Bool.not_false]; done) | ((repeat' (first | exact Ev.nbeq _ | rfl | refine Bool.and_eq_true_iff.2 ⟨?_, ?_⟩)); done)); conv => whnf) | (with_reducible first | refine Ev.c_dec (fun _ => ?_) (fun _ => ?_) | refine Ev.c_not ?_ | refine Ev.c_t ?_ | refine Ev.c_f ?_ | refine Ev.c_br (fun _ => ?_) (fun _ => ?_)) | ((with_reducible refine Ev.br_not ?_); conv => whnf) | (with_reducible first | refine Ev.br_dec (fun _ => ?_) (fun _ => ?_) | refine Ev.br (fun _ => ?_) (fun _ => ?_) | refine Ev.eo_ret ?_ | refine Ev.eo_norm ?_ | refine Ev.t_norm ?_ | refine Ev.k_seq ?_) | ((with_reducible refine Ev.k_reg (hs := []) (tabOK' _ _) (fun Q hQ => ?_)); (simp only [Ev.runE_cons, Ev.runE_nil]); conv => whnf) | (with_reducible refine hQ _ ?_; clear hQ Q) | (with_reducible first | refine Ev.k_cond rfl ?_ | refine Ev.k_skip ?_ | refine Ev.k_block ?_ | refine Ev.k_exit ?_ | refine Ev.k_ret ?_ | refine Ev.t_ret ?_ | refine Ev.t_exit ?_ | refine Ev.b_norm ?_ | refine Ev.b_ret ?_ | refine Ev.b_here ?_ | refine Ev.b_off rfl ?_) | ((with_reducible first | refine Ev.e_ret (fun F hF => ?_) | refine Ev.e_norm (fun F hF => ?_) | refine Ev.eh_ret (fun F hF => ?_) | refine Ev.eh_norm (fun F hF => ?_) | refine Ev.go_k (fun c' => ?_) | refine Ev.byt_cut ?_ | refine Ev.byt_all ?_ | refine Ev.run_cut ?_ | refine Ev.run_all ?_); conv => whnf) | (with_reducible refine hF _ ?_; clear hF F) | (with_reducible refine Ev.u_step ?_) | ((refine Ev.call_det (first_det _) rfl rfl ?_); conv => whnf) | (refine Ev.Side.of ?_; exact Nat.le_of_ble_eq_true rfl))
  · rename_i hi hk0
    refine Ev.finL [] (by simp) (fun F hF => ?_)
    conv => whnf
    refine hF _ ?_
    simp only [Int.toNat_natCast] at hk0
    rw [firstF_drop t i (by omega)] at hk0
    unfold StartsR
    have hne : t.data.toList.drop i ≠ [] := by intro e; have := congrArg List.length e; rw [List.length_drop, len_list] at this; simp at this; omega
    rw [validD_step hne] at hv
    have hw := decodeL_width (t.data.toList.drop i)
    split at hk0
    · rename_i hd
      rw [if_pos hd] at hv
      rw [if_neg (by rw [← hv]; decide)]; exact ⟨rfl, rfl⟩
    · simp only at hk0; omega
  · rename_i hi hk0
    simp only [Int.toNat_natCast] at hk0
    have hne : t.data.toList.drop i ≠ [] := by intro e; have := congrArg List.length e; rw [List.length_drop, len_list] at this; simp at this; omega
    have hw := decodeL_width (t.data.toList.drop i)
    have hw' := decodeL_le (t.data.toList.drop i) hne
    rw [List.length_drop, len_list] at hw'
    have hf := firstF_drop t i (by omega)
    have hd : ¬ decodeL (t.data.toList.drop i) = (65533, 1) := by
      intro e; rw [hf, if_pos e] at hk0; exact hk0 rfl
    rw [if_neg hd] at hf
    rw [validD_step hne, if_neg hd, List.drop_drop] at hv
    rw [posD_step hne, List.drop_drop] at ho
    refine Ev.again (k - (decodeL (t.data.toList.drop i)).2) ⟨[(0, _), (2, _), (3, _), (4, _), (5, .v (.int .i64 ((i + (decodeL (t.data.toList.drop i)).2 : Nat) : Int)))], [(512, ⟨1, 3, c + 8, 0, false, ints (out ++ [((i + (decodeL (t.data.toList.drop i)).2 : Nat) : Int)])⟩)], c + 8 + 8⟩ (by omega)
      ⟨rfl, rfl, rfl, rfl, Ev.slot_int rfl ?_, trivial⟩ ⟨Ev.slot_eq rfl ?_, trivial⟩ (Nat.le_refl _) ⟨i + (decodeL (t.data.toList.drop i)).2, c + 8, c + 8 + 8, out ++ [((i + (decodeL (t.data.toList.drop i)).2 : Nat) : Int)], ?_, by omega, ?_, by rw [Nat.add_comm]; rw [Nat.add_comm] at hv; exact hv, by rw [List.length_append]; simp only [List.length_cons, List.length_nil]; omega⟩
    · rw [Int.toNat_natCast, hf, Ev.wrap64]; simp only; omega
    · simp only [Blk.mk.injEq, true_and, and_true, List.drop_zero, Int.toNat_natCast, hf]
      simp only [ints, List.map_append, List.map_cons, List.map_nil, List.take_succ_cons, List.take_zero, Ev.wrap64]
      rw [show ((i : Int) + ((decodeL (t.data.toList.drop i)).2 : Int) + 9223372036854775808) % 18446744073709551616 - 9223372036854775808 = ((i + (decodeL (t.data.toList.drop i)).2 : Nat) : Int) by omega]
    · simp only [List.length_append, List.length_cons, List.length_nil]; rfl
    · rw [List.append_assoc]; rw [← ho]
      simp only [Int.natCast_add, List.singleton_append]
  · refine Ev.Side.of ?_
    have hm : 2000000003 ≤ maxLen := by decide
    simp [ints]
    omega
  · refine Ev.Side.of ?_; omega
  · rename_i hi
    refine Ev.finL [(512, v)] (by simp) (fun F hF => ?_)
    have e : i = t.size := by omega
    subst e
    have en : t.data.toList.drop t.size = [] := by apply List.drop_of_length_le; rw [len_list]; exact Nat.le_refl _
    rw [en] at hv ho
    rw [posD_nil, List.append_nil] at ho
    subst ho
    simp only [Ev.FinP.resK, get_cons, get_nil, Nat.reduceEqDiff, if_false, if_true, handed, rens, ren, idx, and_self, Option.map_some, resOf]
    refine hF _ ?_
    unfold StartsR
    rw [if_pos (by rw [← hv]; rfl)]
    exact ⟨rfl, rfl⟩
end Go.Proofs.YthdjbgbfboppcaaDoor.Abs

namespace Go.Proofs.YthdjbgbfboppcaaDoor.Abs
open Go
set_option maxRecDepth 100000
set_option linter.unusedSimpArgs false
set_option linter.unusedVariables false
attribute [local irreducible] Ev.Unr Ev.Go' Ev.bytK Ev.runK Ev.FinL Ev.brC Ev.Side Ev.Wp Ev.Again Ev.To Ev.Fin
open Go.Lib
theorem starts_ok {t : ByteArray} (ht : t.size ≤ 1000000000) (hv : validD t.data.toList = true) : CallW env 93 [.v (.string t)] (fun r hs => r = .tup [.own 0 0 0 ((posD t.data.toList 0).length + 1), .v (.bool true)] ∧ hs = [⟨1, 3, 0, 0, false, ints (0 :: posD t.data.toList 0)⟩]) :=
  (starts_call t ht).mono fun r hs h => by unfold StartsR at h; rwa [if_pos hv] at h
theorem starts_no {t : ByteArray} (ht : t.size ≤ 1000000000) (hv : ¬ validD t.data.toList = true) : CallW env 93 [.v (.string t)] (fun r hs => r = .tup [.v (.slice none 0 0), .v (.bool false)] ∧ hs = []) :=
  (starts_call t ht).mono fun r hs h => by unfold StartsR at h; rwa [if_neg hv] at h
theorem posGo_len : ∀ (n : Nat) (l : List UInt8) (a : Int), (posGo n l a).length ≤ n
  | 0, l, a => by simp [posGo]
  | n + 1, l, a => by
    simp only [posGo]
    split
    · simp
    · simp only [List.length_cons]; have := posGo_len n (l.drop (decodeL l).2) (a + (decodeL l).2); omega
theorem posD_len (l : List UInt8) (a : Int) : (posD l a).length ≤ l.length := posGo_len _ _ _
def cc71 : CC := (.seq (.reg 0 [⟨0, some 2, (.assign (.const (Value.bool false))), none⟩]) (.seq (.reg 1 [⟨0, some 6, (.move (.tmp 0)), none⟩, ⟨1, some 7, (.call { callee := .value (.func 93), args := #[.tmp 6], argTypes := #[9] }), none⟩, ⟨2, some 5, (.move (.tmp 7)), none⟩, ⟨3, some 8, (.extract (.tmp 5) 0), none⟩, ⟨4, some 9, (.extract (.tmp 5) 1), none⟩, ⟨5, some 3, (.assign (.tmp 8)), none⟩, ⟨6, some 4, (.assign (.tmp 9)), none⟩]) (.seq (.reg 2 [⟨0, some 10, (.move (.tmp 4)), none⟩, ⟨1, some 2, (.assign (.tmp 10)), none⟩]) .ret)))
theorem comp71 : ∀ c, Tryd.f71.body = some c → comp c = cc71 := by
  intro c h
  have : c = Tryd.f71.body.get rfl := by rw [← Option.some_inj, ← h]; rfl
  rw [this]; rfl
def cc65 : CC := (.seq (.reg 0 [⟨0, some 2, (.assign (.const (Value.int .i64 0))), none⟩]) (.seq (.reg 1 [⟨0, some 6, (.move (.tmp 0)), none⟩, ⟨1, some 7, (.call { callee := .value (.func 93), args := #[.tmp 6], argTypes := #[9] }), none⟩, ⟨2, some 5, (.move (.tmp 7)), none⟩, ⟨3, some 8, (.extract (.tmp 5) 0), none⟩, ⟨4, some 9, (.extract (.tmp 5) 1), none⟩, ⟨5, some 3, (.assign (.tmp 8)), none⟩, ⟨6, some 4, (.assign (.tmp 9)), none⟩]) (.seq (.reg 2 [⟨0, some 10, (.move (.tmp 3)), none⟩, ⟨1, some 11, (.call { callee := .builtin .len, args := #[.tmp 10], argTypes := #[40] }), none⟩, ⟨2, some 12, (.binOp .sub 3 (.tmp 11) (.const (Value.int .i64 1)) 3), none⟩, ⟨3, some 2, (.assign (.tmp 12)), none⟩]) .ret)))
theorem comp65 : ∀ c, Tryd.f65.body = some c → comp c = cc65 := by
  intro c h
  have : c = Tryd.f65.body.get rfl := by rw [← Option.some_inj, ← h]; rfl
  rw [this]; rfl
theorem rvalid_call (t : ByteArray) (ht : t.size ≤ 1000000000) : CallW env 71 [.v (.string t)] (fun r hs => r = .v (.bool (validD t.data.toList)) ∧ hs = []) := by
  by_cases hv : validD t.data.toList = true
  · refine Ev.func tabOK [0, 2, 4] 0 Tryd.func71 rfl rfl (by simp [Tryd.ntmps71]) (by rfl) (comp71 _ rfl) (rs := [.tmp 2]) rfl ?_; rw [cc71]; show Ev.Wp _ _ _ _ ⟨[(0, _)], [], 0⟩
    repeat' (first | ((with_reducible first | refine Ev.sided ?_ ?_ | refine Ev.w_put ?_ | refine Ev.w_step ?_ | refine Ev.w_opt ?_); (conv => whnf)) | ((with_reducible refine Ev.chk_k ?_ ?_); rotate_left; (focus first | rfl | (simp only [Ev.nbeq, Bool.and_true, Bool.true_and, Bool.not_false]; done) | ((repeat' (first | exact Ev.nbeq _ | rfl | refine Bool.and_eq_true_iff.2 ⟨?_, ?_⟩)); done)); conv => whnf) | (with_reducible first | refine Ev.c_dec (fun _ => ?_) (fun _ => ?_) | refine Ev.c_not ?_ | refine Ev.c_t ?_ | refine Ev.c_f ?_ | refine Ev.c_br (fun _ => ?_) (fun _ => ?_)) | ((with_reducible refine Ev.br_not ?_); conv => whnf) | (with_reducible first | refine Ev.br_dec (fun _ => ?_) (fun _ => ?_) | refine Ev.br (fun _ => ?_) (fun _ => ?_) | refine Ev.eo_ret ?_ | refine Ev.eo_norm ?_ | refine Ev.t_norm ?_ | refine Ev.k_seq ?_) | ((with_reducible refine Ev.k_reg (hs := []) (tabOK' _ _) (fun Q hQ => ?_)); (simp only [Ev.runE_cons, Ev.runE_nil]); conv => whnf) | (with_reducible refine hQ _ ?_; clear hQ Q) | (with_reducible first | refine Ev.k_cond rfl ?_ | refine Ev.k_skip ?_ | refine Ev.k_block ?_ | refine Ev.k_exit ?_ | refine Ev.k_ret ?_ | refine Ev.t_ret ?_ | refine Ev.t_exit ?_ | refine Ev.b_norm ?_ | refine Ev.b_ret ?_ | refine Ev.b_here ?_ | refine Ev.b_off rfl ?_) | ((with_reducible first | refine Ev.e_ret (fun F hF => ?_) | refine Ev.e_norm (fun F hF => ?_) | refine Ev.eh_ret (fun F hF => ?_) | refine Ev.eh_norm (fun F hF => ?_) | refine Ev.go_k (fun c' => ?_) | refine Ev.byt_cut ?_ | refine Ev.byt_all ?_ | refine Ev.run_cut ?_ | refine Ev.run_all ?_); conv => whnf) | (with_reducible refine hF _ ?_; clear hF F) | (with_reducible refine Ev.u_step ?_) | ((refine Ev.call_own (starts_ok ht hv) rfl (by simp) ⟨rfl, trivial⟩ ?_); conv => whnf) | (refine Ev.Side.of ?_; exact Nat.le_of_ble_eq_true rfl))
    rw [hv]; exact ⟨rfl, rfl⟩
  · refine Ev.func tabOK [0, 2, 4] 0 Tryd.func71 rfl rfl (by simp [Tryd.ntmps71]) (by rfl) (comp71 _ rfl) (rs := [.tmp 2]) rfl ?_; rw [cc71]; show Ev.Wp _ _ _ _ ⟨[(0, _)], [], 0⟩
    repeat' (first | ((with_reducible first | refine Ev.sided ?_ ?_ | refine Ev.w_put ?_ | refine Ev.w_step ?_ | refine Ev.w_opt ?_); (conv => whnf)) | ((with_reducible refine Ev.chk_k ?_ ?_); rotate_left; (focus first | rfl | (simp only [Ev.nbeq, Bool.and_true, Bool.true_and, Bool.not_false]; done) | ((repeat' (first | exact Ev.nbeq _ | rfl | refine Bool.and_eq_true_iff.2 ⟨?_, ?_⟩)); done)); conv => whnf) | (with_reducible first | refine Ev.c_dec (fun _ => ?_) (fun _ => ?_) | refine Ev.c_not ?_ | refine Ev.c_t ?_ | refine Ev.c_f ?_ | refine Ev.c_br (fun _ => ?_) (fun _ => ?_)) | ((with_reducible refine Ev.br_not ?_); conv => whnf) | (with_reducible first | refine Ev.br_dec (fun _ => ?_) (fun _ => ?_) | refine Ev.br (fun _ => ?_) (fun _ => ?_) | refine Ev.eo_ret ?_ | refine Ev.eo_norm ?_ | refine Ev.t_norm ?_ | refine Ev.k_seq ?_) | ((with_reducible refine Ev.k_reg (hs := []) (tabOK' _ _) (fun Q hQ => ?_)); (simp only [Ev.runE_cons, Ev.runE_nil]); conv => whnf) | (with_reducible refine hQ _ ?_; clear hQ Q) | (with_reducible first | refine Ev.k_cond rfl ?_ | refine Ev.k_skip ?_ | refine Ev.k_block ?_ | refine Ev.k_exit ?_ | refine Ev.k_ret ?_ | refine Ev.t_ret ?_ | refine Ev.t_exit ?_ | refine Ev.b_norm ?_ | refine Ev.b_ret ?_ | refine Ev.b_here ?_ | refine Ev.b_off rfl ?_) | ((with_reducible first | refine Ev.e_ret (fun F hF => ?_) | refine Ev.e_norm (fun F hF => ?_) | refine Ev.eh_ret (fun F hF => ?_) | refine Ev.eh_norm (fun F hF => ?_) | refine Ev.go_k (fun c' => ?_) | refine Ev.byt_cut ?_ | refine Ev.byt_all ?_ | refine Ev.run_cut ?_ | refine Ev.run_all ?_); conv => whnf) | (with_reducible refine hF _ ?_; clear hF F) | (with_reducible refine Ev.u_step ?_) | ((refine Ev.call_det (starts_no ht hv) rfl rfl ?_); conv => whnf) | (refine Ev.Side.of ?_; exact Nat.le_of_ble_eq_true rfl))
    rw [Bool.eq_false_iff.2 hv]; exact ⟨rfl, rfl⟩
def countD (l : List UInt8) : Int := if validD l then (posD l 0).length else -1
theorem rcount_call (t : ByteArray) (ht : t.size ≤ 1000000000) : CallW env 65 [.v (.string t)] (fun r hs => r = .v (.int .i64 (countD t.data.toList)) ∧ hs = []) := by
  by_cases hv : validD t.data.toList = true
  · refine Ev.func tabOK [0, 2, 3] 0 Tryd.func65 rfl rfl (by simp [Tryd.ntmps65]) (by rfl) (comp65 _ rfl) (rs := [.tmp 2]) rfl ?_; rw [cc65]; show Ev.Wp _ _ _ _ ⟨[(0, _)], [], 0⟩
    repeat' (first | ((with_reducible first | refine Ev.sided ?_ ?_ | refine Ev.w_put ?_ | refine Ev.w_step ?_ | refine Ev.w_opt ?_); (conv => whnf)) | ((with_reducible refine Ev.chk_k ?_ ?_); rotate_left; (focus first | rfl | (simp only [Ev.nbeq, Bool.and_true, Bool.true_and, Bool.not_false]; done) | ((repeat' (first | exact Ev.nbeq _ | rfl | refine Bool.and_eq_true_iff.2 ⟨?_, ?_⟩)); done)); conv => whnf) | (with_reducible first | refine Ev.c_dec (fun _ => ?_) (fun _ => ?_) | refine Ev.c_not ?_ | refine Ev.c_t ?_ | refine Ev.c_f ?_ | refine Ev.c_br (fun _ => ?_) (fun _ => ?_)) | ((with_reducible refine Ev.br_not ?_); conv => whnf) | (with_reducible first | refine Ev.br_dec (fun _ => ?_) (fun _ => ?_) | refine Ev.br (fun _ => ?_) (fun _ => ?_) | refine Ev.eo_ret ?_ | refine Ev.eo_norm ?_ | refine Ev.t_norm ?_ | refine Ev.k_seq ?_) | ((with_reducible refine Ev.k_reg (hs := []) (tabOK' _ _) (fun Q hQ => ?_)); (simp only [Ev.runE_cons, Ev.runE_nil]); conv => whnf) | (with_reducible refine hQ _ ?_; clear hQ Q) | (with_reducible first | refine Ev.k_cond rfl ?_ | refine Ev.k_skip ?_ | refine Ev.k_block ?_ | refine Ev.k_exit ?_ | refine Ev.k_ret ?_ | refine Ev.t_ret ?_ | refine Ev.t_exit ?_ | refine Ev.b_norm ?_ | refine Ev.b_ret ?_ | refine Ev.b_here ?_ | refine Ev.b_off rfl ?_) | ((with_reducible first | refine Ev.e_ret (fun F hF => ?_) | refine Ev.e_norm (fun F hF => ?_) | refine Ev.eh_ret (fun F hF => ?_) | refine Ev.eh_norm (fun F hF => ?_) | refine Ev.go_k (fun c' => ?_) | refine Ev.byt_cut ?_ | refine Ev.byt_all ?_ | refine Ev.run_cut ?_ | refine Ev.run_all ?_); conv => whnf) | (with_reducible refine hF _ ?_; clear hF F) | (with_reducible refine Ev.u_step ?_) | ((refine Ev.call_own (starts_ok ht hv) rfl (by simp) ⟨rfl, trivial⟩ ?_); conv => whnf) | (refine Ev.Side.of ?_; exact Nat.le_of_ble_eq_true rfl))
    refine ⟨congrArg (fun z => AV.v (Value.int IntKind.i64 z)) ?_, rfl⟩
    have := posD_len t.data.toList 0
    rw [len_list] at this
    unfold countD; rw [if_pos hv, Ev.wrap64]; omega
  · refine Ev.func tabOK [0, 2, 3] 0 Tryd.func65 rfl rfl (by simp [Tryd.ntmps65]) (by rfl) (comp65 _ rfl) (rs := [.tmp 2]) rfl ?_; rw [cc65]; show Ev.Wp _ _ _ _ ⟨[(0, _)], [], 0⟩
    repeat' (first | ((with_reducible first | refine Ev.sided ?_ ?_ | refine Ev.w_put ?_ | refine Ev.w_step ?_ | refine Ev.w_opt ?_); (conv => whnf)) | ((with_reducible refine Ev.chk_k ?_ ?_); rotate_left; (focus first | rfl | (simp only [Ev.nbeq, Bool.and_true, Bool.true_and, Bool.not_false]; done) | ((repeat' (first | exact Ev.nbeq _ | rfl | refine Bool.and_eq_true_iff.2 ⟨?_, ?_⟩)); done)); conv => whnf) | (with_reducible first | refine Ev.c_dec (fun _ => ?_) (fun _ => ?_) | refine Ev.c_not ?_ | refine Ev.c_t ?_ | refine Ev.c_f ?_ | refine Ev.c_br (fun _ => ?_) (fun _ => ?_)) | ((with_reducible refine Ev.br_not ?_); conv => whnf) | (with_reducible first | refine Ev.br_dec (fun _ => ?_) (fun _ => ?_) | refine Ev.br (fun _ => ?_) (fun _ => ?_) | refine Ev.eo_ret ?_ | refine Ev.eo_norm ?_ | refine Ev.t_norm ?_ | refine Ev.k_seq ?_) | ((with_reducible refine Ev.k_reg (hs := []) (tabOK' _ _) (fun Q hQ => ?_)); (simp only [Ev.runE_cons, Ev.runE_nil]); conv => whnf) | (with_reducible refine hQ _ ?_; clear hQ Q) | (with_reducible first | refine Ev.k_cond rfl ?_ | refine Ev.k_skip ?_ | refine Ev.k_block ?_ | refine Ev.k_exit ?_ | refine Ev.k_ret ?_ | refine Ev.t_ret ?_ | refine Ev.t_exit ?_ | refine Ev.b_norm ?_ | refine Ev.b_ret ?_ | refine Ev.b_here ?_ | refine Ev.b_off rfl ?_) | ((with_reducible first | refine Ev.e_ret (fun F hF => ?_) | refine Ev.e_norm (fun F hF => ?_) | refine Ev.eh_ret (fun F hF => ?_) | refine Ev.eh_norm (fun F hF => ?_) | refine Ev.go_k (fun c' => ?_) | refine Ev.byt_cut ?_ | refine Ev.byt_all ?_ | refine Ev.run_cut ?_ | refine Ev.run_all ?_); conv => whnf) | (with_reducible refine hF _ ?_; clear hF F) | (with_reducible refine Ev.u_step ?_) | ((refine Ev.call_det (starts_no ht hv) rfl rfl ?_); conv => whnf) | (refine Ev.Side.of ?_; exact Nat.le_of_ble_eq_true rfl))
    refine ⟨congrArg (fun z => AV.v (Value.int IntKind.i64 z)) ?_, rfl⟩
    unfold countD; rw [if_neg hv, Ev.wrap64]; rfl
end Go.Proofs.YthdjbgbfboppcaaDoor.Abs

namespace Go.Proofs.YthdjbgbfboppcaaDoor.Abs
open Go
set_option maxRecDepth 100000
set_option linter.unusedSimpArgs false
set_option linter.unusedVariables false
attribute [local irreducible] Ev.Unr Ev.Go' Ev.bytK Ev.runK Ev.FinL Ev.brC Ev.Side Ev.Wp Ev.Again Ev.To Ev.Fin
open Go.Lib Go.RowKit
theorem heap_lt {w : World} {b o : Nat} {u : Value} (h : w.cell? ⟨b, o, none⟩ = some u) : b < w.heap.size := by
  unfold World.cell? at h
  rcases Nat.lt_or_ge b w.heap.size with h' | h'
  · exact h'
  · simp [Array.getElem?_eq_none h'] at h
theorem scal {f : FuncId} {x y : Value} (h : ∀ w : World, (∀ g cs j z, env.G g = some cs → cs[j]? = some (.v z) → w.cell? ⟨g, j, none⟩ = some z) →
    (callFunc f #[x]).run env.P w = .ok (.enter f #[x]) w ∧ Calls env.P f #[x] w fun e w' => e = .returned y ∧ Below w.heap.size w w') : CallW env f [.v x] (fun r hs => r = .v y ∧ hs = []) := by
  intro M w vs hm hg hn hr
  have hv : vs = #[x] := by
    apply Array.ext_getElem?
    intro i
    rcases Nat.lt_or_ge i vs.size with hi | hi
    · have : i = 0 := by simp at hn; omega
      subst this
      have := hr 0 (.v x) vs[0] rfl (Array.getElem?_eq_getElem hi)
      cases this
      rw [Array.getElem?_eq_getElem hi]; rfl
    · rw [Array.getElem?_eq_none hi, Array.getElem?_eq_none (by simp at hn ⊢; omega)]
  subst hv
  obtain ⟨a, b⟩ := h w (fun g cs j z h1 h2 => by
    have hp := hg g cs h1
    cases hp with
    | rptr u hM hc =>
      have hz := hc j _ h2
      have h3 := hM j _ h2
      rw [Nat.zero_add] at h3
      rw [(hm _ _ _ h3).1]
      cases hz; rfl)
  refine ⟨a, b.mono ?_⟩
  rintro e w' ⟨rfl, hb⟩
  refine ⟨y, _, [], M, fun _ => none, rfl, ⟨rfl, rfl⟩, ⟨hb, fun b o u hu => ?_, fun _ _ _ h => .inl h, fun _ _ _ h => h, hg, fun t x h => by simp [get_nil] at h, fun r k h => by simp [heapOf, get_nil] at h,
    fun r r' k k' L L' h => by simp [heapOf, get_nil] at h, fun r k L o u h => by simp [heapOf, get_nil] at h, fun r L h => by simp at h, fun r L h => h⟩, .pure (.v _)⟩
  obtain ⟨h1, h2⟩ := hm b o u hu
  exact ⟨by rw [hb.cell (heap_lt h1)]; exact h1, h2⟩
end Go.Proofs.YthdjbgbfboppcaaDoor.Abs

namespace Go.Proofs.YthdjbgbfboppcaaDoor.Abs
open Go
set_option maxRecDepth 100000
set_option linter.unusedSimpArgs false
set_option linter.unusedVariables false
attribute [local irreducible] Ev.Unr Ev.Go' Ev.bytK Ev.runK Ev.FinL Ev.brC Ev.Side Ev.Wp Ev.Again Ev.To Ev.Fin
open Go.Lib Go.RowKit Go.Shelf
def validLay_ren : Go.Shelf.Ren := ⟨fun | 196 => 77 | 259 => 110 | n => n, fun | 9 => 9 | 4 => 4 | 3 => 3 | 5 => 5 | 12 => 12 | 119 => 120 | 0 => 0 | 46 => 107 | 139 => 123 | 138 => 122 | 53 => 140 | n => n, fun | 3 => 0 | 4 => 1 | n => n⟩
theorem validLay : Lays.n196 Tryd.prog validLay_ren :=
  { mixed := by kernel_rfl,
    f196 := Tryd.func77.trans (congrArg some (by kernel_rfl)),
    f259 := Tryd.func110.trans (congrArg some (by kernel_rfl)),
    t0 := Tryd.underlying0,
    a0 := Tryd.isAgg0,
    z0 := Tryd.sizeOf0,
    v0 := Tryd.zeroValue0,
    t3 := Tryd.underlying3,
    a3 := Tryd.isAgg3,
    z3 := Tryd.sizeOf3,
    v3 := Tryd.zeroValue3,
    t4 := Tryd.underlying4,
    a4 := Tryd.isAgg4,
    z4 := Tryd.sizeOf4,
    v4 := Tryd.zeroValue4,
    t5 := Tryd.underlying5,
    a5 := Tryd.isAgg5,
    z5 := Tryd.sizeOf5,
    v5 := Tryd.zeroValue5,
    t9 := Tryd.underlying9,
    a9 := Tryd.isAgg9,
    z9 := Tryd.sizeOf9,
    v9 := Tryd.zeroValue9,
    t12 := Tryd.underlying12,
    a12 := Tryd.isAgg12,
    z12 := Tryd.sizeOf12,
    v12 := Tryd.zeroValue12,
    t46 := Tryd.underlying107,
    a46 := Tryd.isAgg107,
    z46 := Tryd.sizeOf107,
    v46 := Tryd.zeroValue107,
    t53 := Tryd.underlying140,
    a53 := Tryd.isAgg140,
    z53 := Tryd.sizeOf140,
    v53 := Tryd.zeroValue140,
    t119 := Tryd.underlying120,
    a119 := Tryd.isAgg120,
    z119 := Tryd.sizeOf120,
    t138 := Tryd.underlying122,
    a138 := Tryd.isAgg122,
    z138 := Tryd.sizeOf122,
    v138 := Tryd.zeroValue122,
    t139 := Tryd.underlying123,
    a139 := Tryd.isAgg123,
    z139 := Tryd.sizeOf123,
    v139 := Tryd.zeroValue123,
    g3 := by kernel_rfl,
    g4 := by kernel_rfl }
theorem utf8_call (t : ByteArray) (ht : t.size ≤ 1000000000) : CallW env 77 [.v (.string t)] (fun r hs => r = .v (.bool (validD t.data.toList)) ∧ hs = []) := by
  refine scal fun w hw => ⟨?_, ?_⟩
  · exact run_callFunc Tryd.func77 rfl rfl w
  · have hT : Lib.Utf8Tabs 0 1 w := by
      refine ⟨fun c hc => ?_, fun i hi => ⟨?_, ?_⟩⟩
      · exact hw 0 glob0 c _ rfl (by simp [glob0, hc])
      · exact hw 1 glob1 (2 * i) _ rfl (by have : i = 0 ∨ i = 1 ∨ i = 2 ∨ i = 3 ∨ i = 4 ∨ i = 5 ∨ i = 6 ∨ i = 7 ∨ i = 8 ∨ i = 9 ∨ i = 10 ∨ i = 11 ∨ i = 12 ∨ i = 13 ∨ i = 14 ∨ i = 15 := by omega
                                           rcases this with rfl | rfl | rfl | rfl | rfl | rfl | rfl | rfl | rfl | rfl | rfl | rfl | rfl | rfl | rfl | rfl <;> rfl)
      · exact hw 1 glob1 (2 * i + 1) _ rfl (by have : i = 0 ∨ i = 1 ∨ i = 2 ∨ i = 3 ∨ i = 4 ∨ i = 5 ∨ i = 6 ∨ i = 7 ∨ i = 8 ∨ i = 9 ∨ i = 10 ∨ i = 11 ∨ i = 12 ∨ i = 13 ∨ i = 14 ∨ i = 15 := by omega
                                               rcases this with rfl | rfl | rfl | rfl | rfl | rfl | rfl | rfl | rfl | rfl | rfl | rfl | rfl | rfl | rfl | rfl <;> rfl)
    exact Any.utf8_ValidString validLay t w (by omega) hT
def cc38 : CC := (.seq (.reg 0 [⟨0, some 2, (.assign (.const (Value.bool false))), none⟩]) (.seq (.reg 1 [⟨0, some 3, (.move (.tmp 0)), none⟩, ⟨1, some 4, (.call { callee := .value (.func 77), args := #[.tmp 3], argTypes := #[9] }), none⟩, ⟨2, some 2, (.assign (.tmp 4)), none⟩]) .ret))
theorem comp38 : ∀ c, Tryd.f38.body = some c → comp c = cc38 := by
  intro c h
  have : c = Tryd.f38.body.get rfl := by rw [← Option.some_inj, ← h]; rfl
  rw [this]; rfl
theorem pvalid_call (t : ByteArray) (ht : t.size ≤ 1000000000) : CallW env 38 [.v (.string t)] (fun r hs => r = .v (.bool (validD t.data.toList)) ∧ hs = []) := by
  refine Ev.func tabOK [0, 2] 0 Tryd.func38 rfl rfl (by simp [Tryd.ntmps38]) (by rfl) (comp38 _ rfl) (rs := [.tmp 2]) rfl ?_; rw [cc38]; show Ev.Wp _ _ _ _ ⟨[(0, _)], [], 0⟩
  repeat' (first | ((with_reducible first | refine Ev.sided ?_ ?_ | refine Ev.w_put ?_ | refine Ev.w_step ?_ | refine Ev.w_opt ?_); (conv => whnf)) | ((with_reducible refine Ev.chk_k ?_ ?_); rotate_left; (focus first | rfl | (simp only [Ev.nbeq, Bool.and_true, Bool.true_and, Bool.not_false]; done) | ((repeat' (first | exact Ev.nbeq _ | rfl | refine Bool.and_eq_true_iff.2 ⟨?_, ?_⟩)); done)); conv => whnf) | (with_reducible first | refine Ev.c_dec (fun _ => ?_) (fun _ => ?_) | refine Ev.c_not ?_ | refine Ev.c_t ?_ | refine Ev.c_f ?_ | refine Ev.c_br (fun _ => ?_) (fun _ => ?_)) | ((with_reducible refine Ev.br_not ?_); conv => whnf) | (with_reducible first | refine Ev.br_dec (fun _ => ?_) (fun _ => ?_) | refine Ev.br (fun _ => ?_) (fun _ => ?_) | refine Ev.eo_ret ?_ | refine Ev.eo_norm ?_ | refine Ev.t_norm ?_ | refine Ev.k_seq ?_) | ((with_reducible refine Ev.k_reg (hs := []) (tabOK' _ _) (fun Q hQ => ?_)); (simp only [Ev.runE_cons, Ev.runE_nil]); conv => whnf) | (with_reducible refine hQ _ ?_; clear hQ Q) | (with_reducible first | refine Ev.k_cond rfl ?_ | refine Ev.k_skip ?_ | refine Ev.k_block ?_ | refine Ev.k_exit ?_ | refine Ev.k_ret ?_ | refine Ev.t_ret ?_ | refine Ev.t_exit ?_ | refine Ev.b_norm ?_ | refine Ev.b_ret ?_ | refine Ev.b_here ?_ | refine Ev.b_off rfl ?_) | ((with_reducible first | refine Ev.e_ret (fun F hF => ?_) | refine Ev.e_norm (fun F hF => ?_) | refine Ev.eh_ret (fun F hF => ?_) | refine Ev.eh_norm (fun F hF => ?_) | refine Ev.go_k (fun c' => ?_) | refine Ev.byt_cut ?_ | refine Ev.byt_all ?_ | refine Ev.run_cut ?_ | refine Ev.run_all ?_); conv => whnf) | (with_reducible refine hF _ ?_; clear hF F) | (with_reducible refine Ev.u_step ?_) | ((refine Ev.call_det (utf8_call t ht) rfl rfl ?_); conv => whnf) | (refine Ev.Side.of ?_; exact Nat.le_of_ble_eq_true rfl))
  exact ⟨rfl, rfl⟩
theorem unscal {f : FuncId} {x y : Value} (h : CallW env f [.v x] (fun r hs => r = .v y ∧ hs = [])) (w : World) (h1 : ∀ g cs j z, env.G g = some cs → cs[j]? = some (.v z) → w.cell? ⟨g, j, none⟩ = some z ∧ z.oneCell' = true)
    (h2 : ∀ g cs c, env.G g = some cs → c ∈ cs → ∃ z, c = .v z) : Calls env.P f #[x] w fun e w' => e = .returned y ∧ Below w.heap.size w w' := by
  have hA : ∀ (b o : Nat) (u : Value), (match env.G b with | some cs => (match cs[o]? with | some (AV.v z) => some z | _ => none) | none => none) = some u → w.cell? ⟨b, o, none⟩ = some u ∧ u.oneCell' = true := by
    intro b o u hu
    split at hu
    · rename_i cs hcs
      split at hu
      · rename_i z hz
        obtain rfl := Option.some.inj hu
        exact h1 _ _ _ _ hcs hz
      · cases hu
    · cases hu
  have hB : ∀ g cs, env.G g = some cs → PRel (fun (b o : Nat) => match env.G b with | some cs => (match cs[o]? with | some (AV.v z) => some z | _ => none) | none => none) (.rptr cs) (.pointer (some ⟨g, 0, none⟩)) := by
    intro g cs hg
    refine .rptr (fun j => match cs[j]? with | some (.v z) => z | _ => x) (fun j c hc => ?_) (fun j c hc => ?_)
    · obtain ⟨z, rfl⟩ := h2 g cs c hg (List.mem_of_getElem? hc)
      simp only [hg, Nat.zero_add, hc]
    · obtain ⟨z, rfl⟩ := h2 g cs c hg (List.mem_of_getElem? hc)
      simp only [hc]; exact .v _
  have hC : ∀ (i : Nat) (a : AV) (v : Value), [AV.v x][i]? = some a → #[x][i]? = some v → PRel (fun (b o : Nat) => match env.G b with | some cs => (match cs[o]? with | some (AV.v z) => some z | _ => none) | none => none) a v := by
    intro i a v ha hv
    cases i with
    | zero => simp at ha hv; subst ha; subst hv; exact .v _
    | succ i => simp at ha
  obtain ⟨_, b⟩ := h _ w #[x] hA hB rfl hC
  refine b.mono ?_
  rintro e w' ⟨v, r, hs, M', J', rfl, ⟨rfl, rfl⟩, inv, hr⟩
  have := hr.v_inv
  subst this
  exact ⟨rfl, inv.below⟩
theorem glob_v (g : Nat) (cs : List AV) (c : AV) (h : env.G g = some cs) (hc : c ∈ cs) : ∃ z, c = .v z ∧ z.oneCell' = true := by
  have h : envG g = some cs := h
  unfold envG at h
  split at h <;> first | (cases h; done) | skip
  all_goals (obtain rfl := Option.some.inj h)
  · simp [glob2] at hc; rcases hc with rfl | rfl | rfl | rfl | rfl <;> exact ⟨_, rfl, rfl⟩
  · simp only [glob0, List.mem_map] at hc; obtain ⟨a, _, rfl⟩ := hc; exact ⟨_, rfl, rfl⟩
  · simp only [glob1, List.mem_flatMap] at hc; obtain ⟨a, _, hc⟩ := hc; simp at hc; rcases hc with rfl | rfl <;> exact ⟨_, rfl, rfl⟩
set_option maxRecDepth 1000000 in
theorem count_walk (t : ByteArray) (ht : t.size ≤ 1000000000) (w : World) (hw : ∀ g cs j z, env.G g = some cs → cs[j]? = some (.v z) → w.cell? ⟨g, j, none⟩ = some z) :
    Calls Tryd.prog 36 #[.string t] w fun e w' => e = .returned (.int .i64 (countD t.data.toList)) ∧ Below w.heap.size w w' := by
  have cV : Calls Tryd.prog 38 #[.string t] w fun e w' => e = .returned (.bool (validD t.data.toList)) ∧ Below w.heap.size w w' :=
    unscal (pvalid_call t ht) w (fun g cs j z a b => ⟨hw g cs j z a b, by obtain ⟨z', e, h⟩ := glob_v g cs _ a (List.mem_of_getElem? b); cases e; exact h⟩) (fun g cs c a b => let ⟨z, e, _⟩ := glob_v g cs c a b; ⟨z, e⟩)
  by_cases hv : validD t.data.toList = true
  · rw [hv] at cV
    have hcd : countD t.data.toList = (posD t.data.toList 0).length := by unfold countD; rw [if_pos hv]
    rw [hcd]
    go_enter Tryd.func36, Tryd.ntmps36
    go_wp2_with (go_at_call 38; refine cV.mono ?_; rintro e w1 ⟨rfl, hb⟩)
    go_loopw [3] (fun n w' => ∃ (pos : Nat) (acc : Nat), w' = w1.iter t pos ∧ n = .int .i64 (acc : Int) ∧ acc + (posD (t.data.toList.drop pos) pos).length = (posD t.data.toList 0).length ∧ acc ≤ pos) (fun _ w' => t.size - w'.iterPos w1.heap.size)
    case atStart => exact ⟨0, 0, rfl, rfl, by simp, by omega⟩
    case round =>
      obtain ⟨pos, acc, rfl, rfl, hc, hb'⟩ := hrel
      by_cases hp : pos < t.size
      · have hnx : ∀ ty, (Instr.next (.pointer (some ⟨w1.heap.size, 0, none⟩)) true ty).run Tryd.prog (w1.iter t pos) = _ := fun ty => run_next_any w1 t pos ty hp
        go_wp2
        have hne : t.data.toList.drop pos ≠ [] := by intro e; have := congrArg List.length e; rw [List.length_drop, len_list] at this; simp at this; omega
        have hwd := decodeL_width (t.data.toList.drop pos)
        rw [posD_step hne, List.drop_drop, decodeL_drop] at hc
        rw [decodeL_drop] at hwd
        refine ⟨⟨pos + (Utf8.decode t pos).2, acc + 1, rfl, rfl, ?_, by omega⟩, ?_⟩
        · rw [← hc, List.length_cons]
          simp only [Int.natCast_add]
          omega
        · simp
          omega
      · have hnx : ∀ ty, (Instr.next (.pointer (some ⟨w1.heap.size, 0, none⟩)) true ty).run Tryd.prog (w1.iter t pos) = _ := fun ty => run_next_end w1 t pos ty hp
        go_wp2
        go_ret
        have en : t.data.toList.drop pos = [] := by apply List.drop_of_length_le; rw [len_list]; omega
        rw [en, posD_nil, List.length_nil, Nat.add_zero] at hc
        rw [hc]
        exact ⟨rfl, hb.alloc hb.size _⟩
  · rw [Bool.eq_false_iff.2 hv] at cV
    have hcd : countD t.data.toList = -1 := by unfold countD; rw [if_neg hv]
    rw [hcd]
    go_enter Tryd.func36, Tryd.ntmps36
    go_wp2_with (go_at_call 38; refine cV.mono ?_; rintro e w1 ⟨rfl, hb⟩)
    go_ret
    exact ⟨rfl, hb⟩
theorem pcount_call (t : ByteArray) (ht : t.size ≤ 1000000000) : CallW env 36 [.v (.string t)] (fun r hs => r = .v (.int .i64 (countD t.data.toList)) ∧ hs = []) :=
  scal fun w hw => ⟨run_callFunc Tryd.func36 rfl rfl w, count_walk t ht w hw⟩
end Go.Proofs.YthdjbgbfboppcaaDoor.Abs

namespace Go.Proofs.YthdjbgbfboppcaaDoor.Abs
open Go
set_option maxRecDepth 100000
set_option linter.unusedSimpArgs false
set_option linter.unusedVariables false
attribute [local irreducible] Ev.Unr Ev.Go' Ev.bytK Ev.runK Ev.FinL Ev.brC Ev.Side Ev.Wp Ev.Again Ev.To Ev.Fin
open Go.Lib Go.RowKit
@[reducible] def spanA (k n : Int) (t : ByteArray) : AV := .agg [.v (.int .i64 k), .v (.int .i64 n), .v (.string t)]
def mayF (k n : Int) (t : ByteArray) : Int :=
  if k = 1 ∨ k = 3 then (if n < 0 ∨ 1048576 < n then 2 else if t = ⟨#[]⟩ then 0 else 3)
  else if k = 2 then (if n ≠ 0 then 2 else if validD t.data.toList then 0 else 3) else 1
def inF (k n : Int) : Int := if k = 1 ∨ k = 3 then n else 0
def outF (k n : Int) (t : ByteArray) : Int := if k = 1 then n else if k = 2 then max (countD t.data.toList) 0 else 0
def cc107 : CC := (.seq (.reg 0 [⟨0, some 1, (.box 35 (.tmp 0)), none⟩, ⟨1, some 2, (.assign (.const (Value.int .i64 0))), none⟩]) (.seq (.seq (.reg 1 [⟨0, some 3, (.fieldAddr 35 (.tmp 1) 0), none⟩, ⟨1, some 4, (.load 3 (.tmp 3)), none⟩, ⟨2, some 5, (.binOp .eql 3 (.tmp 4) (.const (Value.int .i64 1)) 3), none⟩, ⟨3, some 6, (.move (.tmp 5)), none⟩, ⟨4, some 7, (.fieldAddr 35 (.tmp 1) 0), (some (6, false))⟩, ⟨5, some 8, (.load 3 (.tmp 7)), (some (6, false))⟩, ⟨6, some 9, (.binOp .eql 3 (.tmp 8) (.const (Value.int .i64 3)) 3), (some (6, false))⟩, ⟨7, some 10, (.pick (.tmp 6) (.const (Value.bool true)) (.tmp 9)), none⟩]) (.cond (.tmp 10) (.seq (.reg 2 [⟨0, some 11, (.fieldAddr 35 (.tmp 1) 1), none⟩, ⟨1, some 12, (.load 3 (.tmp 11)), none⟩, ⟨2, some 2, (.assign (.tmp 12)), none⟩]) .ret) .skip)) (.seq (.reg 3 [⟨0, some 2, (.assign (.const (Value.int .i64 0))), none⟩]) .ret)))
theorem comp107 : ∀ c, Tryd.f107.body = some c → comp c = cc107 := by
  intro c h
  have : c = Tryd.f107.body.get rfl := by rw [← Option.some_inj, ← h]; rfl
  rw [this]; rfl
def cc105 : CC := (.seq (.reg 0 [⟨0, some 1, (.box 35 (.tmp 0)), none⟩, ⟨1, some 2, (.assign (.const (Value.int .i64 0))), none⟩]) (.seq (.seq (.reg 1 [⟨0, some 3, (.fieldAddr 35 (.tmp 1) 0), none⟩, ⟨1, some 4, (.load 3 (.tmp 3)), none⟩, ⟨2, some 5, (.binOp .eql 3 (.tmp 4) (.const (Value.int .i64 1)) 3), none⟩]) (.cond (.tmp 5) (.seq (.reg 2 [⟨0, some 6, (.fieldAddr 35 (.tmp 1) 1), none⟩, ⟨1, some 7, (.load 3 (.tmp 6)), none⟩, ⟨2, some 2, (.assign (.tmp 7)), none⟩]) .ret) .skip)) (.seq (.seq (.reg 3 [⟨0, some 8, (.fieldAddr 35 (.tmp 1) 0), none⟩, ⟨1, some 9, (.load 3 (.tmp 8)), none⟩, ⟨2, some 10, (.binOp .eql 3 (.tmp 9) (.const (Value.int .i64 2)) 3), none⟩]) (.cond (.tmp 10) (.seq (.reg 4 [⟨0, some 11, (.fieldAddr 35 (.tmp 1) 2), none⟩, ⟨1, some 12, (.load 9 (.tmp 11)), none⟩, ⟨2, some 13, (.call { callee := .value (.func 65), args := #[.tmp 12], argTypes := #[9] }), none⟩, ⟨3, some 14, (.call { callee := .builtin .max, args := #[.tmp 13, .const (Value.int .i64 0)], argTypes := #[3, 3] }), none⟩, ⟨4, some 2, (.assign (.tmp 14)), none⟩]) .ret) .skip)) (.seq (.reg 5 [⟨0, some 2, (.assign (.const (Value.int .i64 0))), none⟩]) .ret))))
theorem comp105 : ∀ c, Tryd.f105.body = some c → comp c = cc105 := by
  intro c h
  have : c = Tryd.f105.body.get rfl := by rw [← Option.some_inj, ← h]; rfl
  rw [this]; rfl
def cc106 : CC := (.seq (.reg 0 [⟨0, some 1, (.box 35 (.tmp 0)), none⟩, ⟨1, some 2, (.assign (.const (Value.int .i64 0))), none⟩]) (.seq (.seq (.reg 1 [⟨0, some 3, (.fieldAddr 35 (.tmp 1) 0), none⟩, ⟨1, some 4, (.load 3 (.tmp 3)), none⟩]) (.block 0 (.seq (.seq (.reg 2 [⟨0, some 6, (.binOp .eql 3 (.tmp 4) (.const (Value.int .i64 1)) 3), none⟩, ⟨1, some 5, (.assign (.tmp 6)), none⟩]) (.cond (.tmp 5) .skip (.reg 3 [⟨0, some 7, (.binOp .eql 3 (.tmp 4) (.const (Value.int .i64 3)) 3), none⟩, ⟨1, some 5, (.assign (.tmp 7)), none⟩]))) (.cond (.tmp 5) (.seq (.seq (.reg 4 [⟨0, some 8, (.fieldAddr 35 (.tmp 1) 1), none⟩, ⟨1, some 9, (.load 3 (.tmp 8)), none⟩, ⟨2, some 10, (.binOp .lss 3 (.tmp 9) (.const (Value.int .i64 0)) 3), none⟩, ⟨3, some 11, (.move (.tmp 10)), none⟩, ⟨4, some 12, (.fieldAddr 35 (.tmp 1) 1), (some (11, false))⟩, ⟨5, some 13, (.load 3 (.tmp 12)), (some (11, false))⟩, ⟨6, some 14, (.binOp .gtr 3 (.tmp 13) (.const (Value.int .i64 1048576)) 3), (some (11, false))⟩, ⟨7, some 15, (.pick (.tmp 11) (.const (Value.bool true)) (.tmp 14)), none⟩]) (.cond (.tmp 15) (.seq (.reg 5 [⟨0, some 2, (.assign (.const (Value.int .i64 2))), none⟩]) .ret) .skip)) (.seq (.seq (.reg 6 [⟨0, some 16, (.fieldAddr 35 (.tmp 1) 2), none⟩, ⟨1, some 17, (.load 9 (.tmp 16)), none⟩, ⟨2, some 18, (.binOp .neq 9 (.tmp 17) (.const (Value.string { data := #[] })) 9), none⟩]) (.cond (.tmp 18) (.seq (.reg 7 [⟨0, some 2, (.assign (.const (Value.int .i64 3))), none⟩]) .ret) .skip)) (.seq (.reg 8 [⟨0, some 2, (.assign (.const (Value.int .i64 0))), none⟩]) .ret))) (.seq (.reg 9 [⟨0, some 20, (.binOp .eql 3 (.tmp 4) (.const (Value.int .i64 2)) 3), none⟩, ⟨1, some 19, (.assign (.tmp 20)), none⟩]) (.cond (.tmp 19) (.seq (.seq (.reg 10 [⟨0, some 21, (.fieldAddr 35 (.tmp 1) 1), none⟩, ⟨1, some 22, (.load 3 (.tmp 21)), none⟩, ⟨2, some 23, (.binOp .neq 3 (.tmp 22) (.const (Value.int .i64 0)) 3), none⟩]) (.cond (.tmp 23) (.seq (.reg 11 [⟨0, some 2, (.assign (.const (Value.int .i64 2))), none⟩]) .ret) .skip)) (.seq (.seq (.reg 12 [⟨0, some 24, (.fieldAddr 35 (.tmp 1) 2), none⟩, ⟨1, some 25, (.load 9 (.tmp 24)), none⟩, ⟨2, some 26, (.call { callee := .value (.func 71), args := #[.tmp 25], argTypes := #[9] }), none⟩, ⟨3, some 27, (.unOp .not 4 (.tmp 26)), none⟩]) (.cond (.tmp 27) (.seq (.reg 13 [⟨0, some 2, (.assign (.const (Value.int .i64 3))), none⟩]) .ret) .skip)) (.seq (.reg 14 [⟨0, some 2, (.assign (.const (Value.int .i64 0))), none⟩]) .ret))) .skip)))))) (.seq (.reg 15 [⟨0, some 2, (.assign (.const (Value.int .i64 1))), none⟩]) .ret)))
theorem comp106 : ∀ c, Tryd.f106.body = some c → comp c = cc106 := by
  intro c h
  have : c = Tryd.f106.body.get rfl := by rw [← Option.some_inj, ← h]; rfl
  rw [this]; rfl
def cc116 : CC := (.seq (.reg 0 [⟨0, some 1, (.box 35 (.tmp 0)), none⟩, ⟨1, some 2, (.alloc 134), none⟩, ⟨2, some 3, (.assign (.const (Value.bool false))), none⟩]) (.seq (.seq (.reg 1 [⟨0, some 4, (.fieldAddr 35 (.tmp 1) 0), none⟩, ⟨1, some 5, (.load 3 (.tmp 4)), none⟩, ⟨2, some 6, (.binOp .lss 3 (.tmp 5) (.const (Value.int .i64 1)) 3), none⟩, ⟨3, some 7, (.move (.tmp 6)), none⟩, ⟨4, some 8, (.fieldAddr 35 (.tmp 1) 0), (some (7, false))⟩, ⟨5, some 9, (.load 3 (.tmp 8)), (some (7, false))⟩, ⟨6, some 10, (.binOp .gtr 3 (.tmp 9) (.const (Value.int .i64 3)) 3), (some (7, false))⟩, ⟨7, some 11, (.pick (.tmp 7) (.const (Value.bool true)) (.tmp 10)), none⟩]) (.cond (.tmp 11) (.seq (.reg 2 [⟨0, some 12, (.build 134 #[]), none⟩, ⟨1, none, (.store 134 (.tmp 2) (.tmp 12)), none⟩, ⟨2, some 3, (.assign (.const (Value.bool false))), none⟩]) .ret) .skip)) (.seq (.reg 3 [⟨0, some 13, (.fieldAddr 35 (.tmp 1) 0), none⟩, ⟨1, some 14, (.load 3 (.tmp 13)), none⟩, ⟨2, some 15, (.indexAddr 145 (.global 2) (.tmp 14)), none⟩, ⟨3, some 16, (.load 134 (.tmp 15)), none⟩, ⟨4, none, (.store 134 (.tmp 2) (.tmp 16)), none⟩, ⟨5, some 3, (.assign (.const (Value.bool true))), none⟩]) .ret)))
theorem comp116 : ∀ c, Tryd.f116.body = some c → comp c = cc116 := by
  intro c h
  have : c = Tryd.f116.body.get rfl := by rw [← Option.some_inj, ← h]; rfl
  rw [this]; rfl
def cc109 : CC := (.seq (.reg 0 [⟨0, some 1, (.box 35 (.tmp 0)), none⟩, ⟨1, some 2, (.assign (.const (Value.int .i64 0))), none⟩]) (.seq (.seq (.reg 1 [⟨0, some 6, (.load 35 (.tmp 1)), none⟩, ⟨1, some 7, (.call { callee := .value (.func 116), args := #[.tmp 6], argTypes := #[35] }), none⟩, ⟨2, some 5, (.move (.tmp 7)), none⟩, ⟨3, some 8, (.extract (.tmp 5) 0), none⟩, ⟨4, some 9, (.extract (.tmp 5) 1), none⟩, ⟨5, some 3, (.alloc 134), none⟩, ⟨6, none, (.store 134 (.tmp 3) (.tmp 8)), none⟩, ⟨7, some 4, (.assign (.tmp 9)), none⟩]) (.seq (.reg 2 [⟨0, some 10, (.fieldAddr 134 (.tmp 3) 0), none⟩, ⟨1, some 11, (.load 4 (.tmp 10)), none⟩]) (.cond (.tmp 11) (.seq (.reg 3 [⟨0, some 12, (.fieldAddr 35 (.tmp 1) 1), none⟩, ⟨1, some 13, (.load 3 (.tmp 12)), none⟩, ⟨2, some 2, (.assign (.tmp 13)), none⟩]) .ret) .skip))) (.seq (.reg 4 [⟨0, some 2, (.assign (.const (Value.int .i64 0))), none⟩]) .ret)))
theorem comp109 : ∀ c, Tryd.f109.body = some c → comp c = cc109 := by
  intro c h
  have : c = Tryd.f109.body.get rfl := by rw [← Option.some_inj, ← h]; rfl
  rw [this]; rfl
def cc120 : CC := (.seq (.reg 0 [⟨0, some 1, (.box 35 (.tmp 0)), none⟩, ⟨1, some 2, (.assign (.const (Value.int .i64 0))), none⟩]) (.seq (.reg 1 [⟨0, some 6, (.load 35 (.tmp 1)), none⟩, ⟨1, some 7, (.call { callee := .value (.func 116), args := #[.tmp 6], argTypes := #[35] }), none⟩, ⟨2, some 5, (.move (.tmp 7)), none⟩, ⟨3, some 8, (.extract (.tmp 5) 0), none⟩, ⟨4, some 9, (.extract (.tmp 5) 1), none⟩, ⟨5, some 3, (.alloc 134), none⟩, ⟨6, none, (.store 134 (.tmp 3) (.tmp 8)), none⟩, ⟨7, some 4, (.assign (.tmp 9)), none⟩]) (.seq (.block 0 (.seq (.reg 2 [⟨0, some 11, (.fieldAddr 134 (.tmp 3) 1), none⟩, ⟨1, some 12, (.load 4 (.tmp 11)), none⟩, ⟨2, some 10, (.assign (.tmp 12)), none⟩]) (.cond (.tmp 10) (.seq (.reg 3 [⟨0, some 13, (.fieldAddr 35 (.tmp 1) 1), none⟩, ⟨1, some 14, (.load 3 (.tmp 13)), none⟩, ⟨2, some 2, (.assign (.tmp 14)), none⟩]) .ret) (.seq (.reg 4 [⟨0, some 16, (.fieldAddr 35 (.tmp 1) 0), none⟩, ⟨1, some 17, (.load 3 (.tmp 16)), none⟩, ⟨2, some 18, (.binOp .eql 3 (.tmp 17) (.const (Value.int .i64 2)) 3), none⟩, ⟨3, some 15, (.assign (.tmp 18)), none⟩]) (.cond (.tmp 15) (.seq (.reg 5 [⟨0, some 19, (.fieldAddr 35 (.tmp 1) 2), none⟩, ⟨1, some 20, (.load 9 (.tmp 19)), none⟩, ⟨2, some 21, (.call { callee := .value (.func 36), args := #[.tmp 20], argTypes := #[9] }), none⟩, ⟨3, some 22, (.call { callee := .builtin .max, args := #[.tmp 21, .const (Value.int .i64 0)], argTypes := #[3, 3] }), none⟩, ⟨4, some 2, (.assign (.tmp 22)), none⟩]) .ret) .skip))))) (.seq (.reg 6 [⟨0, some 2, (.assign (.const (Value.int .i64 0))), none⟩]) .ret))))
theorem comp120 : ∀ c, Tryd.f120.body = some c → comp c = cc120 := by
  intro c h
  have : c = Tryd.f120.body.get rfl := by rw [← Option.some_inj, ← h]; rfl
  rw [this]; rfl
def cc91 : CC := (.seq (.reg 0 [⟨0, some 1, (.box 35 (.tmp 0)), none⟩, ⟨1, some 2, (.assign (.const (Value.int .i64 0))), none⟩]) (.seq (.reg 1 [⟨0, some 6, (.load 35 (.tmp 1)), none⟩, ⟨1, some 7, (.call { callee := .value (.func 116), args := #[.tmp 6], argTypes := #[35] }), none⟩, ⟨2, some 5, (.move (.tmp 7)), none⟩, ⟨3, some 8, (.extract (.tmp 5) 0), none⟩, ⟨4, some 9, (.extract (.tmp 5) 1), none⟩, ⟨5, some 3, (.alloc 134), none⟩, ⟨6, none, (.store 134 (.tmp 3) (.tmp 8)), none⟩, ⟨7, some 4, (.assign (.tmp 9)), none⟩]) (.seq (.block 0 (.seq (.reg 2 [⟨0, some 11, (.move (.tmp 4)), none⟩, ⟨1, some 12, (.unOp .not 4 (.tmp 11)), none⟩, ⟨2, some 10, (.assign (.tmp 12)), none⟩]) (.cond (.tmp 10) (.seq (.reg 3 [⟨0, some 2, (.assign (.const (Value.int .i64 1))), none⟩]) .ret) (.seq (.seq (.reg 4 [⟨0, some 14, (.fieldAddr 134 (.tmp 3) 0), none⟩, ⟨1, some 15, (.load 4 (.tmp 14)), none⟩, ⟨2, some 16, (.move (.tmp 15)), none⟩, ⟨3, some 17, (.fieldAddr 35 (.tmp 1) 1), (some (16, true))⟩, ⟨4, some 18, (.load 3 (.tmp 17)), (some (16, true))⟩, ⟨5, some 19, (.binOp .lss 3 (.tmp 18) (.const (Value.int .i64 0)) 3), (some (16, true))⟩, ⟨6, some 20, (.move (.tmp 19)), (some (16, true))⟩, ⟨7, some 21, (.fieldAddr 35 (.tmp 1) 1), (some (20, false))⟩, ⟨8, some 22, (.load 3 (.tmp 21)), (some (20, false))⟩, ⟨9, some 23, (.binOp .gtr 3 (.tmp 22) (.const (Value.int .i64 1048576)) 3), (some (20, false))⟩, ⟨10, some 24, (.pick (.tmp 20) (.const (Value.bool true)) (.tmp 23)), (some (16, true))⟩, ⟨11, some 25, (.pick (.tmp 16) (.tmp 24) (.const (Value.bool false))), none⟩, ⟨12, some 13, (.assign (.tmp 25)), none⟩]) (.cond (.tmp 13) .skip (.reg 5 [⟨0, some 26, (.fieldAddr 134 (.tmp 3) 0), none⟩, ⟨1, some 27, (.load 4 (.tmp 26)), none⟩, ⟨2, some 28, (.unOp .not 4 (.tmp 27)), none⟩, ⟨3, some 29, (.move (.tmp 28)), none⟩, ⟨4, some 30, (.fieldAddr 35 (.tmp 1) 1), (some (29, true))⟩, ⟨5, some 31, (.load 3 (.tmp 30)), (some (29, true))⟩, ⟨6, some 32, (.binOp .neq 3 (.tmp 31) (.const (Value.int .i64 0)) 3), (some (29, true))⟩, ⟨7, some 33, (.pick (.tmp 29) (.tmp 32) (.const (Value.bool false))), none⟩, ⟨8, some 13, (.assign (.tmp 33)), none⟩]))) (.cond (.tmp 13) (.seq (.reg 6 [⟨0, some 2, (.assign (.const (Value.int .i64 2))), none⟩]) .ret) (.seq (.seq (.reg 7 [⟨0, some 35, (.fieldAddr 134 (.tmp 3) 0), none⟩, ⟨1, some 36, (.load 4 (.tmp 35)), none⟩, ⟨2, some 37, (.move (.tmp 36)), none⟩, ⟨3, some 38, (.fieldAddr 35 (.tmp 1) 2), (some (37, true))⟩, ⟨4, some 39, (.load 9 (.tmp 38)), (some (37, true))⟩, ⟨5, some 40, (.binOp .neq 9 (.tmp 39) (.const (Value.string { data := #[] })) 9), (some (37, true))⟩, ⟨6, some 41, (.pick (.tmp 37) (.tmp 40) (.const (Value.bool false))), none⟩, ⟨7, some 34, (.assign (.tmp 41)), none⟩]) (.cond (.tmp 34) .skip (.reg 8 [⟨0, some 42, (.fieldAddr 35 (.tmp 1) 2), none⟩, ⟨1, some 43, (.load 9 (.tmp 42)), none⟩, ⟨2, some 44, (.call { callee := .value (.func 38), args := #[.tmp 43], argTypes := #[9] }), none⟩, ⟨3, some 45, (.unOp .not 4 (.tmp 44)), none⟩, ⟨4, some 34, (.assign (.tmp 45)), none⟩]))) (.cond (.tmp 34) (.seq (.reg 9 [⟨0, some 2, (.assign (.const (Value.int .i64 3))), none⟩]) .ret) .skip))))))) (.seq (.reg 10 [⟨0, some 2, (.assign (.const (Value.int .i64 0))), none⟩]) .ret))))
theorem comp91 : ∀ c, Tryd.f91.body = some c → comp c = cc91 := by
  intro c h
  have : c = Tryd.f91.body.get rfl := by rw [← Option.some_inj, ← h]; rfl
  rw [this]; rfl
theorem rin_call (k n : Int) (t : ByteArray) : CallW env 107 [spanA k n t] (fun r hs => r = .v (.int .i64 (inF k n)) ∧ hs = []) := by
  refine Ev.func tabOK [0, 1, 2, 10] 0 Tryd.func107 rfl rfl (by simp [Tryd.ntmps107]) (by rfl) (comp107 _ rfl) (rs := [.tmp 2]) rfl ?_; rw [cc107]; show Ev.Wp _ _ _ _ ⟨[(0, _)], [], 0⟩
  repeat' (first | ((with_reducible first | refine Ev.sided ?_ ?_ | refine Ev.w_put ?_ | refine Ev.w_step ?_ | refine Ev.w_opt ?_); (conv => whnf)) | ((with_reducible refine Ev.chk_k ?_ ?_); rotate_left; (focus first | rfl | (simp only [Ev.nbeq, Bool.and_true, Bool.true_and, Bool.not_false]; done) | ((repeat' (first | exact Ev.nbeq _ | rfl | refine Bool.and_eq_true_iff.2 ⟨?_, ?_⟩)); done)); conv => whnf) | (with_reducible first | refine Ev.c_dec (fun _ => ?_) (fun _ => ?_) | refine Ev.c_not ?_ | refine Ev.c_t ?_ | refine Ev.c_f ?_ | refine Ev.c_br (fun _ => ?_) (fun _ => ?_)) | ((with_reducible refine Ev.br_not ?_); conv => whnf) | (with_reducible first | refine Ev.br_dec (fun _ => ?_) (fun _ => ?_) | refine Ev.br (fun _ => ?_) (fun _ => ?_) | refine Ev.eo_ret ?_ | refine Ev.eo_norm ?_ | refine Ev.t_norm ?_ | refine Ev.k_seq ?_) | ((with_reducible refine Ev.k_reg (hs := []) (tabOK' _ _) (fun Q hQ => ?_)); (simp only [Ev.runE_cons, Ev.runE_nil]); conv => whnf) | (with_reducible refine hQ _ ?_; clear hQ Q) | (with_reducible first | refine Ev.k_cond rfl ?_ | refine Ev.k_skip ?_ | refine Ev.k_block ?_ | refine Ev.k_exit ?_ | refine Ev.k_ret ?_ | refine Ev.t_ret ?_ | refine Ev.t_exit ?_ | refine Ev.b_norm ?_ | refine Ev.b_ret ?_ | refine Ev.b_here ?_ | refine Ev.b_off rfl ?_) | ((with_reducible first | refine Ev.e_ret (fun F hF => ?_) | refine Ev.e_norm (fun F hF => ?_) | refine Ev.eh_ret (fun F hF => ?_) | refine Ev.eh_norm (fun F hF => ?_) | refine Ev.go_k (fun c' => ?_) | refine Ev.byt_cut ?_ | refine Ev.byt_all ?_ | refine Ev.run_cut ?_ | refine Ev.run_all ?_); conv => whnf) | (with_reducible refine hF _ ?_; clear hF F) | (with_reducible refine Ev.u_step ?_) | (refine Ev.Side.of ?_; exact Nat.le_of_ble_eq_true rfl))
  all_goals (refine ⟨congrArg (fun z => AV.v (Value.int IntKind.i64 z)) ?_, rfl⟩; unfold inF; split <;> omega)
theorem rout_call (k n : Int) (t : ByteArray) (ht : t.size ≤ 1000000000) : CallW env 105 [spanA k n t] (fun r hs => r = .v (.int .i64 (outF k n t)) ∧ hs = []) := by
  refine Ev.func tabOK [0, 1, 2, 5, 10] 0 Tryd.func105 rfl rfl (by simp [Tryd.ntmps105]) (by rfl) (comp105 _ rfl) (rs := [.tmp 2]) rfl ?_; rw [cc105]; show Ev.Wp _ _ _ _ ⟨[(0, _)], [], 0⟩
  repeat' (first | ((with_reducible first | refine Ev.sided ?_ ?_ | refine Ev.w_put ?_ | refine Ev.w_step ?_ | refine Ev.w_opt ?_); (conv => whnf)) | ((with_reducible refine Ev.chk_k ?_ ?_); rotate_left; (focus first | rfl | (simp only [Ev.nbeq, Bool.and_true, Bool.true_and, Bool.not_false]; done) | ((repeat' (first | exact Ev.nbeq _ | rfl | refine Bool.and_eq_true_iff.2 ⟨?_, ?_⟩)); done)); conv => whnf) | (with_reducible first | refine Ev.c_dec (fun _ => ?_) (fun _ => ?_) | refine Ev.c_not ?_ | refine Ev.c_t ?_ | refine Ev.c_f ?_ | refine Ev.c_br (fun _ => ?_) (fun _ => ?_)) | ((with_reducible refine Ev.br_not ?_); conv => whnf) | (with_reducible first | refine Ev.br_dec (fun _ => ?_) (fun _ => ?_) | refine Ev.br (fun _ => ?_) (fun _ => ?_) | refine Ev.eo_ret ?_ | refine Ev.eo_norm ?_ | refine Ev.t_norm ?_ | refine Ev.k_seq ?_) | ((with_reducible refine Ev.k_reg (hs := []) (tabOK' _ _) (fun Q hQ => ?_)); (simp only [Ev.runE_cons, Ev.runE_nil]); conv => whnf) | (with_reducible refine hQ _ ?_; clear hQ Q) | (with_reducible first | refine Ev.k_cond rfl ?_ | refine Ev.k_skip ?_ | refine Ev.k_block ?_ | refine Ev.k_exit ?_ | refine Ev.k_ret ?_ | refine Ev.t_ret ?_ | refine Ev.t_exit ?_ | refine Ev.b_norm ?_ | refine Ev.b_ret ?_ | refine Ev.b_here ?_ | refine Ev.b_off rfl ?_) | ((with_reducible first | refine Ev.e_ret (fun F hF => ?_) | refine Ev.e_norm (fun F hF => ?_) | refine Ev.eh_ret (fun F hF => ?_) | refine Ev.eh_norm (fun F hF => ?_) | refine Ev.go_k (fun c' => ?_) | refine Ev.byt_cut ?_ | refine Ev.byt_all ?_ | refine Ev.run_cut ?_ | refine Ev.run_all ?_); conv => whnf) | (with_reducible refine hF _ ?_; clear hF F) | (with_reducible refine Ev.u_step ?_) | ((refine Ev.call_det (rcount_call t ht) rfl rfl ?_); conv => whnf) | (refine Ev.Side.of ?_; exact Nat.le_of_ble_eq_true rfl))
  all_goals (refine ⟨congrArg (fun z => AV.v (Value.int IntKind.i64 z)) ?_, rfl⟩; unfold outF; simp only [*, if_true, if_false, reduceIte, Int.reduceEq])
theorem rmay_call (k n : Int) (t : ByteArray) (ht : t.size ≤ 1000000000) : CallW env 106 [spanA k n t] (fun r hs => r = .v (.int .i64 (mayF k n t)) ∧ hs = []) := by
  refine Ev.func tabOK [0, 1, 2, 4, 5, 15, 18, 19, 23, 27] 0 Tryd.func106 rfl rfl (by simp [Tryd.ntmps106]) (by rfl) (comp106 _ rfl) (rs := [.tmp 2]) rfl ?_; rw [cc106]; show Ev.Wp _ _ _ _ ⟨[(0, _)], [], 0⟩
  repeat' (first | ((with_reducible first | refine Ev.sided ?_ ?_ | refine Ev.w_put ?_ | refine Ev.w_step ?_ | refine Ev.w_opt ?_); (conv => whnf)) | ((with_reducible refine Ev.chk_k ?_ ?_); rotate_left; (focus first | rfl | (simp only [Ev.nbeq, Bool.and_true, Bool.true_and, Bool.not_false]; done) | ((repeat' (first | exact Ev.nbeq _ | rfl | refine Bool.and_eq_true_iff.2 ⟨?_, ?_⟩)); done)); conv => whnf) | (with_reducible first | refine Ev.c_dec (fun _ => ?_) (fun _ => ?_) | refine Ev.c_not ?_ | refine Ev.c_t ?_ | refine Ev.c_f ?_ | refine Ev.c_br (fun _ => ?_) (fun _ => ?_)) | ((with_reducible refine Ev.br_not ?_); conv => whnf) | (with_reducible first | refine Ev.br_dec (fun _ => ?_) (fun _ => ?_) | refine Ev.br (fun _ => ?_) (fun _ => ?_) | refine Ev.eo_ret ?_ | refine Ev.eo_norm ?_ | refine Ev.t_norm ?_ | refine Ev.k_seq ?_) | ((with_reducible refine Ev.k_reg (hs := []) (tabOK' _ _) (fun Q hQ => ?_)); (simp only [Ev.runE_cons, Ev.runE_nil]); conv => whnf) | (with_reducible refine hQ _ ?_; clear hQ Q) | (with_reducible first | refine Ev.k_cond rfl ?_ | refine Ev.k_skip ?_ | refine Ev.k_block ?_ | refine Ev.k_exit ?_ | refine Ev.k_ret ?_ | refine Ev.t_ret ?_ | refine Ev.t_exit ?_ | refine Ev.b_norm ?_ | refine Ev.b_ret ?_ | refine Ev.b_here ?_ | refine Ev.b_off rfl ?_) | ((with_reducible first | refine Ev.e_ret (fun F hF => ?_) | refine Ev.e_norm (fun F hF => ?_) | refine Ev.eh_ret (fun F hF => ?_) | refine Ev.eh_norm (fun F hF => ?_) | refine Ev.go_k (fun c' => ?_) | refine Ev.byt_cut ?_ | refine Ev.byt_all ?_ | refine Ev.run_cut ?_ | refine Ev.run_all ?_); conv => whnf) | (with_reducible refine hF _ ?_; clear hF F) | (with_reducible refine Ev.u_step ?_) | ((refine Ev.call_det (rvalid_call t ht) rfl rfl ?_); conv => whnf) | (refine Ev.Side.of ?_; exact Nat.le_of_ble_eq_true rfl))
  all_goals first
    | (exfalso; omega)
    | (refine ⟨congrArg (fun z => AV.v (Value.int IntKind.i64 z)) ?_, rfl⟩; unfold mayF; simp [*])
theorem of_call (k n : Int) (t : ByteArray) : CallW env 116 [spanA k n t] (fun r hs => r = .tup [.agg [.v (.bool (decide (k = 1 ∨ k = 3))), .v (.bool (decide (k = 1)))], .v (.bool (decide (1 ≤ k ∧ k ≤ 3)))] ∧ hs = []) := by
  have hk : k = 1 ∨ k = 2 ∨ k = 3 ∨ k < 1 ∨ 3 < k := by omega
  rcases hk with rfl | rfl | rfl | hk
  · refine Ev.func tabOK [0, 1, 2, 3, 11] 0 Tryd.func116 rfl rfl (by simp [Tryd.ntmps116]) (by rfl) (comp116 _ rfl) (rs := [.cell 2 134, .tmp 3]) rfl ?_; rw [cc116]; show Ev.Wp _ _ _ _ ⟨[(0, _)], [], 0⟩
    repeat' (first | ((with_reducible first | refine Ev.sided ?_ ?_ | refine Ev.w_put ?_ | refine Ev.w_step ?_ | refine Ev.w_opt ?_); (conv => whnf)) | ((with_reducible refine Ev.chk_k ?_ ?_); rotate_left; (focus first | rfl | (simp only [Ev.nbeq, Bool.and_true, Bool.true_and, Bool.not_false]; done) | ((repeat' (first | exact Ev.nbeq _ | rfl | refine Bool.and_eq_true_iff.2 ⟨?_, ?_⟩)); done)); conv => whnf) | (with_reducible first | refine Ev.c_dec (fun _ => ?_) (fun _ => ?_) | refine Ev.c_not ?_ | refine Ev.c_t ?_ | refine Ev.c_f ?_ | refine Ev.c_br (fun _ => ?_) (fun _ => ?_)) | ((with_reducible refine Ev.br_not ?_); conv => whnf) | (with_reducible first | refine Ev.br_dec (fun _ => ?_) (fun _ => ?_) | refine Ev.br (fun _ => ?_) (fun _ => ?_) | refine Ev.eo_ret ?_ | refine Ev.eo_norm ?_ | refine Ev.t_norm ?_ | refine Ev.k_seq ?_) | ((with_reducible refine Ev.k_reg (hs := []) (tabOK' _ _) (fun Q hQ => ?_)); (simp only [Ev.runE_cons, Ev.runE_nil]); conv => whnf) | (with_reducible refine hQ _ ?_; clear hQ Q) | (with_reducible first | refine Ev.k_cond rfl ?_ | refine Ev.k_skip ?_ | refine Ev.k_block ?_ | refine Ev.k_exit ?_ | refine Ev.k_ret ?_ | refine Ev.t_ret ?_ | refine Ev.t_exit ?_ | refine Ev.b_norm ?_ | refine Ev.b_ret ?_ | refine Ev.b_here ?_ | refine Ev.b_off rfl ?_) | ((with_reducible first | refine Ev.e_ret (fun F hF => ?_) | refine Ev.e_norm (fun F hF => ?_) | refine Ev.eh_ret (fun F hF => ?_) | refine Ev.eh_norm (fun F hF => ?_) | refine Ev.go_k (fun c' => ?_) | refine Ev.byt_cut ?_ | refine Ev.byt_all ?_ | refine Ev.run_cut ?_ | refine Ev.run_all ?_); conv => whnf) | (with_reducible refine hF _ ?_; clear hF F) | (with_reducible refine Ev.u_step ?_) | (refine Ev.Side.of ?_; exact Nat.le_of_ble_eq_true rfl))
    all_goals first | (exfalso; omega) | exact ⟨rfl, rfl⟩ | (refine Ev.Side.of ?_; decide)
  · refine Ev.func tabOK [0, 1, 2, 3, 11] 0 Tryd.func116 rfl rfl (by simp [Tryd.ntmps116]) (by rfl) (comp116 _ rfl) (rs := [.cell 2 134, .tmp 3]) rfl ?_; rw [cc116]; show Ev.Wp _ _ _ _ ⟨[(0, _)], [], 0⟩
    repeat' (first | ((with_reducible first | refine Ev.sided ?_ ?_ | refine Ev.w_put ?_ | refine Ev.w_step ?_ | refine Ev.w_opt ?_); (conv => whnf)) | ((with_reducible refine Ev.chk_k ?_ ?_); rotate_left; (focus first | rfl | (simp only [Ev.nbeq, Bool.and_true, Bool.true_and, Bool.not_false]; done) | ((repeat' (first | exact Ev.nbeq _ | rfl | refine Bool.and_eq_true_iff.2 ⟨?_, ?_⟩)); done)); conv => whnf) | (with_reducible first | refine Ev.c_dec (fun _ => ?_) (fun _ => ?_) | refine Ev.c_not ?_ | refine Ev.c_t ?_ | refine Ev.c_f ?_ | refine Ev.c_br (fun _ => ?_) (fun _ => ?_)) | ((with_reducible refine Ev.br_not ?_); conv => whnf) | (with_reducible first | refine Ev.br_dec (fun _ => ?_) (fun _ => ?_) | refine Ev.br (fun _ => ?_) (fun _ => ?_) | refine Ev.eo_ret ?_ | refine Ev.eo_norm ?_ | refine Ev.t_norm ?_ | refine Ev.k_seq ?_) | ((with_reducible refine Ev.k_reg (hs := []) (tabOK' _ _) (fun Q hQ => ?_)); (simp only [Ev.runE_cons, Ev.runE_nil]); conv => whnf) | (with_reducible refine hQ _ ?_; clear hQ Q) | (with_reducible first | refine Ev.k_cond rfl ?_ | refine Ev.k_skip ?_ | refine Ev.k_block ?_ | refine Ev.k_exit ?_ | refine Ev.k_ret ?_ | refine Ev.t_ret ?_ | refine Ev.t_exit ?_ | refine Ev.b_norm ?_ | refine Ev.b_ret ?_ | refine Ev.b_here ?_ | refine Ev.b_off rfl ?_) | ((with_reducible first | refine Ev.e_ret (fun F hF => ?_) | refine Ev.e_norm (fun F hF => ?_) | refine Ev.eh_ret (fun F hF => ?_) | refine Ev.eh_norm (fun F hF => ?_) | refine Ev.go_k (fun c' => ?_) | refine Ev.byt_cut ?_ | refine Ev.byt_all ?_ | refine Ev.run_cut ?_ | refine Ev.run_all ?_); conv => whnf) | (with_reducible refine hF _ ?_; clear hF F) | (with_reducible refine Ev.u_step ?_) | (refine Ev.Side.of ?_; exact Nat.le_of_ble_eq_true rfl))
    all_goals first | (exfalso; omega) | exact ⟨rfl, rfl⟩ | (refine Ev.Side.of ?_; decide)
  · refine Ev.func tabOK [0, 1, 2, 3, 11] 0 Tryd.func116 rfl rfl (by simp [Tryd.ntmps116]) (by rfl) (comp116 _ rfl) (rs := [.cell 2 134, .tmp 3]) rfl ?_; rw [cc116]; show Ev.Wp _ _ _ _ ⟨[(0, _)], [], 0⟩
    repeat' (first | ((with_reducible first | refine Ev.sided ?_ ?_ | refine Ev.w_put ?_ | refine Ev.w_step ?_ | refine Ev.w_opt ?_); (conv => whnf)) | ((with_reducible refine Ev.chk_k ?_ ?_); rotate_left; (focus first | rfl | (simp only [Ev.nbeq, Bool.and_true, Bool.true_and, Bool.not_false]; done) | ((repeat' (first | exact Ev.nbeq _ | rfl | refine Bool.and_eq_true_iff.2 ⟨?_, ?_⟩)); done)); conv => whnf) | (with_reducible first | refine Ev.c_dec (fun _ => ?_) (fun _ => ?_) | refine Ev.c_not ?_ | refine Ev.c_t ?_ | refine Ev.c_f ?_ | refine Ev.c_br (fun _ => ?_) (fun _ => ?_)) | ((with_reducible refine Ev.br_not ?_); conv => whnf) | (with_reducible first | refine Ev.br_dec (fun _ => ?_) (fun _ => ?_) | refine Ev.br (fun _ => ?_) (fun _ => ?_) | refine Ev.eo_ret ?_ | refine Ev.eo_norm ?_ | refine Ev.t_norm ?_ | refine Ev.k_seq ?_) | ((with_reducible refine Ev.k_reg (hs := []) (tabOK' _ _) (fun Q hQ => ?_)); (simp only [Ev.runE_cons, Ev.runE_nil]); conv => whnf) | (with_reducible refine hQ _ ?_; clear hQ Q) | (with_reducible first | refine Ev.k_cond rfl ?_ | refine Ev.k_skip ?_ | refine Ev.k_block ?_ | refine Ev.k_exit ?_ | refine Ev.k_ret ?_ | refine Ev.t_ret ?_ | refine Ev.t_exit ?_ | refine Ev.b_norm ?_ | refine Ev.b_ret ?_ | refine Ev.b_here ?_ | refine Ev.b_off rfl ?_) | ((with_reducible first | refine Ev.e_ret (fun F hF => ?_) | refine Ev.e_norm (fun F hF => ?_) | refine Ev.eh_ret (fun F hF => ?_) | refine Ev.eh_norm (fun F hF => ?_) | refine Ev.go_k (fun c' => ?_) | refine Ev.byt_cut ?_ | refine Ev.byt_all ?_ | refine Ev.run_cut ?_ | refine Ev.run_all ?_); conv => whnf) | (with_reducible refine hF _ ?_; clear hF F) | (with_reducible refine Ev.u_step ?_) | (refine Ev.Side.of ?_; exact Nat.le_of_ble_eq_true rfl))
    all_goals first | (exfalso; omega) | exact ⟨rfl, rfl⟩ | (refine Ev.Side.of ?_; decide)
  · rw [decide_eq_false (p := k = 1 ∨ k = 3) (by omega), decide_eq_false (p := k = 1) (by omega), decide_eq_false (p := 1 ≤ k ∧ k ≤ 3) (by omega)]
    refine Ev.func tabOK [0, 1, 2, 3, 11] 0 Tryd.func116 rfl rfl (by simp [Tryd.ntmps116]) (by rfl) (comp116 _ rfl) (rs := [.cell 2 134, .tmp 3]) rfl ?_; rw [cc116]; show Ev.Wp _ _ _ _ ⟨[(0, _)], [], 0⟩
    repeat' (first | ((with_reducible first | refine Ev.sided ?_ ?_ | refine Ev.w_put ?_ | refine Ev.w_step ?_ | refine Ev.w_opt ?_); (conv => whnf)) | ((with_reducible refine Ev.chk_k ?_ ?_); rotate_left; (focus first | rfl | (simp only [Ev.nbeq, Bool.and_true, Bool.true_and, Bool.not_false]; done) | ((repeat' (first | exact Ev.nbeq _ | rfl | refine Bool.and_eq_true_iff.2 ⟨?_, ?_⟩)); done)); conv => whnf) | (with_reducible first | refine Ev.c_dec (fun _ => ?_) (fun _ => ?_) | refine Ev.c_not ?_ | refine Ev.c_t ?_ | refine Ev.c_f ?_ | refine Ev.c_br (fun _ => ?_) (fun _ => ?_)) | ((with_reducible refine Ev.br_not ?_); conv => whnf) | (with_reducible first | refine Ev.br_dec (fun _ => ?_) (fun _ => ?_) | refine Ev.br (fun _ => ?_) (fun _ => ?_) | refine Ev.eo_ret ?_ | refine Ev.eo_norm ?_ | refine Ev.t_norm ?_ | refine Ev.k_seq ?_) | ((with_reducible refine Ev.k_reg (hs := []) (tabOK' _ _) (fun Q hQ => ?_)); (simp only [Ev.runE_cons, Ev.runE_nil]); conv => whnf) | (with_reducible refine hQ _ ?_; clear hQ Q) | (with_reducible first | refine Ev.k_cond rfl ?_ | refine Ev.k_skip ?_ | refine Ev.k_block ?_ | refine Ev.k_exit ?_ | refine Ev.k_ret ?_ | refine Ev.t_ret ?_ | refine Ev.t_exit ?_ | refine Ev.b_norm ?_ | refine Ev.b_ret ?_ | refine Ev.b_here ?_ | refine Ev.b_off rfl ?_) | ((with_reducible first | refine Ev.e_ret (fun F hF => ?_) | refine Ev.e_norm (fun F hF => ?_) | refine Ev.eh_ret (fun F hF => ?_) | refine Ev.eh_norm (fun F hF => ?_) | refine Ev.go_k (fun c' => ?_) | refine Ev.byt_cut ?_ | refine Ev.byt_all ?_ | refine Ev.run_cut ?_ | refine Ev.run_all ?_); conv => whnf) | (with_reducible refine hF _ ?_; clear hF F) | (with_reducible refine Ev.u_step ?_) | (refine Ev.Side.of ?_; exact Nat.le_of_ble_eq_true rfl))
    all_goals first | exact ⟨rfl, rfl⟩ | (exfalso; omega)
theorem in_call (k n : Int) (t : ByteArray) : CallW env 109 [spanA k n t] (fun r hs => r = .v (.int .i64 (inF k n)) ∧ hs = []) := by
  refine Ev.func tabOK [0, 1, 2, 3, 11] 0 Tryd.func109 rfl rfl (by simp [Tryd.ntmps109]) (by rfl) (comp109 _ rfl) (rs := [.tmp 2]) rfl ?_; rw [cc109]; show Ev.Wp _ _ _ _ ⟨[(0, _)], [], 0⟩
  repeat' (first | ((with_reducible first | refine Ev.sided ?_ ?_ | refine Ev.w_put ?_ | refine Ev.w_step ?_ | refine Ev.w_opt ?_); (conv => whnf)) | ((with_reducible refine Ev.chk_k ?_ ?_); rotate_left; (focus first | rfl | (simp only [Ev.nbeq, Bool.and_true, Bool.true_and, Bool.not_false]; done) | ((repeat' (first | exact Ev.nbeq _ | rfl | refine Bool.and_eq_true_iff.2 ⟨?_, ?_⟩)); done)); conv => whnf) | (with_reducible first | refine Ev.c_dec (fun _ => ?_) (fun _ => ?_) | refine Ev.c_not ?_ | refine Ev.c_t ?_ | refine Ev.c_f ?_ | refine Ev.c_br (fun _ => ?_) (fun _ => ?_)) | ((with_reducible refine Ev.br_not ?_); conv => whnf) | (with_reducible first | refine Ev.br_dec (fun _ => ?_) (fun _ => ?_) | refine Ev.br (fun _ => ?_) (fun _ => ?_) | refine Ev.eo_ret ?_ | refine Ev.eo_norm ?_ | refine Ev.t_norm ?_ | refine Ev.k_seq ?_) | ((with_reducible refine Ev.k_reg (hs := []) (tabOK' _ _) (fun Q hQ => ?_)); (simp only [Ev.runE_cons, Ev.runE_nil]); conv => whnf) | (with_reducible refine hQ _ ?_; clear hQ Q) | (with_reducible first | refine Ev.k_cond rfl ?_ | refine Ev.k_skip ?_ | refine Ev.k_block ?_ | refine Ev.k_exit ?_ | refine Ev.k_ret ?_ | refine Ev.t_ret ?_ | refine Ev.t_exit ?_ | refine Ev.b_norm ?_ | refine Ev.b_ret ?_ | refine Ev.b_here ?_ | refine Ev.b_off rfl ?_) | ((with_reducible first | refine Ev.e_ret (fun F hF => ?_) | refine Ev.e_norm (fun F hF => ?_) | refine Ev.eh_ret (fun F hF => ?_) | refine Ev.eh_norm (fun F hF => ?_) | refine Ev.go_k (fun c' => ?_) | refine Ev.byt_cut ?_ | refine Ev.byt_all ?_ | refine Ev.run_cut ?_ | refine Ev.run_all ?_); conv => whnf) | (with_reducible refine hF _ ?_; clear hF F) | (with_reducible refine Ev.u_step ?_) | ((refine Ev.call_det (of_call k n t) rfl rfl ?_); conv => whnf) | (refine Ev.Side.of ?_; exact Nat.le_of_ble_eq_true rfl))
  all_goals first
    | (exfalso; omega)
    | (refine ⟨congrArg (fun z => AV.v (Value.int IntKind.i64 z)) ?_, rfl⟩; unfold inF; simp [*])
theorem out_call (k n : Int) (t : ByteArray) (ht : t.size ≤ 1000000000) : CallW env 120 [spanA k n t] (fun r hs => r = .v (.int .i64 (outF k n t)) ∧ hs = []) := by
  refine Ev.func tabOK [0, 1, 2, 3, 10, 15] 0 Tryd.func120 rfl rfl (by simp [Tryd.ntmps120]) (by rfl) (comp120 _ rfl) (rs := [.tmp 2]) rfl ?_; rw [cc120]; show Ev.Wp _ _ _ _ ⟨[(0, _)], [], 0⟩
  repeat' (first | ((with_reducible first | refine Ev.sided ?_ ?_ | refine Ev.w_put ?_ | refine Ev.w_step ?_ | refine Ev.w_opt ?_); (conv => whnf)) | ((with_reducible refine Ev.chk_k ?_ ?_); rotate_left; (focus first | rfl | (simp only [Ev.nbeq, Bool.and_true, Bool.true_and, Bool.not_false]; done) | ((repeat' (first | exact Ev.nbeq _ | rfl | refine Bool.and_eq_true_iff.2 ⟨?_, ?_⟩)); done)); conv => whnf) | (with_reducible first | refine Ev.c_dec (fun _ => ?_) (fun _ => ?_) | refine Ev.c_not ?_ | refine Ev.c_t ?_ | refine Ev.c_f ?_ | refine Ev.c_br (fun _ => ?_) (fun _ => ?_)) | ((with_reducible refine Ev.br_not ?_); conv => whnf) | (with_reducible first | refine Ev.br_dec (fun _ => ?_) (fun _ => ?_) | refine Ev.br (fun _ => ?_) (fun _ => ?_) | refine Ev.eo_ret ?_ | refine Ev.eo_norm ?_ | refine Ev.t_norm ?_ | refine Ev.k_seq ?_) | ((with_reducible refine Ev.k_reg (hs := []) (tabOK' _ _) (fun Q hQ => ?_)); (simp only [Ev.runE_cons, Ev.runE_nil]); conv => whnf) | (with_reducible refine hQ _ ?_; clear hQ Q) | (with_reducible first | refine Ev.k_cond rfl ?_ | refine Ev.k_skip ?_ | refine Ev.k_block ?_ | refine Ev.k_exit ?_ | refine Ev.k_ret ?_ | refine Ev.t_ret ?_ | refine Ev.t_exit ?_ | refine Ev.b_norm ?_ | refine Ev.b_ret ?_ | refine Ev.b_here ?_ | refine Ev.b_off rfl ?_) | ((with_reducible first | refine Ev.e_ret (fun F hF => ?_) | refine Ev.e_norm (fun F hF => ?_) | refine Ev.eh_ret (fun F hF => ?_) | refine Ev.eh_norm (fun F hF => ?_) | refine Ev.go_k (fun c' => ?_) | refine Ev.byt_cut ?_ | refine Ev.byt_all ?_ | refine Ev.run_cut ?_ | refine Ev.run_all ?_); conv => whnf) | (with_reducible refine hF _ ?_; clear hF F) | (with_reducible refine Ev.u_step ?_) | ((refine Ev.call_det (of_call k n t) rfl rfl ?_); conv => whnf) | ((refine Ev.call_det (pcount_call t ht) rfl rfl ?_); conv => whnf) | (refine Ev.Side.of ?_; exact Nat.le_of_ble_eq_true rfl))
  all_goals first
    | (exfalso; omega)
    | (refine ⟨congrArg (fun z => AV.v (Value.int IntKind.i64 z)) ?_, rfl⟩; unfold outF; simp [*])
theorem may_call (k n : Int) (t : ByteArray) (ht : t.size ≤ 1000000000) : CallW env 91 [spanA k n t] (fun r hs => r = .v (.int .i64 (mayF k n t)) ∧ hs = []) := by
  refine Ev.func tabOK [0, 1, 2, 3, 4, 10, 13, 34] 0 Tryd.func91 rfl rfl (by simp [Tryd.ntmps91]) (by rfl) (comp91 _ rfl) (rs := [.tmp 2]) rfl ?_; rw [cc91]; show Ev.Wp _ _ _ _ ⟨[(0, _)], [], 0⟩
  repeat' (first | ((with_reducible first | refine Ev.sided ?_ ?_ | refine Ev.w_put ?_ | refine Ev.w_step ?_ | refine Ev.w_opt ?_); (conv => whnf)) | ((with_reducible refine Ev.chk_k ?_ ?_); rotate_left; (focus first | rfl | (simp only [Ev.nbeq, Bool.and_true, Bool.true_and, Bool.not_false]; done) | ((repeat' (first | exact Ev.nbeq _ | rfl | refine Bool.and_eq_true_iff.2 ⟨?_, ?_⟩)); done)); conv => whnf) | (with_reducible first | refine Ev.c_dec (fun _ => ?_) (fun _ => ?_) | refine Ev.c_not ?_ | refine Ev.c_t ?_ | refine Ev.c_f ?_ | refine Ev.c_br (fun _ => ?_) (fun _ => ?_)) | ((with_reducible refine Ev.br_not ?_); conv => whnf) | (with_reducible first | refine Ev.br_dec (fun _ => ?_) (fun _ => ?_) | refine Ev.br (fun _ => ?_) (fun _ => ?_) | refine Ev.eo_ret ?_ | refine Ev.eo_norm ?_ | refine Ev.t_norm ?_ | refine Ev.k_seq ?_) | ((with_reducible refine Ev.k_reg (hs := []) (tabOK' _ _) (fun Q hQ => ?_)); (simp only [Ev.runE_cons, Ev.runE_nil]); conv => whnf) | (with_reducible refine hQ _ ?_; clear hQ Q) | (with_reducible first | refine Ev.k_cond rfl ?_ | refine Ev.k_skip ?_ | refine Ev.k_block ?_ | refine Ev.k_exit ?_ | refine Ev.k_ret ?_ | refine Ev.t_ret ?_ | refine Ev.t_exit ?_ | refine Ev.b_norm ?_ | refine Ev.b_ret ?_ | refine Ev.b_here ?_ | refine Ev.b_off rfl ?_) | ((with_reducible first | refine Ev.e_ret (fun F hF => ?_) | refine Ev.e_norm (fun F hF => ?_) | refine Ev.eh_ret (fun F hF => ?_) | refine Ev.eh_norm (fun F hF => ?_) | refine Ev.go_k (fun c' => ?_) | refine Ev.byt_cut ?_ | refine Ev.byt_all ?_ | refine Ev.run_cut ?_ | refine Ev.run_all ?_); conv => whnf) | (with_reducible refine hF _ ?_; clear hF F) | (with_reducible refine Ev.u_step ?_) | ((refine Ev.call_det (of_call k n t) rfl rfl ?_); conv => whnf) | ((refine Ev.call_det (pvalid_call t ht) rfl rfl ?_); conv => whnf) | (refine Ev.Side.of ?_; exact Nat.le_of_ble_eq_true rfl))
  all_goals first
    | (exfalso; omega)
    | (refine ⟨congrArg (fun z => AV.v (Value.int IntKind.i64 z)) ?_, rfl⟩; unfold mayF; simp [*]; done)
    | (obtain rfl : k = 2 := by omega
       refine ⟨congrArg (fun z => AV.v (Value.int IntKind.i64 z)) ?_, rfl⟩; unfold mayF; simp [*]; done)
    | (refine ⟨congrArg (fun z => AV.v (Value.int IntKind.i64 z)) ?_, rfl⟩; unfold mayF; rw [if_neg (by omega), if_neg (by omega)]; done)
    | (rename_i ht' hv; subst ht'; exact absurd hv (by decide))
end Go.Proofs.YthdjbgbfboppcaaDoor.Abs

namespace Go.Proofs.YthdjbgbfboppcaaDoor.Abs
open Go
set_option maxRecDepth 100000
set_option linter.unusedSimpArgs false
set_option linter.unusedVariables false
attribute [local irreducible] Ev.Unr Ev.Go' Ev.bytK Ev.runK Ev.FinL Ev.brC Ev.Side Ev.Wp Ev.Again Ev.To Ev.Fin
open Go.Lib Go.RowKit
def rns (l : List Int) : List (List AV) := l.map fun n => [.v (.int .i32 n)]
def bys (l : List Int) : List (List AV) := l.map fun n => [.v (.int .u8 n)]
def encI (n : Int) : List Int :=
  if sizeF n = 1 then [n] else if sizeF n = 2 then [192 + n / 64, 128 + n % 64] else if sizeF n = 3 then [224 + n / 4096, 128 + n / 64 % 64, 128 + n % 64]
  else if sizeF n = 4 then [240 + n / 262144, 128 + n / 4096 % 64, 128 + n / 64 % 64, 128 + n % 64] else []
def strI (l : List Int) : ByteArray := ⟨(l.map fun n => UInt8.ofNat n.toNat).toArray⟩
theorem toBytes : ∀ l : List Int, (bys l).mapM toByte = some (l.map fun n => UInt8.ofNat n.toNat)
  | [] => rfl
  | n :: l => by
    have := toBytes l
    simp only [bys] at this ⊢
    simp only [List.map_cons, List.mapM_cons, this, toByte]; rfl
theorem w1 {n : Int} (h : 0 ≤ n ∧ n < 128) : IntKind.u8.wrap n = n := by rw [Ev.wrap8]; omega
theorem wa {n c b : Int} (hn : 0 ≤ n) (hb : 0 ≤ c ∧ c + n / b < 256 ∧ 0 ≤ n / b) : IntKind.u8.wrap (IntKind.i64.wrap (c + IntKind.i64.wrap (n.tdiv b))) = c + n / b := by
  rw [Int.tdiv_eq_ediv_of_nonneg hn, Ev.wrap64, Ev.wrap64, Ev.wrap8]; omega
theorem wb {n : Int} (hn : 0 ≤ n) : IntKind.u8.wrap (IntKind.i64.wrap (128 + n.tmod 64)) = 128 + n % 64 := by
  rw [Int.tmod_eq_emod_of_nonneg hn, Ev.wrap64, Ev.wrap8]; omega
theorem wc {n b : Int} (hn : 0 ≤ n) (hb : 0 ≤ n / b ∧ n / b < 1114112) : IntKind.u8.wrap (IntKind.i64.wrap (128 + (IntKind.i64.wrap (n.tdiv b)).tmod 64)) = 128 + n / b % 64 := by
  have e : IntKind.i64.wrap (n.tdiv b) = n / b := by rw [Int.tdiv_eq_ediv_of_nonneg hn, Ev.wrap64]; omega
  rw [e, wb hb.1]
theorem sizeF_b {n m : Int} (h : sizeF n = m) (hm : 0 < m) : 0 ≤ n ∧ n < 1114112 ∧ (m = 1 → n < 128) ∧ (m = 2 → n < 2048) ∧ (m = 3 → n < 65536) := by
  unfold sizeF at h; omega
def cc92 : CC := (.seq (.reg 0 [⟨0, some 2, (.assign (.const (Value.string { data := #[] }))), none⟩]) (.seq (.reg 1 [⟨0, some 6, (.buildSlice 22 0 #[]), none⟩, ⟨1, some 3, (.assign (.tmp 6)), none⟩]) (.seq (.seq (.reg 2 [⟨0, some 4, (.assign (.const (Value.int .i64 0))), none⟩]) (.block 0 (.loop (.seq (.seq (.reg 3 [⟨0, some 7, (.move (.tmp 4)), none⟩, ⟨1, some 8, (.move (.tmp 0)), none⟩, ⟨2, some 9, (.call { callee := .builtin .len, args := #[.tmp 8], argTypes := #[94] }), none⟩, ⟨3, some 10, (.binOp .lss 3 (.tmp 7) (.tmp 9) 3), none⟩]) (.cond (.tmp 10) .skip (.exit 0))) (.seq (.block 1 (.seq (.reg 5 [⟨0, some 13, (.move (.tmp 0)), none⟩, ⟨1, some 14, (.move (.tmp 4)), none⟩, ⟨2, some 15, (.indexAddr 94 (.tmp 13) (.tmp 14)), none⟩, ⟨3, some 16, (.load 21 (.tmp 15)), none⟩, ⟨4, some 17, (.convert 21 3 (.tmp 16)), none⟩, ⟨5, some 5, (.assign (.tmp 17)), none⟩]) (.seq (.reg 6 [⟨0, some 18, (.move (.tmp 5)), none⟩, ⟨1, some 19, (.call { callee := .value (.func 117), args := #[.tmp 18], argTypes := #[3] }), none⟩]) (.block 2 (.seq (.reg 7 [⟨0, some 21, (.binOp .eql 3 (.tmp 19) (.const (Value.int .i64 1)) 3), none⟩, ⟨1, some 20, (.assign (.tmp 21)), none⟩]) (.cond (.tmp 20) (.reg 8 [⟨0, some 22, (.move (.tmp 3)), none⟩, ⟨1, some 23, (.move (.tmp 5)), none⟩, ⟨2, some 24, (.convert 3 5 (.tmp 23)), none⟩, ⟨3, some 25, (.buildSlice 22 1 #[(0, .tmp 24)]), none⟩, ⟨4, some 26, (.call { callee := .builtin .append, args := #[.tmp 22, .tmp 25], argTypes := #[22, 22] }), none⟩, ⟨5, some 3, (.assign (.tmp 26)), none⟩]) (.seq (.reg 9 [⟨0, some 28, (.binOp .eql 3 (.tmp 19) (.const (Value.int .i64 2)) 3), none⟩, ⟨1, some 27, (.assign (.tmp 28)), none⟩]) (.cond (.tmp 27) (.reg 10 [⟨0, some 29, (.move (.tmp 3)), none⟩, ⟨1, some 30, (.move (.tmp 5)), none⟩, ⟨2, some 31, (.binOp .quo 3 (.tmp 30) (.const (Value.int .i64 64)) 3), none⟩, ⟨3, some 32, (.binOp .add 3 (.const (Value.int .i64 192)) (.tmp 31) 3), none⟩, ⟨4, some 33, (.convert 3 5 (.tmp 32)), none⟩, ⟨5, some 34, (.move (.tmp 5)), none⟩, ⟨6, some 35, (.binOp .rem 3 (.tmp 34) (.const (Value.int .i64 64)) 3), none⟩, ⟨7, some 36, (.binOp .add 3 (.const (Value.int .i64 128)) (.tmp 35) 3), none⟩, ⟨8, some 37, (.convert 3 5 (.tmp 36)), none⟩, ⟨9, some 38, (.buildSlice 22 2 #[(0, .tmp 33), (1, .tmp 37)]), none⟩, ⟨10, some 39, (.call { callee := .builtin .append, args := #[.tmp 29, .tmp 38], argTypes := #[22, 22] }), none⟩, ⟨11, some 3, (.assign (.tmp 39)), none⟩]) (.seq (.reg 11 [⟨0, some 41, (.binOp .eql 3 (.tmp 19) (.const (Value.int .i64 3)) 3), none⟩, ⟨1, some 40, (.assign (.tmp 41)), none⟩]) (.cond (.tmp 40) (.reg 12 [⟨0, some 42, (.move (.tmp 3)), none⟩, ⟨1, some 43, (.move (.tmp 5)), none⟩, ⟨2, some 44, (.binOp .quo 3 (.tmp 43) (.const (Value.int .i64 4096)) 3), none⟩, ⟨3, some 45, (.binOp .add 3 (.const (Value.int .i64 224)) (.tmp 44) 3), none⟩, ⟨4, some 46, (.convert 3 5 (.tmp 45)), none⟩, ⟨5, some 47, (.move (.tmp 5)), none⟩, ⟨6, some 48, (.binOp .quo 3 (.tmp 47) (.const (Value.int .i64 64)) 3), none⟩, ⟨7, some 49, (.binOp .rem 3 (.tmp 48) (.const (Value.int .i64 64)) 3), none⟩, ⟨8, some 50, (.binOp .add 3 (.const (Value.int .i64 128)) (.tmp 49) 3), none⟩, ⟨9, some 51, (.convert 3 5 (.tmp 50)), none⟩, ⟨10, some 52, (.move (.tmp 5)), none⟩, ⟨11, some 53, (.binOp .rem 3 (.tmp 52) (.const (Value.int .i64 64)) 3), none⟩, ⟨12, some 54, (.binOp .add 3 (.const (Value.int .i64 128)) (.tmp 53) 3), none⟩, ⟨13, some 55, (.convert 3 5 (.tmp 54)), none⟩, ⟨14, some 56, (.buildSlice 22 3 #[(0, .tmp 46), (1, .tmp 51), (2, .tmp 55)]), none⟩, ⟨15, some 57, (.call { callee := .builtin .append, args := #[.tmp 42, .tmp 56], argTypes := #[22, 22] }), none⟩, ⟨16, some 3, (.assign (.tmp 57)), none⟩]) (.seq (.reg 13 [⟨0, some 59, (.binOp .eql 3 (.tmp 19) (.const (Value.int .i64 4)) 3), none⟩, ⟨1, some 58, (.assign (.tmp 59)), none⟩]) (.cond (.tmp 58) (.reg 14 [⟨0, some 60, (.move (.tmp 3)), none⟩, ⟨1, some 61, (.move (.tmp 5)), none⟩, ⟨2, some 62, (.binOp .quo 3 (.tmp 61) (.const (Value.int .i64 262144)) 3), none⟩, ⟨3, some 63, (.binOp .add 3 (.const (Value.int .i64 240)) (.tmp 62) 3), none⟩, ⟨4, some 64, (.convert 3 5 (.tmp 63)), none⟩, ⟨5, some 65, (.move (.tmp 5)), none⟩, ⟨6, some 66, (.binOp .quo 3 (.tmp 65) (.const (Value.int .i64 4096)) 3), none⟩, ⟨7, some 67, (.binOp .rem 3 (.tmp 66) (.const (Value.int .i64 64)) 3), none⟩, ⟨8, some 68, (.binOp .add 3 (.const (Value.int .i64 128)) (.tmp 67) 3), none⟩, ⟨9, some 69, (.convert 3 5 (.tmp 68)), none⟩, ⟨10, some 70, (.move (.tmp 5)), none⟩, ⟨11, some 71, (.binOp .quo 3 (.tmp 70) (.const (Value.int .i64 64)) 3), none⟩, ⟨12, some 72, (.binOp .rem 3 (.tmp 71) (.const (Value.int .i64 64)) 3), none⟩, ⟨13, some 73, (.binOp .add 3 (.const (Value.int .i64 128)) (.tmp 72) 3), none⟩, ⟨14, some 74, (.convert 3 5 (.tmp 73)), none⟩, ⟨15, some 75, (.move (.tmp 5)), none⟩, ⟨16, some 76, (.binOp .rem 3 (.tmp 75) (.const (Value.int .i64 64)) 3), none⟩, ⟨17, some 77, (.binOp .add 3 (.const (Value.int .i64 128)) (.tmp 76) 3), none⟩, ⟨18, some 78, (.convert 3 5 (.tmp 77)), none⟩, ⟨19, some 79, (.buildSlice 22 4 #[(0, .tmp 64), (1, .tmp 69), (2, .tmp 74), (3, .tmp 78)]), none⟩, ⟨20, some 80, (.call { callee := .builtin .append, args := #[.tmp 60, .tmp 79], argTypes := #[22, 22] }), none⟩, ⟨21, some 3, (.assign (.tmp 80)), none⟩]) .skip)))))))))))) (.reg 4 [⟨0, some 11, (.move (.tmp 4)), none⟩, ⟨1, some 12, (.binOp .add 3 (.tmp 11) (.const (Value.int .i64 1)) 3), none⟩, ⟨2, some 4, (.assign (.tmp 12)), none⟩])))))) (.seq (.reg 15 [⟨0, some 81, (.move (.tmp 3)), none⟩, ⟨1, some 82, (.convert 22 9 (.tmp 81)), none⟩, ⟨2, some 2, (.assign (.tmp 82)), none⟩]) .ret))))
theorem comp92 : ∀ c, Tryd.f92.body = some c → comp c = cc92 := by
  intro c h
  have : c = Tryd.f92.body.get rfl := by rw [← Option.some_inj, ← h]; rfl
  rw [this]; rfl
theorem of_text (l : List Int) (hl : l.length ≤ 1000000) (h32 : ∀ n ∈ l, -2147483648 ≤ n ∧ n < 2147483648) : CallW env 92 [.lst 1 (rns l)] (fun r hs => r = .v (.string (strI (l.flatMap encI))) ∧ hs = []) := by
  refine Ev.func tabOK [0, 2, 3, 4, 5, 10, 19, 20, 27, 40, 58] 0 Tryd.func92 rfl rfl (by simp [Tryd.ntmps92]) (by rfl) (comp92 _ rfl) (rs := [.tmp 2]) rfl ?_; rw [cc92]; show Ev.Wp _ _ _ _ ⟨[(0, _)], [], 0⟩
  repeat' (first | ((with_reducible first | refine Ev.sided ?_ ?_ | refine Ev.w_put ?_ | refine Ev.w_step ?_ | refine Ev.w_opt ?_); (conv => whnf)) | ((with_reducible refine Ev.chk_k ?_ ?_); rotate_left; (focus first | rfl | (simp only [Ev.nbeq, Bool.and_true, Bool.true_and, Bool.not_false]; done) | ((repeat' (first | exact Ev.nbeq _ | rfl | refine Bool.and_eq_true_iff.2 ⟨?_, ?_⟩)); done)); conv => whnf) | (with_reducible first | refine Ev.c_dec (fun _ => ?_) (fun _ => ?_) | refine Ev.c_not ?_ | refine Ev.c_t ?_ | refine Ev.c_f ?_ | refine Ev.c_br (fun _ => ?_) (fun _ => ?_)) | ((with_reducible refine Ev.br_not ?_); conv => whnf) | (with_reducible first | refine Ev.br_dec (fun _ => ?_) (fun _ => ?_) | refine Ev.br (fun _ => ?_) (fun _ => ?_) | refine Ev.eo_ret ?_ | refine Ev.eo_norm ?_ | refine Ev.t_norm ?_ | refine Ev.k_seq ?_) | ((with_reducible refine Ev.k_reg (hs := []) (tabOK' _ _) (fun Q hQ => ?_)); (simp only [Ev.runE_cons, Ev.runE_nil]); conv => whnf) | (with_reducible refine hQ _ ?_; clear hQ Q) | (with_reducible first | refine Ev.k_cond rfl ?_ | refine Ev.k_skip ?_ | refine Ev.k_block ?_ | refine Ev.k_exit ?_ | refine Ev.k_ret ?_ | refine Ev.t_ret ?_ | refine Ev.t_exit ?_ | refine Ev.b_norm ?_ | refine Ev.b_ret ?_ | refine Ev.b_here ?_ | refine Ev.b_off rfl ?_) | ((with_reducible first | refine Ev.e_ret (fun F hF => ?_) | refine Ev.e_norm (fun F hF => ?_) | refine Ev.eh_ret (fun F hF => ?_) | refine Ev.eh_norm (fun F hF => ?_) | refine Ev.go_k (fun c' => ?_) | refine Ev.byt_cut ?_ | refine Ev.byt_all ?_ | refine Ev.run_cut ?_ | refine Ev.run_all ?_); conv => whnf) | (with_reducible refine hF _ ?_; clear hF F) | (with_reducible refine Ev.u_step ?_) | (refine Ev.Side.of ?_; exact Nat.le_of_ble_eq_true rfl))
  refine Ev.loop (fun k s => ∃ (i v c : Nat) (out : List Int), s = ⟨[(0, .lst 1 (rns l)), (2, .v (.string ⟨#[]⟩)), (3, .own 512 v 0 out.length), (4, .v (.int .i64 i))], [(512, ⟨1, 5, v, 0, false, bys out⟩)], c⟩ ∧
      k + i = l.length ∧ out = (l.take i).flatMap encI ∧ out.length ≤ 4 * i) ?_ ?_
  · exact Ev.to ⟨[(0, _), (2, _), (3, .own 512 0 0 0), (4, .v (.int .i64 ((0 : Nat) : Int)))], [(512, ⟨1, 5, 0, 0, false, bys []⟩)], 8⟩ ⟨rfl, rfl, rfl, rfl, trivial⟩ ⟨rfl, trivial⟩ (Nat.le_refl _) ⟨l.length, 0, 0, 8, [], rfl, by omega, rfl, by simp⟩
  rintro k s1 ⟨i, v, c, out, rfl, hk, ho, hb⟩
  repeat' (first | ((with_reducible first | refine Ev.sided ?_ ?_ | refine Ev.w_put ?_ | refine Ev.w_step ?_ | refine Ev.w_opt ?_); (conv => whnf)) | ((with_reducible refine Ev.chk_k ?_ ?_); rotate_left; (focus first | rfl | (simp only [Ev.nbeq, Bool.and_true, Bool.true_and, Bool.not_false]; done) | ((repeat' (first | exact Ev.nbeq _ | rfl | refine Bool.and_eq_true_iff.2 ⟨?_, ?_⟩)); done)); conv => whnf) | (with_reducible first | refine Ev.c_dec (fun _ => ?_) (fun _ => ?_) | refine Ev.c_not ?_ | refine Ev.c_t ?_ | refine Ev.c_f ?_ | refine Ev.c_br (fun _ => ?_) (fun _ => ?_)) | ((with_reducible refine Ev.br_not ?_); conv => whnf) | (with_reducible first | refine Ev.br_dec (fun _ => ?_) (fun _ => ?_) | refine Ev.br (fun _ => ?_) (fun _ => ?_) | refine Ev.eo_ret ?_ | refine Ev.eo_norm ?_ | refine Ev.t_norm ?_ | refine Ev.k_seq ?_) | ((with_reducible refine Ev.k_reg (hs := []) (tabOK' _ _) (fun Q hQ => ?_)); (simp only [Ev.runE_cons, Ev.runE_nil]); conv => whnf) | (with_reducible refine hQ _ ?_; clear hQ Q) | (with_reducible first | refine Ev.k_cond rfl ?_ | refine Ev.k_skip ?_ | refine Ev.k_block ?_ | refine Ev.k_exit ?_ | refine Ev.k_ret ?_ | refine Ev.t_ret ?_ | refine Ev.t_exit ?_ | refine Ev.b_norm ?_ | refine Ev.b_ret ?_ | refine Ev.b_here ?_ | refine Ev.b_off rfl ?_) | ((with_reducible first | refine Ev.e_ret (fun F hF => ?_) | refine Ev.e_norm (fun F hF => ?_) | refine Ev.eh_ret (fun F hF => ?_) | refine Ev.eh_norm (fun F hF => ?_) | refine Ev.go_k (fun c' => ?_) | refine Ev.byt_cut ?_ | refine Ev.byt_all ?_ | refine Ev.run_cut ?_ | refine Ev.run_all ?_); conv => whnf) | (with_reducible refine hF _ ?_; clear hF F) | (with_reducible refine Ev.u_step ?_) | ((refine Ev.call_det (size_call _) rfl rfl ?_); conv => whnf) | ((refine Ev.el_map ?_ (fun hi => ?_); rotate_left); conv => whnf) | (refine Ev.Side.of ?_; exact Nat.le_of_ble_eq_true rfl))
  · have hi' : i < l.length := by simpa using hi
    have hn : IntKind.i64.wrap (l[(↑i : Int).toNat]'hi) = l[i] := by
      simp only [Int.toNat_natCast]; rw [Ev.wrap64]; have := h32 _ (List.getElem_mem hi'); omega
    have hz : sizeF l[i] = 1 := by rw [← hn]; assumption
    obtain ⟨b0, b1, b2, b3, b4⟩ := sizeF_b hz (by decide)
    have he : encI l[i] = [l[i]] := by unfold encI; simp [hz]
    refine Ev.again (k - 1) ⟨[(0, _), (2, _), (3, .own 512 (c + 8) 0 (out ++ encI l[i]).length), (4, .v (.int .i64 ((i + 1 : Nat) : Int)))], [(512, ⟨1, 5, c + 8, 0, false, bys (out ++ encI l[i])⟩)], c + 8 + 8⟩ (by omega) ⟨rfl, rfl, Ev.slot_eq rfl ?_, Ev.slot_int rfl (by rw [Ev.wrap64]; omega), trivial⟩ ⟨Ev.slot_eq rfl ?_, trivial⟩ (Nat.le_refl _) ⟨i + 1, c + 8, c + 8 + 8, out ++ encI l[i], rfl, by omega, ?_, ?_⟩
    · rw [he]; simp
    · rw [he]
      simp only [Blk.mk.injEq, true_and, and_true, List.drop_zero, bys, List.map_append, List.map_cons, List.map_nil, List.take_succ_cons, List.take_zero, hn]
      simp only [w1 (n := l[i]) ⟨b0, by omega⟩, wb b0, wc (n := l[i]) (b := 64) b0 (by omega), wc (n := l[i]) (b := 4096) b0 (by omega)]
    · rw [ho, List.take_succ_eq_append_getElem hi', List.flatMap_append]; simp
    · rw [he, List.length_append]; simp; omega
  · refine Ev.Side.of ?_
    have hm : 2000000003 ≤ maxLen := by decide
    have hi' : i < l.length := by simpa using hi
    simp [bys]
    omega
  · have hi' : i < l.length := by simpa using hi
    have hn : IntKind.i64.wrap (l[(↑i : Int).toNat]'hi) = l[i] := by
      simp only [Int.toNat_natCast]; rw [Ev.wrap64]; have := h32 _ (List.getElem_mem hi'); omega
    have hz : sizeF l[i] = 2 := by rw [← hn]; assumption
    obtain ⟨b0, b1, b2, b3, b4⟩ := sizeF_b hz (by decide)
    have he : encI l[i] = [192 + l[i] / 64, 128 + l[i] % 64] := by unfold encI; simp [hz]
    refine Ev.again (k - 1) ⟨[(0, _), (2, _), (3, .own 512 (c + 8) 0 (out ++ encI l[i]).length), (4, .v (.int .i64 ((i + 1 : Nat) : Int)))], [(512, ⟨1, 5, c + 8, 0, false, bys (out ++ encI l[i])⟩)], c + 8 + 8⟩ (by omega) ⟨rfl, rfl, Ev.slot_eq rfl ?_, Ev.slot_int rfl (by rw [Ev.wrap64]; omega), trivial⟩ ⟨Ev.slot_eq rfl ?_, trivial⟩ (Nat.le_refl _) ⟨i + 1, c + 8, c + 8 + 8, out ++ encI l[i], rfl, by omega, ?_, ?_⟩
    · rw [he]; simp
    · rw [he]
      simp only [Blk.mk.injEq, true_and, and_true, List.drop_zero, bys, List.map_append, List.map_cons, List.map_nil, List.take_succ_cons, List.take_zero, hn]
      simp only [wa (n := l[i]) (c := 192) (b := 64) b0 (by omega), wa (n := l[i]) (c := 224) (b := 4096) b0 (by omega), wa (n := l[i]) (c := 240) (b := 262144) b0 (by omega), wb b0, wc (n := l[i]) (b := 64) b0 (by omega), wc (n := l[i]) (b := 4096) b0 (by omega)]
    · rw [ho, List.take_succ_eq_append_getElem hi', List.flatMap_append]; simp
    · rw [he, List.length_append]; simp; omega
  · refine Ev.Side.of ?_
    have hm : 2000000003 ≤ maxLen := by decide
    have hi' : i < l.length := by simpa using hi
    simp [bys]
    omega
  · exact Ev.Side.of (by decide)
  · exact Ev.Side.of (by decide)
  · have hi' : i < l.length := by simpa using hi
    have hn : IntKind.i64.wrap (l[(↑i : Int).toNat]'hi) = l[i] := by
      simp only [Int.toNat_natCast]; rw [Ev.wrap64]; have := h32 _ (List.getElem_mem hi'); omega
    have hz : sizeF l[i] = 3 := by rw [← hn]; assumption
    obtain ⟨b0, b1, b2, b3, b4⟩ := sizeF_b hz (by decide)
    have he : encI l[i] = [224 + l[i] / 4096, 128 + l[i] / 64 % 64, 128 + l[i] % 64] := by unfold encI; simp [hz]
    refine Ev.again (k - 1) ⟨[(0, _), (2, _), (3, .own 512 (c + 8) 0 (out ++ encI l[i]).length), (4, .v (.int .i64 ((i + 1 : Nat) : Int)))], [(512, ⟨1, 5, c + 8, 0, false, bys (out ++ encI l[i])⟩)], c + 8 + 8⟩ (by omega) ⟨rfl, rfl, Ev.slot_eq rfl ?_, Ev.slot_int rfl (by rw [Ev.wrap64]; omega), trivial⟩ ⟨Ev.slot_eq rfl ?_, trivial⟩ (Nat.le_refl _) ⟨i + 1, c + 8, c + 8 + 8, out ++ encI l[i], rfl, by omega, ?_, ?_⟩
    · rw [he]; simp
    · rw [he]
      simp only [Blk.mk.injEq, true_and, and_true, List.drop_zero, bys, List.map_append, List.map_cons, List.map_nil, List.take_succ_cons, List.take_zero, hn]
      simp only [wa (n := l[i]) (c := 224) (b := 4096) b0 (by omega), wa (n := l[i]) (c := 240) (b := 262144) b0 (by omega), wb b0, wc (n := l[i]) (b := 64) b0 (by omega), wc (n := l[i]) (b := 4096) b0 (by omega)]
    · rw [ho, List.take_succ_eq_append_getElem hi', List.flatMap_append]; simp
    · rw [he, List.length_append]; simp; omega
  · refine Ev.Side.of ?_
    have hm : 2000000003 ≤ maxLen := by decide
    have hi' : i < l.length := by simpa using hi
    simp [bys]
    omega
  · exact Ev.Side.of (by decide)
  · exact Ev.Side.of (by decide)
  · exact Ev.Side.of (by decide)
  · exact Ev.Side.of (by decide)
  · have hi' : i < l.length := by simpa using hi
    have hn : IntKind.i64.wrap (l[(↑i : Int).toNat]'hi) = l[i] := by
      simp only [Int.toNat_natCast]; rw [Ev.wrap64]; have := h32 _ (List.getElem_mem hi'); omega
    have hz : sizeF l[i] = 4 := by rw [← hn]; assumption
    obtain ⟨b0, b1, b2, b3, b4⟩ := sizeF_b hz (by decide)
    have he : encI l[i] = [240 + l[i] / 262144, 128 + l[i] / 4096 % 64, 128 + l[i] / 64 % 64, 128 + l[i] % 64] := by unfold encI; simp [hz]
    refine Ev.again (k - 1) ⟨[(0, _), (2, _), (3, .own 512 (c + 8) 0 (out ++ encI l[i]).length), (4, .v (.int .i64 ((i + 1 : Nat) : Int)))], [(512, ⟨1, 5, c + 8, 0, false, bys (out ++ encI l[i])⟩)], c + 8 + 8⟩ (by omega) ⟨rfl, rfl, Ev.slot_eq rfl ?_, Ev.slot_int rfl (by rw [Ev.wrap64]; omega), trivial⟩ ⟨Ev.slot_eq rfl ?_, trivial⟩ (Nat.le_refl _) ⟨i + 1, c + 8, c + 8 + 8, out ++ encI l[i], rfl, by omega, ?_, ?_⟩
    · rw [he]; simp
    · rw [he]
      simp only [Blk.mk.injEq, true_and, and_true, List.drop_zero, bys, List.map_append, List.map_cons, List.map_nil, List.take_succ_cons, List.take_zero, hn]
      simp only [wa (n := l[i]) (c := 240) (b := 262144) b0 (by omega), wb b0, wc (n := l[i]) (b := 64) b0 (by omega), wc (n := l[i]) (b := 4096) b0 (by omega)]
    · rw [ho, List.take_succ_eq_append_getElem hi', List.flatMap_append]; simp
    · rw [he, List.length_append]; simp; omega
  · refine Ev.Side.of ?_
    have hm : 2000000003 ≤ maxLen := by decide
    have hi' : i < l.length := by simpa using hi
    simp [bys]
    omega
  · exact Ev.Side.of (by decide)
  · exact Ev.Side.of (by decide)
  · exact Ev.Side.of (by decide)
  · exact Ev.Side.of (by decide)
  · exact Ev.Side.of (by decide)
  · exact Ev.Side.of (by decide)
  · have hi' : i < l.length := by simpa using hi
    have hn : IntKind.i64.wrap (l[(↑i : Int).toNat]'hi) = l[i] := by
      simp only [Int.toNat_natCast]; rw [Ev.wrap64]; have := h32 _ (List.getElem_mem hi'); omega
    rename_i z1 z2 z3 z4
    simp only [hn] at z1 z2 z3 z4
    have he : encI l[i] = [] := by unfold encI; simp [z1, z2, z3, z4]
    refine Ev.again (k - 1) ⟨[(0, _), (2, _), (3, _), (4, .v (.int .i64 ((i + 1 : Nat) : Int)))], [(512, _)], _⟩ (by omega) ⟨rfl, rfl, rfl, Ev.slot_int rfl (by rw [Ev.wrap64]; omega), trivial⟩ ⟨rfl, trivial⟩ (Nat.le_refl _) ⟨i + 1, v, c, out, rfl, by omega, ?_, by omega⟩
    rw [ho, List.take_succ_eq_append_getElem hi', List.flatMap_append]; simp [he]
  · refine Ev.Side.of ?_
    rename_i hlt
    simp only [rns, List.length_map] at hlt; omega
  · refine Ev.Side.of ?_
    rename_i hlt
    omega
  · rename_i hlt
    have ei : i = l.length := by simp only [rns, List.length_map] at hlt; omega
    have e : List.mapM toByte (List.take out.length (List.drop 0 (bys out))) = some (out.map fun n => UInt8.ofNat n.toNat) := by
      rw [List.drop_zero, List.take_of_length_le (by simp [bys])]; exact toBytes out
    refine Ev.byt_k _ e ?_
    conv => whnf
    repeat' (first | ((with_reducible first | refine Ev.sided ?_ ?_ | refine Ev.w_put ?_ | refine Ev.w_step ?_ | refine Ev.w_opt ?_); (conv => whnf)) | ((with_reducible refine Ev.chk_k ?_ ?_); rotate_left; (focus first | rfl | (simp only [Ev.nbeq, Bool.and_true, Bool.true_and, Bool.not_false]; done) | ((repeat' (first | exact Ev.nbeq _ | rfl | refine Bool.and_eq_true_iff.2 ⟨?_, ?_⟩)); done)); conv => whnf) | (with_reducible first | refine Ev.c_dec (fun _ => ?_) (fun _ => ?_) | refine Ev.c_not ?_ | refine Ev.c_t ?_ | refine Ev.c_f ?_ | refine Ev.c_br (fun _ => ?_) (fun _ => ?_)) | ((with_reducible refine Ev.br_not ?_); conv => whnf) | (with_reducible first | refine Ev.br_dec (fun _ => ?_) (fun _ => ?_) | refine Ev.br (fun _ => ?_) (fun _ => ?_) | refine Ev.eo_ret ?_ | refine Ev.eo_norm ?_ | refine Ev.t_norm ?_ | refine Ev.k_seq ?_) | ((with_reducible refine Ev.k_reg (hs := []) (tabOK' _ _) (fun Q hQ => ?_)); (simp only [Ev.runE_cons, Ev.runE_nil]); conv => whnf) | (with_reducible refine hQ _ ?_; clear hQ Q) | (with_reducible first | refine Ev.k_cond rfl ?_ | refine Ev.k_skip ?_ | refine Ev.k_block ?_ | refine Ev.k_exit ?_ | refine Ev.k_ret ?_ | refine Ev.t_ret ?_ | refine Ev.t_exit ?_ | refine Ev.b_norm ?_ | refine Ev.b_ret ?_ | refine Ev.b_here ?_ | refine Ev.b_off rfl ?_) | ((with_reducible first | refine Ev.e_ret (fun F hF => ?_) | refine Ev.e_norm (fun F hF => ?_) | refine Ev.eh_ret (fun F hF => ?_) | refine Ev.eh_norm (fun F hF => ?_) | refine Ev.go_k (fun c' => ?_) | refine Ev.byt_cut ?_ | refine Ev.byt_all ?_ | refine Ev.run_cut ?_ | refine Ev.run_all ?_); conv => whnf) | (with_reducible refine hF _ ?_; clear hF F) | (with_reducible refine Ev.u_step ?_) | (refine Ev.Side.of ?_; exact Nat.le_of_ble_eq_true rfl))
    subst ho; subst ei
    rw [List.take_of_length_le (Nat.le_refl _)]
    exact ⟨rfl, rfl⟩
  · refine Ev.Side.of ?_; simp [bys]
end Go.Proofs.YthdjbgbfboppcaaDoor.Abs

namespace Go.Proofs.YthdjbgbfboppcaaDoor.Abs
open Go
set_option maxRecDepth 100000
set_option linter.unusedSimpArgs false
set_option linter.unusedVariables false
attribute [local irreducible] Ev.Unr Ev.Go' Ev.bytK Ev.runK Ev.FinL Ev.brC Ev.Side Ev.Wp Ev.Again Ev.To Ev.Fin
open Go.Lib Go.RowKit
def eight (r : Int) : Int := ([97, 98, 99, 120, 121, 233, 8364, 128512] : List Int).getD r.toNat 0
def fitL (t : ByteArray) (k : Nat) : List Int := (List.range k).map fun i => eight (Ev.byt t i % 8)
theorem fitL_succ (t : ByteArray) (k : Nat) : fitL t (k + 1) = fitL t k ++ [eight (Ev.byt t k % 8)] := by simp [fitL, List.range_succ]
theorem fitL_len (t : ByteArray) (k : Nat) : (fitL t k).length = k := by simp [fitL]
theorem fitL_mem {t : ByteArray} {k : Nat} {n : Int} (h : n ∈ fitL t k) : n = 97 ∨ n = 98 ∨ n = 99 ∨ n = 120 ∨ n = 121 ∨ n = 233 ∨ n = 8364 ∨ n = 128512 := by
  simp only [fitL, List.mem_map] at h
  obtain ⟨i, _, rfl⟩ := h
  have : Ev.byt t i % 8 = 0 ∨ Ev.byt t i % 8 = 1 ∨ Ev.byt t i % 8 = 2 ∨ Ev.byt t i % 8 = 3 ∨ Ev.byt t i % 8 = 4 ∨ Ev.byt t i % 8 = 5 ∨ Ev.byt t i % 8 = 6 ∨ Ev.byt t i % 8 = 7 := by omega
  rcases this with h | h | h | h | h | h | h | h <;> rw [h] <;> simp [eight]
def fitS (t : ByteArray) : ByteArray := strI ((fitL t t.size).flatMap encI)
def cc64 : CC := (.seq (.reg 0 [⟨0, some 2, (.assign (.const (Value.string { data := #[] }))), none⟩]) (.seq (.reg 1 [⟨0, some 6, (.build 108 #[(0, .const (Value.int .i32 97)), (1, .const (Value.int .i32 98)), (2, .const (Value.int .i32 99)), (3, .const (Value.int .i32 120)), (4, .const (Value.int .i32 121)), (5, .const (Value.int .i32 233)), (6, .const (Value.int .i32 8364)), (7, .const (Value.int .i32 128512))]), none⟩, ⟨1, some 3, (.alloc 108), none⟩, ⟨2, none, (.store 108 (.tmp 3) (.tmp 6)), none⟩]) (.seq (.reg 2 [⟨0, some 7, (.buildSlice 94 0 #[]), none⟩, ⟨1, some 4, (.assign (.tmp 7)), none⟩]) (.seq (.seq (.reg 3 [⟨0, some 5, (.assign (.const (Value.int .i64 0))), none⟩]) (.block 0 (.loop (.seq (.seq (.reg 4 [⟨0, some 8, (.move (.tmp 5)), none⟩, ⟨1, some 9, (.move (.tmp 0)), none⟩, ⟨2, some 10, (.call { callee := .builtin .len, args := #[.tmp 9], argTypes := #[9] }), none⟩, ⟨3, some 11, (.binOp .lss 3 (.tmp 8) (.tmp 10) 3), none⟩]) (.cond (.tmp 11) .skip (.exit 0))) (.seq (.block 1 (.reg 6 [⟨0, some 14, (.move (.tmp 4)), none⟩, ⟨1, some 15, (.move (.tmp 0)), none⟩, ⟨2, some 16, (.move (.tmp 5)), none⟩, ⟨3, some 17, (.index 9 (.tmp 15) (.tmp 16)), none⟩, ⟨4, some 18, (.binOp .rem 5 (.tmp 17) (.const (Value.int .u8 8)) 5), none⟩, ⟨5, some 19, (.indexAddr 108 (.tmp 3) (.tmp 18)), none⟩, ⟨6, some 20, (.load 21 (.tmp 19)), none⟩, ⟨7, some 21, (.buildSlice 94 1 #[(0, .tmp 20)]), none⟩, ⟨8, some 22, (.call { callee := .builtin .append, args := #[.tmp 14, .tmp 21], argTypes := #[94, 94] }), none⟩, ⟨9, some 4, (.assign (.tmp 22)), none⟩])) (.reg 5 [⟨0, some 12, (.move (.tmp 5)), none⟩, ⟨1, some 13, (.binOp .add 3 (.tmp 12) (.const (Value.int .i64 1)) 3), none⟩, ⟨2, some 5, (.assign (.tmp 13)), none⟩])))))) (.seq (.reg 7 [⟨0, some 23, (.move (.tmp 4)), none⟩, ⟨1, some 24, (.call { callee := .value (.func 92), args := #[.tmp 23], argTypes := #[94] }), none⟩, ⟨2, some 2, (.assign (.tmp 24)), none⟩]) .ret)))))
theorem comp64 : ∀ c, Tryd.f64.body = some c → comp c = cc64 := by
  intro c h
  have : c = Tryd.f64.body.get rfl := by rw [← Option.some_inj, ← h]; rfl
  rw [this]; rfl
theorem fit_call (t : ByteArray) (ht : t.size ≤ 1000000) : CallW env 64 [.v (.string t)] (fun r hs => r = .v (.string (fitS t)) ∧ hs = []) := by
  refine Ev.func tabOK [0, 2, 3, 4, 5, 11] 0 Tryd.func64 rfl rfl (by simp [Tryd.ntmps64]) (by rfl) (comp64 _ rfl) (rs := [.tmp 2]) rfl ?_; rw [cc64]; show Ev.Wp _ _ _ _ ⟨[(0, _)], [], 0⟩
  repeat' (first | ((with_reducible first | refine Ev.sided ?_ ?_ | refine Ev.w_put ?_ | refine Ev.w_step ?_ | refine Ev.w_opt ?_); (conv => whnf)) | ((with_reducible refine Ev.chk_k ?_ ?_); rotate_left; (focus first | rfl | (simp only [Ev.nbeq, Bool.and_true, Bool.true_and, Bool.not_false]; done) | ((repeat' (first | exact Ev.nbeq _ | rfl | refine Bool.and_eq_true_iff.2 ⟨?_, ?_⟩)); done)); conv => whnf) | (with_reducible first | refine Ev.c_dec (fun _ => ?_) (fun _ => ?_) | refine Ev.c_not ?_ | refine Ev.c_t ?_ | refine Ev.c_f ?_ | refine Ev.c_br (fun _ => ?_) (fun _ => ?_)) | ((with_reducible refine Ev.br_not ?_); conv => whnf) | (with_reducible first | refine Ev.br_dec (fun _ => ?_) (fun _ => ?_) | refine Ev.br (fun _ => ?_) (fun _ => ?_) | refine Ev.eo_ret ?_ | refine Ev.eo_norm ?_ | refine Ev.t_norm ?_ | refine Ev.k_seq ?_) | ((with_reducible refine Ev.k_reg (hs := []) (tabOK' _ _) (fun Q hQ => ?_)); (simp only [Ev.runE_cons, Ev.runE_nil]); conv => whnf) | (with_reducible refine hQ _ ?_; clear hQ Q) | (with_reducible first | refine Ev.k_cond rfl ?_ | refine Ev.k_skip ?_ | refine Ev.k_block ?_ | refine Ev.k_exit ?_ | refine Ev.k_ret ?_ | refine Ev.t_ret ?_ | refine Ev.t_exit ?_ | refine Ev.b_norm ?_ | refine Ev.b_ret ?_ | refine Ev.b_here ?_ | refine Ev.b_off rfl ?_) | ((with_reducible first | refine Ev.e_ret (fun F hF => ?_) | refine Ev.e_norm (fun F hF => ?_) | refine Ev.eh_ret (fun F hF => ?_) | refine Ev.eh_norm (fun F hF => ?_) | refine Ev.go_k (fun c' => ?_) | refine Ev.byt_cut ?_ | refine Ev.byt_all ?_ | refine Ev.run_cut ?_ | refine Ev.run_all ?_); conv => whnf) | (with_reducible refine hF _ ?_; clear hF F) | (with_reducible refine Ev.u_step ?_) | (refine Ev.Side.of ?_; exact Nat.le_of_ble_eq_true rfl))
  · refine Ev.loop (fun k s => ∃ (i v c : Nat), s = ⟨[(0, .v (.string t)), (2, .v (.string ⟨#[]⟩)), (3, .ptr 520 0 0 0), (4, .own 1024 v 0 (fitL t i).length), (5, .v (.int .i64 i))], [(1024, ⟨1, 21, v, 0, false, rns (fitL t i)⟩), (520, ⟨8, 108, 0, 0, true, [[.v (.int .i32 97), .v (.int .i32 98), .v (.int .i32 99), .v (.int .i32 120), .v (.int .i32 121), .v (.int .i32 233), .v (.int .i32 8364), .v (.int .i32 128512)]]⟩)], c⟩ ∧ k + i = t.size) ?_ ?_
    · exact Ev.to ⟨[(0, _), (2, _), (3, .ptr 520 0 0 0), (4, .own 1024 8 0 0), (5, .v (.int .i64 ((0 : Nat) : Int)))], [(1024, ⟨1, 21, 8, 0, false, rns []⟩), (520, ⟨8, 108, 0, 0, true, [[.v (.int .i32 97), .v (.int .i32 98), .v (.int .i32 99), .v (.int .i32 120), .v (.int .i32 121), .v (.int .i32 233), .v (.int .i32 8364), .v (.int .i32 128512)]]⟩)], 16⟩ ⟨rfl, rfl, rfl, rfl, rfl, trivial⟩ ⟨rfl, rfl, trivial⟩ (Nat.le_refl _) ⟨t.size, 0, 8, 16, rfl, by omega⟩
    rintro k s1 ⟨i, v, c, rfl, hk⟩
    have hb := Ev.byt_lt t i
    have hr0 : (Ev.byt t (↑i : Int).toNat).tmod 8 = Ev.byt t i % 8 := by rw [Int.toNat_natCast, Int.tmod_eq_emod_of_nonneg hb.1]
    have hlen := fitL_len t i
    have this : Ev.byt t i % 8 = 0 ∨ Ev.byt t i % 8 = 1 ∨ Ev.byt t i % 8 = 2 ∨ Ev.byt t i % 8 = 3 ∨ Ev.byt t i % 8 = 4 ∨ Ev.byt t i % 8 = 5 ∨ Ev.byt t i % 8 = 6 ∨ Ev.byt t i % 8 = 7 := by omega
    rcases this with h8 | h8 | h8 | h8 | h8 | h8 | h8 | h8
    all_goals rw [h8] at hr0
    · repeat' (first | (simp only [hr0]) | ((with_reducible first | refine Ev.sided ?_ ?_ | refine Ev.w_put ?_ | refine Ev.w_step ?_ | refine Ev.w_opt ?_); (conv => whnf)) | ((with_reducible refine Ev.chk_k ?_ ?_); rotate_left; (focus first | rfl | (simp only [Ev.nbeq, Bool.and_true, Bool.true_and, Bool.not_false]; done) | ((repeat' (first | exact Ev.nbeq _ | rfl | refine Bool.and_eq_true_iff.2 ⟨?_, ?_⟩)); done)); conv => whnf) | (with_reducible first | refine Ev.c_dec (fun _ => ?_) (fun _ => ?_) | refine Ev.c_not ?_ | refine Ev.c_t ?_ | refine Ev.c_f ?_ | refine Ev.c_br (fun _ => ?_) (fun _ => ?_)) | ((with_reducible refine Ev.br_not ?_); conv => whnf) | (with_reducible first | refine Ev.br_dec (fun _ => ?_) (fun _ => ?_) | refine Ev.br (fun _ => ?_) (fun _ => ?_) | refine Ev.eo_ret ?_ | refine Ev.eo_norm ?_ | refine Ev.t_norm ?_ | refine Ev.k_seq ?_) | ((with_reducible refine Ev.k_reg (hs := []) (tabOK' _ _) (fun Q hQ => ?_)); (simp only [Ev.runE_cons, Ev.runE_nil]); conv => whnf) | (with_reducible refine hQ _ ?_; clear hQ Q) | (with_reducible first | refine Ev.k_cond rfl ?_ | refine Ev.k_skip ?_ | refine Ev.k_block ?_ | refine Ev.k_exit ?_ | refine Ev.k_ret ?_ | refine Ev.t_ret ?_ | refine Ev.t_exit ?_ | refine Ev.b_norm ?_ | refine Ev.b_ret ?_ | refine Ev.b_here ?_ | refine Ev.b_off rfl ?_) | ((with_reducible first | refine Ev.e_ret (fun F hF => ?_) | refine Ev.e_norm (fun F hF => ?_) | refine Ev.eh_ret (fun F hF => ?_) | refine Ev.eh_norm (fun F hF => ?_) | refine Ev.go_k (fun c' => ?_) | refine Ev.byt_cut ?_ | refine Ev.byt_all ?_ | refine Ev.run_cut ?_ | refine Ev.run_all ?_); conv => whnf) | (with_reducible refine hF _ ?_; clear hF F) | (with_reducible refine Ev.u_step ?_) | ((refine Ev.call_det (of_text (fitL t i) (by rw [fitL_len]; omega) (fun n hn => by have := fitL_mem hn; omega)) ?_ rfl ?_; rotate_left); conv => whnf) | (refine Ev.Side.of ?_; exact Nat.le_of_ble_eq_true rfl))
      · have he : fitL t (i + 1) = fitL t i ++ [97] := by rw [fitL_succ, h8]; rfl
        refine Ev.again (k - 1) ⟨[(0, _), (2, _), (3, _), (4, .own 1024 (c + 8) 0 (fitL t (i + 1)).length), (5, .v (.int .i64 ((i + 1 : Nat) : Int)))], [(1024, ⟨1, 21, c + 8, 0, false, rns (fitL t (i + 1))⟩), (520, ⟨8, 108, 0, 0, true, [[.v (.int .i32 97), .v (.int .i32 98), .v (.int .i32 99), .v (.int .i32 120), .v (.int .i32 121), .v (.int .i32 233), .v (.int .i32 8364), .v (.int .i32 128512)]]⟩)], c + 8 + 8⟩ (by omega) ⟨rfl, rfl, rfl, Ev.slot_eq rfl ?_, Ev.slot_int rfl (by rw [Ev.wrap64]; omega), trivial⟩ ⟨Ev.slot_eq rfl ?_, rfl, trivial⟩ (Nat.le_refl _) ⟨i + 1, c + 8, c + 8 + 8, rfl, by omega⟩
        · rw [he]; simp
        · rw [he]; simp [rns]
      · refine Ev.Side.of ?_
        have hm : 2000000003 ≤ maxLen := by decide
        simp [rns, hlen]
        omega
      · exact Ev.Side.of (by decide)
      · exact Ev.Side.of (by decide)
      · refine Ev.Side.of ?_; omega
      · rename_i hx
        have ei : i = t.size := by omega
        subst ei
        exact ⟨rfl, trivial⟩
      · rw [List.drop_zero, List.take_of_length_le (by simp [rns])]
      · refine Ev.Side.of ?_; simp [rns]
    · repeat' (first | (simp only [hr0]) | ((with_reducible first | refine Ev.sided ?_ ?_ | refine Ev.w_put ?_ | refine Ev.w_step ?_ | refine Ev.w_opt ?_); (conv => whnf)) | ((with_reducible refine Ev.chk_k ?_ ?_); rotate_left; (focus first | rfl | (simp only [Ev.nbeq, Bool.and_true, Bool.true_and, Bool.not_false]; done) | ((repeat' (first | exact Ev.nbeq _ | rfl | refine Bool.and_eq_true_iff.2 ⟨?_, ?_⟩)); done)); conv => whnf) | (with_reducible first | refine Ev.c_dec (fun _ => ?_) (fun _ => ?_) | refine Ev.c_not ?_ | refine Ev.c_t ?_ | refine Ev.c_f ?_ | refine Ev.c_br (fun _ => ?_) (fun _ => ?_)) | ((with_reducible refine Ev.br_not ?_); conv => whnf) | (with_reducible first | refine Ev.br_dec (fun _ => ?_) (fun _ => ?_) | refine Ev.br (fun _ => ?_) (fun _ => ?_) | refine Ev.eo_ret ?_ | refine Ev.eo_norm ?_ | refine Ev.t_norm ?_ | refine Ev.k_seq ?_) | ((with_reducible refine Ev.k_reg (hs := []) (tabOK' _ _) (fun Q hQ => ?_)); (simp only [Ev.runE_cons, Ev.runE_nil]); conv => whnf) | (with_reducible refine hQ _ ?_; clear hQ Q) | (with_reducible first | refine Ev.k_cond rfl ?_ | refine Ev.k_skip ?_ | refine Ev.k_block ?_ | refine Ev.k_exit ?_ | refine Ev.k_ret ?_ | refine Ev.t_ret ?_ | refine Ev.t_exit ?_ | refine Ev.b_norm ?_ | refine Ev.b_ret ?_ | refine Ev.b_here ?_ | refine Ev.b_off rfl ?_) | ((with_reducible first | refine Ev.e_ret (fun F hF => ?_) | refine Ev.e_norm (fun F hF => ?_) | refine Ev.eh_ret (fun F hF => ?_) | refine Ev.eh_norm (fun F hF => ?_) | refine Ev.go_k (fun c' => ?_) | refine Ev.byt_cut ?_ | refine Ev.byt_all ?_ | refine Ev.run_cut ?_ | refine Ev.run_all ?_); conv => whnf) | (with_reducible refine hF _ ?_; clear hF F) | (with_reducible refine Ev.u_step ?_) | ((refine Ev.call_det (of_text (fitL t i) (by rw [fitL_len]; omega) (fun n hn => by have := fitL_mem hn; omega)) ?_ rfl ?_; rotate_left); conv => whnf) | (refine Ev.Side.of ?_; exact Nat.le_of_ble_eq_true rfl))
      · have he : fitL t (i + 1) = fitL t i ++ [98] := by rw [fitL_succ, h8]; rfl
        refine Ev.again (k - 1) ⟨[(0, _), (2, _), (3, _), (4, .own 1024 (c + 8) 0 (fitL t (i + 1)).length), (5, .v (.int .i64 ((i + 1 : Nat) : Int)))], [(1024, ⟨1, 21, c + 8, 0, false, rns (fitL t (i + 1))⟩), (520, ⟨8, 108, 0, 0, true, [[.v (.int .i32 97), .v (.int .i32 98), .v (.int .i32 99), .v (.int .i32 120), .v (.int .i32 121), .v (.int .i32 233), .v (.int .i32 8364), .v (.int .i32 128512)]]⟩)], c + 8 + 8⟩ (by omega) ⟨rfl, rfl, rfl, Ev.slot_eq rfl ?_, Ev.slot_int rfl (by rw [Ev.wrap64]; omega), trivial⟩ ⟨Ev.slot_eq rfl ?_, rfl, trivial⟩ (Nat.le_refl _) ⟨i + 1, c + 8, c + 8 + 8, rfl, by omega⟩
        · rw [he]; simp
        · rw [he]; simp [rns]
      · refine Ev.Side.of ?_
        have hm : 2000000003 ≤ maxLen := by decide
        simp [rns, hlen]
        omega
      · exact Ev.Side.of (by decide)
      · exact Ev.Side.of (by decide)
      · refine Ev.Side.of ?_; omega
      · rename_i hx
        have ei : i = t.size := by omega
        subst ei
        exact ⟨rfl, trivial⟩
      · rw [List.drop_zero, List.take_of_length_le (by simp [rns])]
      · refine Ev.Side.of ?_; simp [rns]
    · repeat' (first | (simp only [hr0]) | ((with_reducible first | refine Ev.sided ?_ ?_ | refine Ev.w_put ?_ | refine Ev.w_step ?_ | refine Ev.w_opt ?_); (conv => whnf)) | ((with_reducible refine Ev.chk_k ?_ ?_); rotate_left; (focus first | rfl | (simp only [Ev.nbeq, Bool.and_true, Bool.true_and, Bool.not_false]; done) | ((repeat' (first | exact Ev.nbeq _ | rfl | refine Bool.and_eq_true_iff.2 ⟨?_, ?_⟩)); done)); conv => whnf) | (with_reducible first | refine Ev.c_dec (fun _ => ?_) (fun _ => ?_) | refine Ev.c_not ?_ | refine Ev.c_t ?_ | refine Ev.c_f ?_ | refine Ev.c_br (fun _ => ?_) (fun _ => ?_)) | ((with_reducible refine Ev.br_not ?_); conv => whnf) | (with_reducible first | refine Ev.br_dec (fun _ => ?_) (fun _ => ?_) | refine Ev.br (fun _ => ?_) (fun _ => ?_) | refine Ev.eo_ret ?_ | refine Ev.eo_norm ?_ | refine Ev.t_norm ?_ | refine Ev.k_seq ?_) | ((with_reducible refine Ev.k_reg (hs := []) (tabOK' _ _) (fun Q hQ => ?_)); (simp only [Ev.runE_cons, Ev.runE_nil]); conv => whnf) | (with_reducible refine hQ _ ?_; clear hQ Q) | (with_reducible first | refine Ev.k_cond rfl ?_ | refine Ev.k_skip ?_ | refine Ev.k_block ?_ | refine Ev.k_exit ?_ | refine Ev.k_ret ?_ | refine Ev.t_ret ?_ | refine Ev.t_exit ?_ | refine Ev.b_norm ?_ | refine Ev.b_ret ?_ | refine Ev.b_here ?_ | refine Ev.b_off rfl ?_) | ((with_reducible first | refine Ev.e_ret (fun F hF => ?_) | refine Ev.e_norm (fun F hF => ?_) | refine Ev.eh_ret (fun F hF => ?_) | refine Ev.eh_norm (fun F hF => ?_) | refine Ev.go_k (fun c' => ?_) | refine Ev.byt_cut ?_ | refine Ev.byt_all ?_ | refine Ev.run_cut ?_ | refine Ev.run_all ?_); conv => whnf) | (with_reducible refine hF _ ?_; clear hF F) | (with_reducible refine Ev.u_step ?_) | ((refine Ev.call_det (of_text (fitL t i) (by rw [fitL_len]; omega) (fun n hn => by have := fitL_mem hn; omega)) ?_ rfl ?_; rotate_left); conv => whnf) | (refine Ev.Side.of ?_; exact Nat.le_of_ble_eq_true rfl))
      · have he : fitL t (i + 1) = fitL t i ++ [99] := by rw [fitL_succ, h8]; rfl
        refine Ev.again (k - 1) ⟨[(0, _), (2, _), (3, _), (4, .own 1024 (c + 8) 0 (fitL t (i + 1)).length), (5, .v (.int .i64 ((i + 1 : Nat) : Int)))], [(1024, ⟨1, 21, c + 8, 0, false, rns (fitL t (i + 1))⟩), (520, ⟨8, 108, 0, 0, true, [[.v (.int .i32 97), .v (.int .i32 98), .v (.int .i32 99), .v (.int .i32 120), .v (.int .i32 121), .v (.int .i32 233), .v (.int .i32 8364), .v (.int .i32 128512)]]⟩)], c + 8 + 8⟩ (by omega) ⟨rfl, rfl, rfl, Ev.slot_eq rfl ?_, Ev.slot_int rfl (by rw [Ev.wrap64]; omega), trivial⟩ ⟨Ev.slot_eq rfl ?_, rfl, trivial⟩ (Nat.le_refl _) ⟨i + 1, c + 8, c + 8 + 8, rfl, by omega⟩
        · rw [he]; simp
        · rw [he]; simp [rns]
      · refine Ev.Side.of ?_
        have hm : 2000000003 ≤ maxLen := by decide
        simp [rns, hlen]
        omega
      · exact Ev.Side.of (by decide)
      · exact Ev.Side.of (by decide)
      · refine Ev.Side.of ?_; omega
      · rename_i hx
        have ei : i = t.size := by omega
        subst ei
        exact ⟨rfl, trivial⟩
      · rw [List.drop_zero, List.take_of_length_le (by simp [rns])]
      · refine Ev.Side.of ?_; simp [rns]
    · repeat' (first | (simp only [hr0]) | ((with_reducible first | refine Ev.sided ?_ ?_ | refine Ev.w_put ?_ | refine Ev.w_step ?_ | refine Ev.w_opt ?_); (conv => whnf)) | ((with_reducible refine Ev.chk_k ?_ ?_); rotate_left; (focus first | rfl | (simp only [Ev.nbeq, Bool.and_true, Bool.true_and, Bool.not_false]; done) | ((repeat' (first | exact Ev.nbeq _ | rfl | refine Bool.and_eq_true_iff.2 ⟨?_, ?_⟩)); done)); conv => whnf) | (with_reducible first | refine Ev.c_dec (fun _ => ?_) (fun _ => ?_) | refine Ev.c_not ?_ | refine Ev.c_t ?_ | refine Ev.c_f ?_ | refine Ev.c_br (fun _ => ?_) (fun _ => ?_)) | ((with_reducible refine Ev.br_not ?_); conv => whnf) | (with_reducible first | refine Ev.br_dec (fun _ => ?_) (fun _ => ?_) | refine Ev.br (fun _ => ?_) (fun _ => ?_) | refine Ev.eo_ret ?_ | refine Ev.eo_norm ?_ | refine Ev.t_norm ?_ | refine Ev.k_seq ?_) | ((with_reducible refine Ev.k_reg (hs := []) (tabOK' _ _) (fun Q hQ => ?_)); (simp only [Ev.runE_cons, Ev.runE_nil]); conv => whnf) | (with_reducible refine hQ _ ?_; clear hQ Q) | (with_reducible first | refine Ev.k_cond rfl ?_ | refine Ev.k_skip ?_ | refine Ev.k_block ?_ | refine Ev.k_exit ?_ | refine Ev.k_ret ?_ | refine Ev.t_ret ?_ | refine Ev.t_exit ?_ | refine Ev.b_norm ?_ | refine Ev.b_ret ?_ | refine Ev.b_here ?_ | refine Ev.b_off rfl ?_) | ((with_reducible first | refine Ev.e_ret (fun F hF => ?_) | refine Ev.e_norm (fun F hF => ?_) | refine Ev.eh_ret (fun F hF => ?_) | refine Ev.eh_norm (fun F hF => ?_) | refine Ev.go_k (fun c' => ?_) | refine Ev.byt_cut ?_ | refine Ev.byt_all ?_ | refine Ev.run_cut ?_ | refine Ev.run_all ?_); conv => whnf) | (with_reducible refine hF _ ?_; clear hF F) | (with_reducible refine Ev.u_step ?_) | ((refine Ev.call_det (of_text (fitL t i) (by rw [fitL_len]; omega) (fun n hn => by have := fitL_mem hn; omega)) ?_ rfl ?_; rotate_left); conv => whnf) | (refine Ev.Side.of ?_; exact Nat.le_of_ble_eq_true rfl))
      · have he : fitL t (i + 1) = fitL t i ++ [120] := by rw [fitL_succ, h8]; rfl
        refine Ev.again (k - 1) ⟨[(0, _), (2, _), (3, _), (4, .own 1024 (c + 8) 0 (fitL t (i + 1)).length), (5, .v (.int .i64 ((i + 1 : Nat) : Int)))], [(1024, ⟨1, 21, c + 8, 0, false, rns (fitL t (i + 1))⟩), (520, ⟨8, 108, 0, 0, true, [[.v (.int .i32 97), .v (.int .i32 98), .v (.int .i32 99), .v (.int .i32 120), .v (.int .i32 121), .v (.int .i32 233), .v (.int .i32 8364), .v (.int .i32 128512)]]⟩)], c + 8 + 8⟩ (by omega) ⟨rfl, rfl, rfl, Ev.slot_eq rfl ?_, Ev.slot_int rfl (by rw [Ev.wrap64]; omega), trivial⟩ ⟨Ev.slot_eq rfl ?_, rfl, trivial⟩ (Nat.le_refl _) ⟨i + 1, c + 8, c + 8 + 8, rfl, by omega⟩
        · rw [he]; simp
        · rw [he]; simp [rns]
      · refine Ev.Side.of ?_
        have hm : 2000000003 ≤ maxLen := by decide
        simp [rns, hlen]
        omega
      · exact Ev.Side.of (by decide)
      · exact Ev.Side.of (by decide)
      · refine Ev.Side.of ?_; omega
      · rename_i hx
        have ei : i = t.size := by omega
        subst ei
        exact ⟨rfl, trivial⟩
      · rw [List.drop_zero, List.take_of_length_le (by simp [rns])]
      · refine Ev.Side.of ?_; simp [rns]
    · repeat' (first | (simp only [hr0]) | ((with_reducible first | refine Ev.sided ?_ ?_ | refine Ev.w_put ?_ | refine Ev.w_step ?_ | refine Ev.w_opt ?_); (conv => whnf)) | ((with_reducible refine Ev.chk_k ?_ ?_); rotate_left; (focus first | rfl | (simp only [Ev.nbeq, Bool.and_true, Bool.true_and, Bool.not_false]; done) | ((repeat' (first | exact Ev.nbeq _ | rfl | refine Bool.and_eq_true_iff.2 ⟨?_, ?_⟩)); done)); conv => whnf) | (with_reducible first | refine Ev.c_dec (fun _ => ?_) (fun _ => ?_) | refine Ev.c_not ?_ | refine Ev.c_t ?_ | refine Ev.c_f ?_ | refine Ev.c_br (fun _ => ?_) (fun _ => ?_)) | ((with_reducible refine Ev.br_not ?_); conv => whnf) | (with_reducible first | refine Ev.br_dec (fun _ => ?_) (fun _ => ?_) | refine Ev.br (fun _ => ?_) (fun _ => ?_) | refine Ev.eo_ret ?_ | refine Ev.eo_norm ?_ | refine Ev.t_norm ?_ | refine Ev.k_seq ?_) | ((with_reducible refine Ev.k_reg (hs := []) (tabOK' _ _) (fun Q hQ => ?_)); (simp only [Ev.runE_cons, Ev.runE_nil]); conv => whnf) | (with_reducible refine hQ _ ?_; clear hQ Q) | (with_reducible first | refine Ev.k_cond rfl ?_ | refine Ev.k_skip ?_ | refine Ev.k_block ?_ | refine Ev.k_exit ?_ | refine Ev.k_ret ?_ | refine Ev.t_ret ?_ | refine Ev.t_exit ?_ | refine Ev.b_norm ?_ | refine Ev.b_ret ?_ | refine Ev.b_here ?_ | refine Ev.b_off rfl ?_) | ((with_reducible first | refine Ev.e_ret (fun F hF => ?_) | refine Ev.e_norm (fun F hF => ?_) | refine Ev.eh_ret (fun F hF => ?_) | refine Ev.eh_norm (fun F hF => ?_) | refine Ev.go_k (fun c' => ?_) | refine Ev.byt_cut ?_ | refine Ev.byt_all ?_ | refine Ev.run_cut ?_ | refine Ev.run_all ?_); conv => whnf) | (with_reducible refine hF _ ?_; clear hF F) | (with_reducible refine Ev.u_step ?_) | ((refine Ev.call_det (of_text (fitL t i) (by rw [fitL_len]; omega) (fun n hn => by have := fitL_mem hn; omega)) ?_ rfl ?_; rotate_left); conv => whnf) | (refine Ev.Side.of ?_; exact Nat.le_of_ble_eq_true rfl))
      · have he : fitL t (i + 1) = fitL t i ++ [121] := by rw [fitL_succ, h8]; rfl
        refine Ev.again (k - 1) ⟨[(0, _), (2, _), (3, _), (4, .own 1024 (c + 8) 0 (fitL t (i + 1)).length), (5, .v (.int .i64 ((i + 1 : Nat) : Int)))], [(1024, ⟨1, 21, c + 8, 0, false, rns (fitL t (i + 1))⟩), (520, ⟨8, 108, 0, 0, true, [[.v (.int .i32 97), .v (.int .i32 98), .v (.int .i32 99), .v (.int .i32 120), .v (.int .i32 121), .v (.int .i32 233), .v (.int .i32 8364), .v (.int .i32 128512)]]⟩)], c + 8 + 8⟩ (by omega) ⟨rfl, rfl, rfl, Ev.slot_eq rfl ?_, Ev.slot_int rfl (by rw [Ev.wrap64]; omega), trivial⟩ ⟨Ev.slot_eq rfl ?_, rfl, trivial⟩ (Nat.le_refl _) ⟨i + 1, c + 8, c + 8 + 8, rfl, by omega⟩
        · rw [he]; simp
        · rw [he]; simp [rns]
      · refine Ev.Side.of ?_
        have hm : 2000000003 ≤ maxLen := by decide
        simp [rns, hlen]
        omega
      · exact Ev.Side.of (by decide)
      · exact Ev.Side.of (by decide)
      · refine Ev.Side.of ?_; omega
      · rename_i hx
        have ei : i = t.size := by omega
        subst ei
        exact ⟨rfl, trivial⟩
      · rw [List.drop_zero, List.take_of_length_le (by simp [rns])]
      · refine Ev.Side.of ?_; simp [rns]
    · repeat' (first | (simp only [hr0]) | ((with_reducible first | refine Ev.sided ?_ ?_ | refine Ev.w_put ?_ | refine Ev.w_step ?_ | refine Ev.w_opt ?_); (conv => whnf)) | ((with_reducible refine Ev.chk_k ?_ ?_); rotate_left; (focus first | rfl | (simp only [Ev.nbeq, Bool.and_true, Bool.true_and, Bool.not_false]; done) | ((repeat' (first | exact Ev.nbeq _ | rfl | refine Bool.and_eq_true_iff.2 ⟨?_, ?_⟩)); done)); conv => whnf) | (with_reducible first | refine Ev.c_dec (fun _ => ?_) (fun _ => ?_) | refine Ev.c_not ?_ | refine Ev.c_t ?_ | refine Ev.c_f ?_ | refine Ev.c_br (fun _ => ?_) (fun _ => ?_)) | ((with_reducible refine Ev.br_not ?_); conv => whnf) | (with_reducible first | refine Ev.br_dec (fun _ => ?_) (fun _ => ?_) | refine Ev.br (fun _ => ?_) (fun _ => ?_) | refine Ev.eo_ret ?_ | refine Ev.eo_norm ?_ | refine Ev.t_norm ?_ | refine Ev.k_seq ?_) | ((with_reducible refine Ev.k_reg (hs := []) (tabOK' _ _) (fun Q hQ => ?_)); (simp only [Ev.runE_cons, Ev.runE_nil]); conv => whnf) | (with_reducible refine hQ _ ?_; clear hQ Q) | (with_reducible first | refine Ev.k_cond rfl ?_ | refine Ev.k_skip ?_ | refine Ev.k_block ?_ | refine Ev.k_exit ?_ | refine Ev.k_ret ?_ | refine Ev.t_ret ?_ | refine Ev.t_exit ?_ | refine Ev.b_norm ?_ | refine Ev.b_ret ?_ | refine Ev.b_here ?_ | refine Ev.b_off rfl ?_) | ((with_reducible first | refine Ev.e_ret (fun F hF => ?_) | refine Ev.e_norm (fun F hF => ?_) | refine Ev.eh_ret (fun F hF => ?_) | refine Ev.eh_norm (fun F hF => ?_) | refine Ev.go_k (fun c' => ?_) | refine Ev.byt_cut ?_ | refine Ev.byt_all ?_ | refine Ev.run_cut ?_ | refine Ev.run_all ?_); conv => whnf) | (with_reducible refine hF _ ?_; clear hF F) | (with_reducible refine Ev.u_step ?_) | ((refine Ev.call_det (of_text (fitL t i) (by rw [fitL_len]; omega) (fun n hn => by have := fitL_mem hn; omega)) ?_ rfl ?_; rotate_left); conv => whnf) | (refine Ev.Side.of ?_; exact Nat.le_of_ble_eq_true rfl))
      · have he : fitL t (i + 1) = fitL t i ++ [233] := by rw [fitL_succ, h8]; rfl
        refine Ev.again (k - 1) ⟨[(0, _), (2, _), (3, _), (4, .own 1024 (c + 8) 0 (fitL t (i + 1)).length), (5, .v (.int .i64 ((i + 1 : Nat) : Int)))], [(1024, ⟨1, 21, c + 8, 0, false, rns (fitL t (i + 1))⟩), (520, ⟨8, 108, 0, 0, true, [[.v (.int .i32 97), .v (.int .i32 98), .v (.int .i32 99), .v (.int .i32 120), .v (.int .i32 121), .v (.int .i32 233), .v (.int .i32 8364), .v (.int .i32 128512)]]⟩)], c + 8 + 8⟩ (by omega) ⟨rfl, rfl, rfl, Ev.slot_eq rfl ?_, Ev.slot_int rfl (by rw [Ev.wrap64]; omega), trivial⟩ ⟨Ev.slot_eq rfl ?_, rfl, trivial⟩ (Nat.le_refl _) ⟨i + 1, c + 8, c + 8 + 8, rfl, by omega⟩
        · rw [he]; simp
        · rw [he]; simp [rns]
      · refine Ev.Side.of ?_
        have hm : 2000000003 ≤ maxLen := by decide
        simp [rns, hlen]
        omega
      · exact Ev.Side.of (by decide)
      · exact Ev.Side.of (by decide)
      · refine Ev.Side.of ?_; omega
      · rename_i hx
        have ei : i = t.size := by omega
        subst ei
        exact ⟨rfl, trivial⟩
      · rw [List.drop_zero, List.take_of_length_le (by simp [rns])]
      · refine Ev.Side.of ?_; simp [rns]
    · repeat' (first | (simp only [hr0]) | ((with_reducible first | refine Ev.sided ?_ ?_ | refine Ev.w_put ?_ | refine Ev.w_step ?_ | refine Ev.w_opt ?_); (conv => whnf)) | ((with_reducible refine Ev.chk_k ?_ ?_); rotate_left; (focus first | rfl | (simp only [Ev.nbeq, Bool.and_true, Bool.true_and, Bool.not_false]; done) | ((repeat' (first | exact Ev.nbeq _ | rfl | refine Bool.and_eq_true_iff.2 ⟨?_, ?_⟩)); done)); conv => whnf) | (with_reducible first | refine Ev.c_dec (fun _ => ?_) (fun _ => ?_) | refine Ev.c_not ?_ | refine Ev.c_t ?_ | refine Ev.c_f ?_ | refine Ev.c_br (fun _ => ?_) (fun _ => ?_)) | ((with_reducible refine Ev.br_not ?_); conv => whnf) | (with_reducible first | refine Ev.br_dec (fun _ => ?_) (fun _ => ?_) | refine Ev.br (fun _ => ?_) (fun _ => ?_) | refine Ev.eo_ret ?_ | refine Ev.eo_norm ?_ | refine Ev.t_norm ?_ | refine Ev.k_seq ?_) | ((with_reducible refine Ev.k_reg (hs := []) (tabOK' _ _) (fun Q hQ => ?_)); (simp only [Ev.runE_cons, Ev.runE_nil]); conv => whnf) | (with_reducible refine hQ _ ?_; clear hQ Q) | (with_reducible first | refine Ev.k_cond rfl ?_ | refine Ev.k_skip ?_ | refine Ev.k_block ?_ | refine Ev.k_exit ?_ | refine Ev.k_ret ?_ | refine Ev.t_ret ?_ | refine Ev.t_exit ?_ | refine Ev.b_norm ?_ | refine Ev.b_ret ?_ | refine Ev.b_here ?_ | refine Ev.b_off rfl ?_) | ((with_reducible first | refine Ev.e_ret (fun F hF => ?_) | refine Ev.e_norm (fun F hF => ?_) | refine Ev.eh_ret (fun F hF => ?_) | refine Ev.eh_norm (fun F hF => ?_) | refine Ev.go_k (fun c' => ?_) | refine Ev.byt_cut ?_ | refine Ev.byt_all ?_ | refine Ev.run_cut ?_ | refine Ev.run_all ?_); conv => whnf) | (with_reducible refine hF _ ?_; clear hF F) | (with_reducible refine Ev.u_step ?_) | ((refine Ev.call_det (of_text (fitL t i) (by rw [fitL_len]; omega) (fun n hn => by have := fitL_mem hn; omega)) ?_ rfl ?_; rotate_left); conv => whnf) | (refine Ev.Side.of ?_; exact Nat.le_of_ble_eq_true rfl))
      · have he : fitL t (i + 1) = fitL t i ++ [8364] := by rw [fitL_succ, h8]; rfl
        refine Ev.again (k - 1) ⟨[(0, _), (2, _), (3, _), (4, .own 1024 (c + 8) 0 (fitL t (i + 1)).length), (5, .v (.int .i64 ((i + 1 : Nat) : Int)))], [(1024, ⟨1, 21, c + 8, 0, false, rns (fitL t (i + 1))⟩), (520, ⟨8, 108, 0, 0, true, [[.v (.int .i32 97), .v (.int .i32 98), .v (.int .i32 99), .v (.int .i32 120), .v (.int .i32 121), .v (.int .i32 233), .v (.int .i32 8364), .v (.int .i32 128512)]]⟩)], c + 8 + 8⟩ (by omega) ⟨rfl, rfl, rfl, Ev.slot_eq rfl ?_, Ev.slot_int rfl (by rw [Ev.wrap64]; omega), trivial⟩ ⟨Ev.slot_eq rfl ?_, rfl, trivial⟩ (Nat.le_refl _) ⟨i + 1, c + 8, c + 8 + 8, rfl, by omega⟩
        · rw [he]; simp
        · rw [he]; simp [rns]
      · refine Ev.Side.of ?_
        have hm : 2000000003 ≤ maxLen := by decide
        simp [rns, hlen]
        omega
      · exact Ev.Side.of (by decide)
      · exact Ev.Side.of (by decide)
      · refine Ev.Side.of ?_; omega
      · rename_i hx
        have ei : i = t.size := by omega
        subst ei
        exact ⟨rfl, trivial⟩
      · rw [List.drop_zero, List.take_of_length_le (by simp [rns])]
      · refine Ev.Side.of ?_; simp [rns]
    · repeat' (first | (simp only [hr0]) | ((with_reducible first | refine Ev.sided ?_ ?_ | refine Ev.w_put ?_ | refine Ev.w_step ?_ | refine Ev.w_opt ?_); (conv => whnf)) | ((with_reducible refine Ev.chk_k ?_ ?_); rotate_left; (focus first | rfl | (simp only [Ev.nbeq, Bool.and_true, Bool.true_and, Bool.not_false]; done) | ((repeat' (first | exact Ev.nbeq _ | rfl | refine Bool.and_eq_true_iff.2 ⟨?_, ?_⟩)); done)); conv => whnf) | (with_reducible first | refine Ev.c_dec (fun _ => ?_) (fun _ => ?_) | refine Ev.c_not ?_ | refine Ev.c_t ?_ | refine Ev.c_f ?_ | refine Ev.c_br (fun _ => ?_) (fun _ => ?_)) | ((with_reducible refine Ev.br_not ?_); conv => whnf) | (with_reducible first | refine Ev.br_dec (fun _ => ?_) (fun _ => ?_) | refine Ev.br (fun _ => ?_) (fun _ => ?_) | refine Ev.eo_ret ?_ | refine Ev.eo_norm ?_ | refine Ev.t_norm ?_ | refine Ev.k_seq ?_) | ((with_reducible refine Ev.k_reg (hs := []) (tabOK' _ _) (fun Q hQ => ?_)); (simp only [Ev.runE_cons, Ev.runE_nil]); conv => whnf) | (with_reducible refine hQ _ ?_; clear hQ Q) | (with_reducible first | refine Ev.k_cond rfl ?_ | refine Ev.k_skip ?_ | refine Ev.k_block ?_ | refine Ev.k_exit ?_ | refine Ev.k_ret ?_ | refine Ev.t_ret ?_ | refine Ev.t_exit ?_ | refine Ev.b_norm ?_ | refine Ev.b_ret ?_ | refine Ev.b_here ?_ | refine Ev.b_off rfl ?_) | ((with_reducible first | refine Ev.e_ret (fun F hF => ?_) | refine Ev.e_norm (fun F hF => ?_) | refine Ev.eh_ret (fun F hF => ?_) | refine Ev.eh_norm (fun F hF => ?_) | refine Ev.go_k (fun c' => ?_) | refine Ev.byt_cut ?_ | refine Ev.byt_all ?_ | refine Ev.run_cut ?_ | refine Ev.run_all ?_); conv => whnf) | (with_reducible refine hF _ ?_; clear hF F) | (with_reducible refine Ev.u_step ?_) | ((refine Ev.call_det (of_text (fitL t i) (by rw [fitL_len]; omega) (fun n hn => by have := fitL_mem hn; omega)) ?_ rfl ?_; rotate_left); conv => whnf) | (refine Ev.Side.of ?_; exact Nat.le_of_ble_eq_true rfl))
      · have he : fitL t (i + 1) = fitL t i ++ [128512] := by rw [fitL_succ, h8]; rfl
        refine Ev.again (k - 1) ⟨[(0, _), (2, _), (3, _), (4, .own 1024 (c + 8) 0 (fitL t (i + 1)).length), (5, .v (.int .i64 ((i + 1 : Nat) : Int)))], [(1024, ⟨1, 21, c + 8, 0, false, rns (fitL t (i + 1))⟩), (520, ⟨8, 108, 0, 0, true, [[.v (.int .i32 97), .v (.int .i32 98), .v (.int .i32 99), .v (.int .i32 120), .v (.int .i32 121), .v (.int .i32 233), .v (.int .i32 8364), .v (.int .i32 128512)]]⟩)], c + 8 + 8⟩ (by omega) ⟨rfl, rfl, rfl, Ev.slot_eq rfl ?_, Ev.slot_int rfl (by rw [Ev.wrap64]; omega), trivial⟩ ⟨Ev.slot_eq rfl ?_, rfl, trivial⟩ (Nat.le_refl _) ⟨i + 1, c + 8, c + 8 + 8, rfl, by omega⟩
        · rw [he]; simp
        · rw [he]; simp [rns]
      · refine Ev.Side.of ?_
        have hm : 2000000003 ≤ maxLen := by decide
        simp [rns, hlen]
        omega
      · exact Ev.Side.of (by decide)
      · exact Ev.Side.of (by decide)
      · refine Ev.Side.of ?_; omega
      · rename_i hx
        have ei : i = t.size := by omega
        subst ei
        exact ⟨rfl, trivial⟩
      · rw [List.drop_zero, List.take_of_length_le (by simp [rns])]
      · refine Ev.Side.of ?_; simp [rns]
  all_goals (refine Ev.Side.of ?_; exact Nat.le_refl _)
end Go.Proofs.YthdjbgbfboppcaaDoor.Abs

namespace Go.Proofs.YthdjbgbfboppcaaDoor.Abs
set_option linter.unusedSimpArgs false
set_option linter.unusedVariables false
open Go Go.Lib
set_option linter.unusedSimpArgs false
def encB (l : List Int) : List UInt8 := (l.flatMap encI).map fun n => UInt8.ofNat n.toNat
def Eight (l : List Int) : Prop := ∀ n ∈ l, n = 97 ∨ n = 98 ∨ n = 99 ∨ n = 120 ∨ n = 121 ∨ n = 233 ∨ n = 8364 ∨ n = 128512
theorem dec_enc {n : Int} (h : n = 97 ∨ n = 98 ∨ n = 99 ∨ n = 120 ∨ n = 121 ∨ n = 233 ∨ n = 8364 ∨ n = 128512) (rest : List UInt8) :
    ∃ w, decodeL ((encI n).map (fun n => UInt8.ofNat n.toNat) ++ rest) = (n.toNat, w) ∧ w = (encI n).length ∧ n.toNat ≠ 65533 := by
  rcases h with rfl | rfl | rfl | rfl | rfl | rfl | rfl | rfl
  · refine ⟨1, ?_, by simp [encI, sizeF], by decide⟩
    show decodeL ((97 : UInt8) :: rest) = (97, 1)
    rw [decodeL_N]; simp [decodeN]
  · refine ⟨1, ?_, by simp [encI, sizeF], by decide⟩
    show decodeL ((98 : UInt8) :: rest) = (98, 1)
    rw [decodeL_N]; simp [decodeN]
  · refine ⟨1, ?_, by simp [encI, sizeF], by decide⟩
    show decodeL ((99 : UInt8) :: rest) = (99, 1)
    rw [decodeL_N]; simp [decodeN]
  · refine ⟨1, ?_, by simp [encI, sizeF], by decide⟩
    show decodeL ((120 : UInt8) :: rest) = (120, 1)
    rw [decodeL_N]; simp [decodeN]
  · refine ⟨1, ?_, by simp [encI, sizeF], by decide⟩
    show decodeL ((121 : UInt8) :: rest) = (121, 1)
    rw [decodeL_N]; simp [decodeN]
  · refine ⟨2, ?_, by simp [encI, sizeF], by decide⟩
    show decodeL ((195 : UInt8) :: (169 : UInt8) :: rest) = (233, 2)
    rw [decodeL_N]; simp [decodeN]
  · refine ⟨3, ?_, by simp [encI, sizeF], by decide⟩
    show decodeL ((226 : UInt8) :: (130 : UInt8) :: (172 : UInt8) :: rest) = (8364, 3)
    rw [decodeL_N]; simp [decodeN]
  · refine ⟨4, ?_, by simp [encI, sizeF], by decide⟩
    show decodeL ((240 : UInt8) :: (159 : UInt8) :: (152 : UInt8) :: (128 : UInt8) :: rest) = (128512, 4)
    rw [decodeL_N]; simp [decodeN]
theorem encB_nil : encB [] = [] := rfl
theorem encB_cons (n : Int) (l : List Int) : encB (n :: l) = (encI n).map (fun n => UInt8.ofNat n.toNat) ++ encB l := by simp [encB]
theorem enc_ne {n : Int} (h : n = 97 ∨ n = 98 ∨ n = 99 ∨ n = 120 ∨ n = 121 ∨ n = 233 ∨ n = 8364 ∨ n = 128512) (rest : List UInt8) : (encI n).map (fun n => UInt8.ofNat n.toNat) ++ rest ≠ [] := by
  rcases h with rfl | rfl | rfl | rfl | rfl | rfl | rfl | rfl <;> simp [encI, sizeF]
theorem valid_enc : ∀ {l : List Int}, Eight l → ∀ rest, validD (encB l ++ rest) = validD rest
  | [], _, rest => rfl
  | n :: l, h, rest => by
    have hn := h n (by simp)
    have ih := valid_enc (l := l) (fun m hm => h m (by simp [hm])) rest
    rw [encB_cons, List.append_assoc]
    obtain ⟨w, hd, hw, hne⟩ := dec_enc hn (encB l ++ rest)
    rw [validD_step (enc_ne hn _), hd, if_neg (by simp [hne]), hw]
    rw [show (encI n).length = ((encI n).map (fun n => UInt8.ofNat n.toNat)).length by simp, List.drop_left]
    exact ih
theorem pos_enc : ∀ {l : List Int}, Eight l → ∀ rest (a : Int), ∃ b, (posD (encB l ++ rest) a).length = l.length + (posD rest b).length
  | [], _, rest, a => ⟨a, by simp [encB_nil]⟩
  | n :: l, h, rest, a => by
    have hn := h n (by simp)
    rw [encB_cons, List.append_assoc]
    obtain ⟨w, hd, hw, hne⟩ := dec_enc hn (encB l ++ rest)
    rw [posD_step (enc_ne hn _), hd, hw]
    obtain ⟨b, hb⟩ := pos_enc (l := l) (fun m hm => h m (by simp [hm])) rest (a + (encI n).length)
    refine ⟨b, ?_⟩
    rw [show (encI n).length = ((encI n).map (fun n => UInt8.ofNat n.toNat)).length by simp, List.drop_left]
    rw [List.length_cons, List.length_cons]
    simp only [List.length_map]
    rw [hb]; omega
theorem valid_all {l : List Int} (h : Eight l) : validD (encB l) = true := by
  have := valid_enc h []
  rw [List.append_nil] at this; rw [this]; rfl
theorem count_all {l : List Int} (h : Eight l) : countD (encB l) = l.length := by
  unfold countD
  rw [if_pos (valid_all h)]
  obtain ⟨b, hb⟩ := pos_enc h [] 0
  rw [List.append_nil] at hb; rw [hb, posD_nil]; simp
theorem strI_list (l : List Int) : (strI (l.flatMap encI)).data.toList = encB l := by simp [strI, encB]
theorem eight_fit (t : ByteArray) (k : Nat) : Eight (fitL t k) := fun n hn => fitL_mem hn
theorem enc_len {l : List Int} (h : Eight l) : l.length ≤ (encB l).length ∧ (encB l).length ≤ 4 * l.length := by
  induction l with
  | nil => simp [encB]
  | cons n l ih =>
    obtain ⟨i1, i2⟩ := ih (fun m hm => h m (by simp [hm]))
    have hn := h n (by simp)
    rw [encB_cons, List.length_append, List.length_map, List.length_cons]
    have : 1 ≤ (encI n).length ∧ (encI n).length ≤ 4 := by
      rcases hn with rfl | rfl | rfl | rfl | rfl | rfl | rfl | rfl <;> simp [encI, sizeF]
    omega
theorem fit_size (t : ByteArray) (ht : t.size ≤ 1000) : (fitS t).size ≤ 4000 := by
  have h := (enc_len (eight_fit t t.size)).2
  rw [fitL_len, ← strI_list, len_list] at h
  unfold fitS; omega
theorem fit_list (t : ByteArray) : (fitS t).data.toList = encB (fitL t t.size) := strI_list _
theorem fit_valid (t : ByteArray) : validD (fitS t).data.toList = true := by rw [fit_list]; exact valid_all (eight_fit _ _)
theorem fit_count (t : ByteArray) : countD (fitS t).data.toList = t.size := by rw [fit_list, count_all (eight_fit _ _), fitL_len]
theorem app_list (a b : ByteArray) : (a ++ b).data.toList = a.data.toList ++ b.data.toList := by simp
end Go.Proofs.YthdjbgbfboppcaaDoor.Abs
