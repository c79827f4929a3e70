/- A part of the proof: a calculus over values, and contracts of functions. No condition. -/
import Derived.Test.YthdjbgbfboppcaaDoorZ2
import Derived.Test.YthdjbgbfboppcaaDoorProg
import Derived.Lib.DecodeN
import Derived.Lib.ValidU
import Derived.Lib.MapLaws
import Derived.Shelf.Unicode.ValidAny
import Derived.WalkKit
import Derived.Laws.RangeString
import Derived.Laws.Strings
import Derived.Laws.RangeAny
/- The types' facts, as the calculus asks for them. -/
namespace Go.Proofs.YthdjbgbfboppcaaDoor.Abs
open Go
set_option maxRecDepth 100000
theorem ti_0 : ti Tryd.prog 0 = some (some (Value.tuple #[]), 1, 0) := by rfl
theorem tsz_0 : tsz Tryd.prog 0 = some (false, 1) := by rfl
theorem kindOf_0 : kindOf Tryd.prog 0 = some TK.other := by rfl
theorem ti_1 : ti Tryd.prog 1 = some (some Value.nilFunc, 1, 8) := by rfl
theorem tsz_1 : tsz Tryd.prog 1 = some (false, 1) := by rfl
theorem kindOf_1 : kindOf Tryd.prog 1 = some TK.other := by rfl
theorem ti_2 : ti Tryd.prog 2 = some (some (Value.int IntKind.i64 0), 1, 8) := by rfl
theorem tsz_2 : tsz Tryd.prog 2 = some (false, 1) := by rfl
theorem kindOf_2 : kindOf Tryd.prog 2 = some (TK.int IntKind.i64) := by rfl
theorem ti_3 : ti Tryd.prog 3 = some (some (Value.int IntKind.i64 0), 1, 8) := by rfl
theorem tsz_3 : tsz Tryd.prog 3 = some (false, 1) := by rfl
theorem kindOf_3 : kindOf Tryd.prog 3 = some (TK.int IntKind.i64) := by rfl
theorem ti_4 : ti Tryd.prog 4 = some (some (Value.bool false), 1, 1) := by rfl
theorem tsz_4 : tsz Tryd.prog 4 = some (false, 1) := by rfl
theorem kindOf_4 : kindOf Tryd.prog 4 = some TK.bool := by rfl
theorem ti_5 : ti Tryd.prog 5 = some (some (Value.int IntKind.u8 0), 1, 1) := by rfl
theorem tsz_5 : tsz Tryd.prog 5 = some (false, 1) := by rfl
theorem kindOf_5 : kindOf Tryd.prog 5 = some (TK.int IntKind.u8) := by rfl
theorem ti_6 : ti Tryd.prog 6 = some (some (Value.int IntKind.u8 0), 1, 1) := by rfl
theorem tsz_6 : tsz Tryd.prog 6 = some (false, 1) := by rfl
theorem kindOf_6 : kindOf Tryd.prog 6 = some (TK.int IntKind.u8) := by rfl
theorem ti_7 : ti Tryd.prog 7 = some (some (Value.agg #[Value.int IntKind.i64 0, Value.int IntKind.i64 0, Value.bool false, Value.int IntKind.u8 0]), 4, 24) := by rfl
theorem tsz_7 : tsz Tryd.prog 7 = some (true, 4) := by rfl
theorem lay_7 : lay Tryd.prog 7 = some ([AV.v (Value.int IntKind.i64 0), AV.v (Value.int IntKind.i64 0), AV.v (Value.bool false), AV.v (Value.int IntKind.u8 0)], [(0, 1), (1, 1), (2, 1), (3, 1)]) := by rfl
theorem kindOf_7 : kindOf Tryd.prog 7 = some TK.other := by rfl
theorem fld_7_0 : fld Tryd.prog 7 0 = some (0, 2, 1) := by rfl
theorem fld_7_1 : fld Tryd.prog 7 1 = some (1, 3, 1) := by rfl
theorem fld_7_2 : fld Tryd.prog 7 2 = some (2, 4, 1) := by rfl
theorem fld_7_3 : fld Tryd.prog 7 3 = some (3, 6, 1) := by rfl
theorem ti_8 : ti Tryd.prog 8 = some (some (Value.agg #[Value.int IntKind.i64 0, Value.int IntKind.i64 0, Value.bool false, Value.int IntKind.u8 0]), 4, 24) := by rfl
theorem tsz_8 : tsz Tryd.prog 8 = some (true, 4) := by rfl
theorem lay_8 : lay Tryd.prog 8 = some ([AV.v (Value.int IntKind.i64 0), AV.v (Value.int IntKind.i64 0), AV.v (Value.bool false), AV.v (Value.int IntKind.u8 0)], [(0, 1), (1, 1), (2, 1), (3, 1)]) := by rfl
theorem kindOf_8 : kindOf Tryd.prog 8 = some TK.other := by rfl
theorem fld_8_0 : fld Tryd.prog 8 0 = some (0, 2, 1) := by rfl
theorem fld_8_1 : fld Tryd.prog 8 1 = some (1, 3, 1) := by rfl
theorem fld_8_2 : fld Tryd.prog 8 2 = some (2, 4, 1) := by rfl
theorem fld_8_3 : fld Tryd.prog 8 3 = some (3, 6, 1) := by rfl
theorem ti_9 : ti Tryd.prog 9 = some (some (Value.string (⟨#[]⟩ : ByteArray)), 1, 16) := by rfl
theorem tsz_9 : tsz Tryd.prog 9 = some (false, 1) := by rfl
theorem kindOf_9 : kindOf Tryd.prog 9 = some TK.str := by rfl
theorem ti_10 : ti Tryd.prog 10 = some (some (Value.string (⟨#[]⟩ : ByteArray)), 1, 16) := by rfl
theorem tsz_10 : tsz Tryd.prog 10 = some (false, 1) := by rfl
theorem kindOf_10 : kindOf Tryd.prog 10 = some TK.str := by rfl
theorem ti_11 : ti Tryd.prog 11 = some (some (Value.string (⟨#[]⟩ : ByteArray)), 1, 16) := by rfl
theorem tsz_11 : tsz Tryd.prog 11 = some (false, 1) := by rfl
theorem kindOf_11 : kindOf Tryd.prog 11 = some TK.str := by rfl
theorem ti_12 : ti Tryd.prog 12 = some (some (Value.int IntKind.u64 0), 1, 8) := by rfl
theorem tsz_12 : tsz Tryd.prog 12 = some (false, 1) := by rfl
theorem kindOf_12 : kindOf Tryd.prog 12 = some (TK.int IntKind.u64) := by rfl
theorem ti_13 : ti Tryd.prog 13 = some (some (Value.agg #[Value.string (⟨#[]⟩ : ByteArray), Value.int IntKind.u64 0]), 2, 24) := by rfl
theorem tsz_13 : tsz Tryd.prog 13 = some (true, 2) := by rfl
theorem lay_13 : lay Tryd.prog 13 = some ([AV.v (Value.string (⟨#[]⟩ : ByteArray)), AV.v (Value.int IntKind.u64 0)], [(0, 1), (1, 1)]) := by rfl
theorem kindOf_13 : kindOf Tryd.prog 13 = some TK.other := by rfl
theorem fld_13_0 : fld Tryd.prog 13 0 = some (0, 9, 1) := by rfl
theorem fld_13_1 : fld Tryd.prog 13 1 = some (1, 12, 1) := by rfl
theorem ti_14 : ti Tryd.prog 14 = some (some (Value.agg #[Value.string (⟨#[]⟩ : ByteArray), Value.int IntKind.u64 0]), 2, 24) := by rfl
theorem tsz_14 : tsz Tryd.prog 14 = some (true, 2) := by rfl
theorem lay_14 : lay Tryd.prog 14 = some ([AV.v (Value.string (⟨#[]⟩ : ByteArray)), AV.v (Value.int IntKind.u64 0)], [(0, 1), (1, 1)]) := by rfl
theorem kindOf_14 : kindOf Tryd.prog 14 = some TK.other := by rfl
theorem fld_14_0 : fld Tryd.prog 14 0 = some (0, 9, 1) := by rfl
theorem fld_14_1 : fld Tryd.prog 14 1 = some (1, 12, 1) := by rfl
theorem ti_15 : ti Tryd.prog 15 = some (some (Value.pointer none), 1, 8) := by rfl
theorem tsz_15 : tsz Tryd.prog 15 = some (false, 1) := by rfl
theorem kindOf_15 : kindOf Tryd.prog 15 = some TK.ptr := by rfl
theorem ti_16 : ti Tryd.prog 16 = some (some (Value.pointer none), 1, 8) := by rfl
theorem tsz_16 : tsz Tryd.prog 16 = some (false, 1) := by rfl
theorem kindOf_16 : kindOf Tryd.prog 16 = some TK.ptr := by rfl
theorem ti_17 : ti Tryd.prog 17 = some (some (Value.pointer none), 1, 8) := by rfl
theorem tsz_17 : tsz Tryd.prog 17 = some (false, 1) := by rfl
theorem kindOf_17 : kindOf Tryd.prog 17 = some TK.ptr := by rfl
theorem ti_18 : ti Tryd.prog 18 = some (some (Value.agg #[Value.pointer none]), 1, 8) := by rfl
theorem tsz_18 : tsz Tryd.prog 18 = some (true, 1) := by rfl
theorem lay_18 : lay Tryd.prog 18 = some ([AV.v (Value.pointer none)], [(0, 1)]) := by rfl
theorem kindOf_18 : kindOf Tryd.prog 18 = some TK.other := by rfl
theorem fld_18_0 : fld Tryd.prog 18 0 = some (0, 17, 1) := by rfl
theorem ti_19 : ti Tryd.prog 19 = some (some (Value.agg #[Value.pointer none]), 1, 8) := by rfl
theorem tsz_19 : tsz Tryd.prog 19 = some (true, 1) := by rfl
theorem lay_19 : lay Tryd.prog 19 = some ([AV.v (Value.pointer none)], [(0, 1)]) := by rfl
theorem kindOf_19 : kindOf Tryd.prog 19 = some TK.other := by rfl
theorem fld_19_0 : fld Tryd.prog 19 0 = some (0, 17, 1) := by rfl
theorem ti_20 : ti Tryd.prog 20 = some (some Value.nilIface, 1, 16) := by rfl
theorem tsz_20 : tsz Tryd.prog 20 = some (false, 1) := by rfl
theorem kindOf_20 : kindOf Tryd.prog 20 = some TK.other := by rfl
theorem ti_21 : ti Tryd.prog 21 = some (some (Value.int IntKind.i32 0), 1, 4) := by rfl
theorem tsz_21 : tsz Tryd.prog 21 = some (false, 1) := by rfl
theorem kindOf_21 : kindOf Tryd.prog 21 = some (TK.int IntKind.i32) := by rfl
theorem ti_22 : ti Tryd.prog 22 = some (some (Value.slice none 0 0), 1, 24) := by rfl
theorem tsz_22 : tsz Tryd.prog 22 = some (false, 1) := by rfl
theorem sle_22 : sle Tryd.prog 22 = some (5, some (Value.int IntKind.u8 0), 1, 1) := by rfl
theorem arr_22 : arr Tryd.prog 22 = none := by rfl
theorem kindOf_22 : kindOf Tryd.prog 22 = some (TK.sl 5) := by rfl
theorem ti_23 : ti Tryd.prog 23 = some (some Value.nilFunc, 1, 8) := by rfl
theorem tsz_23 : tsz Tryd.prog 23 = some (false, 1) := by rfl
theorem kindOf_23 : kindOf Tryd.prog 23 = some TK.other := by rfl
theorem ti_24 : ti Tryd.prog 24 = some (some Value.nilFunc, 1, 8) := by rfl
theorem tsz_24 : tsz Tryd.prog 24 = some (false, 1) := by rfl
theorem kindOf_24 : kindOf Tryd.prog 24 = some TK.other := by rfl
theorem ti_25 : ti Tryd.prog 25 = some (some (Value.slice none 0 0), 1, 24) := by rfl
theorem tsz_25 : tsz Tryd.prog 25 = some (false, 1) := by rfl
theorem sle_25 : sle Tryd.prog 25 = some (35, some (Value.agg #[Value.int IntKind.i64 0, Value.int IntKind.i64 0, Value.string (⟨#[]⟩ : ByteArray)]), 3, 32) := by rfl
theorem arr_25 : arr Tryd.prog 25 = none := by rfl
theorem kindOf_25 : kindOf Tryd.prog 25 = some (TK.sl 35) := by rfl
theorem ti_26 : ti Tryd.prog 26 = some (some (Value.int IntKind.i64 0), 1, 8) := by rfl
theorem tsz_26 : tsz Tryd.prog 26 = some (false, 1) := by rfl
theorem kindOf_26 : kindOf Tryd.prog 26 = some (TK.int IntKind.i64) := by rfl
theorem ti_27 : ti Tryd.prog 27 = some (some (Value.tuple #[Value.slice none 0 0, Value.int IntKind.i64 0, Value.int IntKind.i64 0]), 1, 0) := by rfl
theorem tsz_27 : tsz Tryd.prog 27 = some (false, 1) := by rfl
theorem kindOf_27 : kindOf Tryd.prog 27 = some TK.other := by rfl
theorem ti_28 : ti Tryd.prog 28 = some (some Value.nilFunc, 1, 8) := by rfl
theorem tsz_28 : tsz Tryd.prog 28 = some (false, 1) := by rfl
theorem kindOf_28 : kindOf Tryd.prog 28 = some TK.other := by rfl
theorem ti_29 : ti Tryd.prog 29 = some (some (Value.tuple #[Value.slice none 0 0, Value.int IntKind.i64 0]), 1, 0) := by rfl
theorem tsz_29 : tsz Tryd.prog 29 = some (false, 1) := by rfl
theorem kindOf_29 : kindOf Tryd.prog 29 = some TK.other := by rfl
theorem ti_30 : ti Tryd.prog 30 = some (some Value.nilFunc, 1, 8) := by rfl
theorem tsz_30 : tsz Tryd.prog 30 = some (false, 1) := by rfl
theorem kindOf_30 : kindOf Tryd.prog 30 = some TK.other := by rfl
theorem ti_31 : ti Tryd.prog 31 = some (some Value.nilFunc, 1, 8) := by rfl
theorem tsz_31 : tsz Tryd.prog 31 = some (false, 1) := by rfl
theorem kindOf_31 : kindOf Tryd.prog 31 = some TK.other := by rfl
theorem ti_32 : ti Tryd.prog 32 = some (some Value.nilFunc, 1, 8) := by rfl
theorem tsz_32 : tsz Tryd.prog 32 = some (false, 1) := by rfl
theorem kindOf_32 : kindOf Tryd.prog 32 = some TK.other := by rfl
theorem ti_33 : ti Tryd.prog 33 = some (some (Value.agg #[Value.slice none 0 0, Value.slice none 0 0, Value.slice none 0 0, Value.slice none 0 0, Value.slice none 0 0, Value.slice none 0 0]), 6, 144) := by rfl
theorem tsz_33 : tsz Tryd.prog 33 = some (true, 6) := by rfl
theorem sle_33 : sle Tryd.prog 33 = none := by rfl
theorem arr_33 : arr Tryd.prog 33 = some (6, 22, 1) := by rfl
theorem lay_33 : lay Tryd.prog 33 = some ([AV.v (Value.slice none 0 0), AV.v (Value.slice none 0 0), AV.v (Value.slice none 0 0), AV.v (Value.slice none 0 0), AV.v (Value.slice none 0 0), AV.v (Value.slice none 0 0)], [(0, 1), (1, 1), (2, 1), (3, 1), (4, 1), (5, 1)]) := by rfl
theorem kindOf_33 : kindOf Tryd.prog 33 = some TK.other := by rfl
theorem ti_34 : ti Tryd.prog 34 = some (some (Value.agg #[Value.int IntKind.i64 0, Value.int IntKind.i64 0, Value.string (⟨#[]⟩ : ByteArray)]), 3, 32) := by rfl
theorem tsz_34 : tsz Tryd.prog 34 = some (true, 3) := by rfl
theorem lay_34 : lay Tryd.prog 34 = some ([AV.v (Value.int IntKind.i64 0), AV.v (Value.int IntKind.i64 0), AV.v (Value.string (⟨#[]⟩ : ByteArray))], [(0, 1), (1, 1), (2, 1)]) := by rfl
theorem kindOf_34 : kindOf Tryd.prog 34 = some TK.other := by rfl
theorem fld_34_0 : fld Tryd.prog 34 0 = some (0, 3, 1) := by rfl
theorem fld_34_1 : fld Tryd.prog 34 1 = some (1, 3, 1) := by rfl
theorem fld_34_2 : fld Tryd.prog 34 2 = some (2, 9, 1) := by rfl
theorem ti_35 : ti Tryd.prog 35 = some (some (Value.agg #[Value.int IntKind.i64 0, Value.int IntKind.i64 0, Value.string (⟨#[]⟩ : ByteArray)]), 3, 32) := by rfl
theorem tsz_35 : tsz Tryd.prog 35 = some (true, 3) := by rfl
theorem lay_35 : lay Tryd.prog 35 = some ([AV.v (Value.int IntKind.i64 0), AV.v (Value.int IntKind.i64 0), AV.v (Value.string (⟨#[]⟩ : ByteArray))], [(0, 1), (1, 1), (2, 1)]) := by rfl
theorem kindOf_35 : kindOf Tryd.prog 35 = some TK.other := by rfl
theorem fld_35_0 : fld Tryd.prog 35 0 = some (0, 3, 1) := by rfl
theorem fld_35_1 : fld Tryd.prog 35 1 = some (1, 3, 1) := by rfl
theorem fld_35_2 : fld Tryd.prog 35 2 = some (2, 9, 1) := by rfl
theorem ti_36 : ti Tryd.prog 36 = some (some (Value.agg #[Value.slice none 0 0, Value.slice none 0 0, Value.slice none 0 0]), 3, 72) := by rfl
theorem tsz_36 : tsz Tryd.prog 36 = some (true, 3) := by rfl
theorem sle_36 : sle Tryd.prog 36 = none := by rfl
theorem arr_36 : arr Tryd.prog 36 = some (3, 25, 1) := by rfl
theorem lay_36 : lay Tryd.prog 36 = some ([AV.v (Value.slice none 0 0), AV.v (Value.slice none 0 0), AV.v (Value.slice none 0 0)], [(0, 1), (1, 1), (2, 1)]) := by rfl
theorem kindOf_36 : kindOf Tryd.prog 36 = some TK.other := by rfl
theorem ti_37 : ti Tryd.prog 37 = some (some Value.nilFunc, 1, 8) := by rfl
theorem tsz_37 : tsz Tryd.prog 37 = some (false, 1) := by rfl
theorem kindOf_37 : kindOf Tryd.prog 37 = some TK.other := by rfl
theorem ti_38 : ti Tryd.prog 38 = some (some (Value.slice none 0 0), 1, 24) := by rfl
theorem tsz_38 : tsz Tryd.prog 38 = some (false, 1) := by rfl
theorem sle_38 : sle Tryd.prog 38 = some (25, some (Value.slice none 0 0), 1, 24) := by rfl
theorem arr_38 : arr Tryd.prog 38 = none := by rfl
theorem kindOf_38 : kindOf Tryd.prog 38 = some (TK.sl 25) := by rfl
theorem ti_39 : ti Tryd.prog 39 = some (some (Value.agg #[Value.int IntKind.u8 0, Value.int IntKind.u8 0]), 2, 2) := by rfl
theorem tsz_39 : tsz Tryd.prog 39 = some (true, 2) := by rfl
theorem sle_39 : sle Tryd.prog 39 = none := by rfl
theorem arr_39 : arr Tryd.prog 39 = some (2, 5, 1) := by rfl
theorem lay_39 : lay Tryd.prog 39 = some ([AV.v (Value.int IntKind.u8 0), AV.v (Value.int IntKind.u8 0)], [(0, 1), (1, 1)]) := by rfl
theorem kindOf_39 : kindOf Tryd.prog 39 = some TK.other := by rfl
theorem ti_40 : ti Tryd.prog 40 = some (some (Value.slice none 0 0), 1, 24) := by rfl
theorem tsz_40 : tsz Tryd.prog 40 = some (false, 1) := by rfl
theorem sle_40 : sle Tryd.prog 40 = some (3, some (Value.int IntKind.i64 0), 1, 8) := by rfl
theorem arr_40 : arr Tryd.prog 40 = none := by rfl
theorem kindOf_40 : kindOf Tryd.prog 40 = some (TK.sl 3) := by rfl
theorem ti_41 : ti Tryd.prog 41 = some (some (Value.agg #[Value.string (⟨#[]⟩ : ByteArray), Value.slice none 0 0, Value.slice none 0 0]), 3, 64) := by rfl
theorem tsz_41 : tsz Tryd.prog 41 = some (true, 3) := by rfl
theorem lay_41 : lay Tryd.prog 41 = some ([AV.v (Value.string (⟨#[]⟩ : ByteArray)), AV.v (Value.slice none 0 0), AV.v (Value.slice none 0 0)], [(0, 1), (1, 1), (2, 1)]) := by rfl
theorem kindOf_41 : kindOf Tryd.prog 41 = some TK.other := by rfl
theorem fld_41_0 : fld Tryd.prog 41 0 = some (0, 9, 1) := by rfl
theorem fld_41_1 : fld Tryd.prog 41 1 = some (1, 40, 1) := by rfl
theorem fld_41_2 : fld Tryd.prog 41 2 = some (2, 38, 1) := by rfl
theorem ti_42 : ti Tryd.prog 42 = some (some (Value.agg #[Value.string (⟨#[]⟩ : ByteArray), Value.slice none 0 0, Value.slice none 0 0]), 3, 64) := by rfl
theorem tsz_42 : tsz Tryd.prog 42 = some (true, 3) := by rfl
theorem lay_42 : lay Tryd.prog 42 = some ([AV.v (Value.string (⟨#[]⟩ : ByteArray)), AV.v (Value.slice none 0 0), AV.v (Value.slice none 0 0)], [(0, 1), (1, 1), (2, 1)]) := by rfl
theorem kindOf_42 : kindOf Tryd.prog 42 = some TK.other := by rfl
theorem fld_42_0 : fld Tryd.prog 42 0 = some (0, 9, 1) := by rfl
theorem fld_42_1 : fld Tryd.prog 42 1 = some (1, 40, 1) := by rfl
theorem fld_42_2 : fld Tryd.prog 42 2 = some (2, 38, 1) := by rfl
theorem ti_43 : ti Tryd.prog 43 = some (some Value.nilFunc, 1, 8) := by rfl
theorem tsz_43 : tsz Tryd.prog 43 = some (false, 1) := by rfl
theorem kindOf_43 : kindOf Tryd.prog 43 = some TK.other := by rfl
theorem ti_44 : ti Tryd.prog 44 = some (some Value.nilFunc, 1, 8) := by rfl
theorem tsz_44 : tsz Tryd.prog 44 = some (false, 1) := by rfl
theorem kindOf_44 : kindOf Tryd.prog 44 = some TK.other := by rfl
theorem ti_45 : ti Tryd.prog 45 = some (some Value.nilFunc, 1, 8) := by rfl
theorem tsz_45 : tsz Tryd.prog 45 = some (false, 1) := by rfl
theorem kindOf_45 : kindOf Tryd.prog 45 = some TK.other := by rfl
theorem ti_46 : ti Tryd.prog 46 = some (some (Value.tuple #[Value.string (⟨#[]⟩ : ByteArray), Value.int IntKind.i64 0]), 1, 0) := by rfl
theorem tsz_46 : tsz Tryd.prog 46 = some (false, 1) := by rfl
theorem kindOf_46 : kindOf Tryd.prog 46 = some TK.other := by rfl
theorem ti_47 : ti Tryd.prog 47 = some (some Value.nilFunc, 1, 8) := by rfl
theorem tsz_47 : tsz Tryd.prog 47 = some (false, 1) := by rfl
theorem kindOf_47 : kindOf Tryd.prog 47 = some TK.other := by rfl
theorem ti_48 : ti Tryd.prog 48 = some (some Value.nilFunc, 1, 8) := by rfl
theorem tsz_48 : tsz Tryd.prog 48 = some (false, 1) := by rfl
theorem kindOf_48 : kindOf Tryd.prog 48 = some TK.other := by rfl
theorem ti_49 : ti Tryd.prog 49 = some (some Value.nilFunc, 1, 8) := by rfl
theorem tsz_49 : tsz Tryd.prog 49 = some (false, 1) := by rfl
theorem kindOf_49 : kindOf Tryd.prog 49 = some TK.other := by rfl
theorem ti_50 : ti Tryd.prog 50 = some (some (Value.tuple #[Value.slice none 0 0, Value.int IntKind.i64 0]), 1, 0) := by rfl
theorem tsz_50 : tsz Tryd.prog 50 = some (false, 1) := by rfl
theorem kindOf_50 : kindOf Tryd.prog 50 = some TK.other := by rfl
theorem ti_51 : ti Tryd.prog 51 = some (some Value.nilFunc, 1, 8) := by rfl
theorem tsz_51 : tsz Tryd.prog 51 = some (false, 1) := by rfl
theorem kindOf_51 : kindOf Tryd.prog 51 = some TK.other := by rfl
theorem ti_52 : ti Tryd.prog 52 = some (some Value.nilFunc, 1, 8) := by rfl
theorem tsz_52 : tsz Tryd.prog 52 = some (false, 1) := by rfl
theorem kindOf_52 : kindOf Tryd.prog 52 = some TK.other := by rfl
theorem ti_53 : ti Tryd.prog 53 = some (some Value.nilFunc, 1, 8) := by rfl
theorem tsz_53 : tsz Tryd.prog 53 = some (false, 1) := by rfl
theorem kindOf_53 : kindOf Tryd.prog 53 = some TK.other := by rfl
theorem ti_54 : ti Tryd.prog 54 = some (some Value.nilFunc, 1, 8) := by rfl
theorem tsz_54 : tsz Tryd.prog 54 = some (false, 1) := by rfl
theorem kindOf_54 : kindOf Tryd.prog 54 = some TK.other := by rfl
theorem ti_55 : ti Tryd.prog 55 = some (some Value.nilFunc, 1, 8) := by rfl
theorem tsz_55 : tsz Tryd.prog 55 = some (false, 1) := by rfl
theorem kindOf_55 : kindOf Tryd.prog 55 = some TK.other := by rfl
theorem ti_56 : ti Tryd.prog 56 = some (some Value.nilFunc, 1, 8) := by rfl
theorem tsz_56 : tsz Tryd.prog 56 = some (false, 1) := by rfl
theorem kindOf_56 : kindOf Tryd.prog 56 = some TK.other := by rfl
theorem ti_57 : ti Tryd.prog 57 = some (some Value.nilFunc, 1, 8) := by rfl
theorem tsz_57 : tsz Tryd.prog 57 = some (false, 1) := by rfl
theorem kindOf_57 : kindOf Tryd.prog 57 = some TK.other := by rfl
theorem ti_58 : ti Tryd.prog 58 = some (some Value.nilFunc, 1, 8) := by rfl
theorem tsz_58 : tsz Tryd.prog 58 = some (false, 1) := by rfl
theorem kindOf_58 : kindOf Tryd.prog 58 = some TK.other := by rfl
theorem ti_59 : ti Tryd.prog 59 = some (some Value.nilFunc, 1, 8) := by rfl
theorem tsz_59 : tsz Tryd.prog 59 = some (false, 1) := by rfl
theorem kindOf_59 : kindOf Tryd.prog 59 = some TK.other := by rfl
theorem ti_60 : ti Tryd.prog 60 = some (some Value.nilFunc, 1, 8) := by rfl
theorem tsz_60 : tsz Tryd.prog 60 = some (false, 1) := by rfl
theorem kindOf_60 : kindOf Tryd.prog 60 = some TK.other := by rfl
theorem ti_61 : ti Tryd.prog 61 = some (some Value.nilFunc, 1, 8) := by rfl
theorem tsz_61 : tsz Tryd.prog 61 = some (false, 1) := by rfl
theorem kindOf_61 : kindOf Tryd.prog 61 = some TK.other := by rfl
theorem ti_62 : ti Tryd.prog 62 = some (some Value.nilFunc, 1, 8) := by rfl
theorem tsz_62 : tsz Tryd.prog 62 = some (false, 1) := by rfl
theorem kindOf_62 : kindOf Tryd.prog 62 = some TK.other := by rfl
theorem ti_63 : ti Tryd.prog 63 = some (some Value.nilFunc, 1, 8) := by rfl
theorem tsz_63 : tsz Tryd.prog 63 = some (false, 1) := by rfl
theorem kindOf_63 : kindOf Tryd.prog 63 = some TK.other := by rfl
theorem ti_64 : ti Tryd.prog 64 = some (some Value.nilFunc, 1, 8) := by rfl
theorem tsz_64 : tsz Tryd.prog 64 = some (false, 1) := by rfl
theorem kindOf_64 : kindOf Tryd.prog 64 = some TK.other := by rfl
theorem ti_65 : ti Tryd.prog 65 = some (some Value.nilFunc, 1, 8) := by rfl
theorem tsz_65 : tsz Tryd.prog 65 = some (false, 1) := by rfl
theorem kindOf_65 : kindOf Tryd.prog 65 = some TK.other := by rfl
theorem ti_66 : ti Tryd.prog 66 = some (some Value.nilFunc, 1, 8) := by rfl
theorem tsz_66 : tsz Tryd.prog 66 = some (false, 1) := by rfl
theorem kindOf_66 : kindOf Tryd.prog 66 = some TK.other := by rfl
theorem ti_67 : ti Tryd.prog 67 = some (some Value.nilFunc, 1, 8) := by rfl
theorem tsz_67 : tsz Tryd.prog 67 = some (false, 1) := by rfl
theorem kindOf_67 : kindOf Tryd.prog 67 = some TK.other := by rfl
theorem ti_68 : ti Tryd.prog 68 = some (some Value.nilFunc, 1, 8) := by rfl
theorem tsz_68 : tsz Tryd.prog 68 = some (false, 1) := by rfl
theorem kindOf_68 : kindOf Tryd.prog 68 = some TK.other := by rfl
theorem ti_69 : ti Tryd.prog 69 = some (some (Value.tuple #[Value.agg #[Value.string (⟨#[]⟩ : ByteArray), Value.slice none 0 0, Value.slice none 0 0], Value.int IntKind.i64 0]), 1, 0) := by rfl
theorem tsz_69 : tsz Tryd.prog 69 = some (false, 1) := by rfl
theorem kindOf_69 : kindOf Tryd.prog 69 = some TK.other := by rfl
theorem ti_70 : ti Tryd.prog 70 = some (some Value.nilFunc, 1, 8) := by rfl
theorem tsz_70 : tsz Tryd.prog 70 = some (false, 1) := by rfl
theorem kindOf_70 : kindOf Tryd.prog 70 = some TK.other := by rfl
theorem ti_71 : ti Tryd.prog 71 = some (some Value.nilFunc, 1, 8) := by rfl
theorem tsz_71 : tsz Tryd.prog 71 = some (false, 1) := by rfl
theorem kindOf_71 : kindOf Tryd.prog 71 = some TK.other := by rfl
theorem ti_72 : ti Tryd.prog 72 = some (some Value.nilFunc, 1, 8) := by rfl
theorem tsz_72 : tsz Tryd.prog 72 = some (false, 1) := by rfl
theorem kindOf_72 : kindOf Tryd.prog 72 = some TK.other := by rfl
theorem ti_73 : ti Tryd.prog 73 = some (some Value.nilFunc, 1, 8) := by rfl
theorem tsz_73 : tsz Tryd.prog 73 = some (false, 1) := by rfl
theorem kindOf_73 : kindOf Tryd.prog 73 = some TK.other := by rfl
theorem ti_74 : ti Tryd.prog 74 = some (some Value.nilFunc, 1, 8) := by rfl
theorem tsz_74 : tsz Tryd.prog 74 = some (false, 1) := by rfl
theorem kindOf_74 : kindOf Tryd.prog 74 = some TK.other := by rfl
theorem ti_75 : ti Tryd.prog 75 = some (some (Value.agg #[Value.slice none 0 0, Value.slice none 0 0]), 2, 48) := by rfl
theorem tsz_75 : tsz Tryd.prog 75 = some (true, 2) := by rfl
theorem lay_75 : lay Tryd.prog 75 = some ([AV.v (Value.slice none 0 0), AV.v (Value.slice none 0 0)], [(0, 1), (1, 1)]) := by rfl
theorem kindOf_75 : kindOf Tryd.prog 75 = some TK.other := by rfl
theorem fld_75_0 : fld Tryd.prog 75 0 = some (0, 40, 1) := by rfl
theorem fld_75_1 : fld Tryd.prog 75 1 = some (1, 22, 1) := by rfl
theorem ti_76 : ti Tryd.prog 76 = some (some (Value.agg #[Value.slice none 0 0, Value.slice none 0 0]), 2, 48) := by rfl
theorem tsz_76 : tsz Tryd.prog 76 = some (true, 2) := by rfl
theorem lay_76 : lay Tryd.prog 76 = some ([AV.v (Value.slice none 0 0), AV.v (Value.slice none 0 0)], [(0, 1), (1, 1)]) := by rfl
theorem kindOf_76 : kindOf Tryd.prog 76 = some TK.other := by rfl
theorem fld_76_0 : fld Tryd.prog 76 0 = some (0, 40, 1) := by rfl
theorem fld_76_1 : fld Tryd.prog 76 1 = some (1, 22, 1) := by rfl
theorem ti_77 : ti Tryd.prog 77 = some (some Value.nilFunc, 1, 8) := by rfl
theorem tsz_77 : tsz Tryd.prog 77 = some (false, 1) := by rfl
theorem kindOf_77 : kindOf Tryd.prog 77 = some TK.other := by rfl
theorem ti_78 : ti Tryd.prog 78 = some (some Value.nilFunc, 1, 8) := by rfl
theorem tsz_78 : tsz Tryd.prog 78 = some (false, 1) := by rfl
theorem kindOf_78 : kindOf Tryd.prog 78 = some TK.other := by rfl
theorem ti_79 : ti Tryd.prog 79 = some (some (Value.tuple #[Value.int IntKind.i64 0, Value.int IntKind.i64 0, Value.int IntKind.i64 0]), 1, 0) := by rfl
theorem tsz_79 : tsz Tryd.prog 79 = some (false, 1) := by rfl
theorem kindOf_79 : kindOf Tryd.prog 79 = some TK.other := by rfl
theorem ti_80 : ti Tryd.prog 80 = some (some Value.nilFunc, 1, 8) := by rfl
theorem tsz_80 : tsz Tryd.prog 80 = some (false, 1) := by rfl
theorem kindOf_80 : kindOf Tryd.prog 80 = some TK.other := by rfl
theorem ti_81 : ti Tryd.prog 81 = some (some Value.nilFunc, 1, 8) := by rfl
theorem tsz_81 : tsz Tryd.prog 81 = some (false, 1) := by rfl
theorem kindOf_81 : kindOf Tryd.prog 81 = some TK.other := by rfl
theorem ti_82 : ti Tryd.prog 82 = some (some (Value.tuple #[Value.agg #[Value.int IntKind.i64 0, Value.int IntKind.i64 0, Value.string (⟨#[]⟩ : ByteArray)], Value.int IntKind.i64 0]), 1, 0) := by rfl
theorem tsz_82 : tsz Tryd.prog 82 = some (false, 1) := by rfl
theorem kindOf_82 : kindOf Tryd.prog 82 = some TK.other := by rfl
theorem ti_83 : ti Tryd.prog 83 = some (some Value.nilFunc, 1, 8) := by rfl
theorem tsz_83 : tsz Tryd.prog 83 = some (false, 1) := by rfl
theorem kindOf_83 : kindOf Tryd.prog 83 = some TK.other := by rfl
theorem ti_84 : ti Tryd.prog 84 = some (some (Value.pointer none), 1, 8) := by rfl
theorem tsz_84 : tsz Tryd.prog 84 = some (false, 1) := by rfl
theorem kindOf_84 : kindOf Tryd.prog 84 = some TK.ptr := by rfl
theorem ti_85 : ti Tryd.prog 85 = some (some Value.nilFunc, 1, 8) := by rfl
theorem tsz_85 : tsz Tryd.prog 85 = some (false, 1) := by rfl
theorem kindOf_85 : kindOf Tryd.prog 85 = some TK.other := by rfl
theorem ti_86 : ti Tryd.prog 86 = some (some Value.nilFunc, 1, 8) := by rfl
theorem tsz_86 : tsz Tryd.prog 86 = some (false, 1) := by rfl
theorem kindOf_86 : kindOf Tryd.prog 86 = some TK.other := by rfl
theorem ti_87 : ti Tryd.prog 87 = some (some Value.nilFunc, 1, 8) := by rfl
theorem tsz_87 : tsz Tryd.prog 87 = some (false, 1) := by rfl
theorem kindOf_87 : kindOf Tryd.prog 87 = some TK.other := by rfl
theorem ti_88 : ti Tryd.prog 88 = some (some Value.nilFunc, 1, 8) := by rfl
theorem tsz_88 : tsz Tryd.prog 88 = some (false, 1) := by rfl
theorem kindOf_88 : kindOf Tryd.prog 88 = some TK.other := by rfl
theorem ti_89 : ti Tryd.prog 89 = some (some Value.nilFunc, 1, 8) := by rfl
theorem tsz_89 : tsz Tryd.prog 89 = some (false, 1) := by rfl
theorem kindOf_89 : kindOf Tryd.prog 89 = some TK.other := by rfl
theorem ti_90 : ti Tryd.prog 90 = some (some Value.nilFunc, 1, 8) := by rfl
theorem tsz_90 : tsz Tryd.prog 90 = some (false, 1) := by rfl
theorem kindOf_90 : kindOf Tryd.prog 90 = some TK.other := by rfl
theorem ti_91 : ti Tryd.prog 91 = some (some Value.nilFunc, 1, 8) := by rfl
theorem tsz_91 : tsz Tryd.prog 91 = some (false, 1) := by rfl
theorem kindOf_91 : kindOf Tryd.prog 91 = some TK.other := by rfl
theorem ti_92 : ti Tryd.prog 92 = some (some Value.nilFunc, 1, 8) := by rfl
theorem tsz_92 : tsz Tryd.prog 92 = some (false, 1) := by rfl
theorem kindOf_92 : kindOf Tryd.prog 92 = some TK.other := by rfl
theorem ti_93 : ti Tryd.prog 93 = some (some Value.nilFunc, 1, 8) := by rfl
theorem tsz_93 : tsz Tryd.prog 93 = some (false, 1) := by rfl
theorem kindOf_93 : kindOf Tryd.prog 93 = some TK.other := by rfl
theorem ti_94 : ti Tryd.prog 94 = some (some (Value.slice none 0 0), 1, 24) := by rfl
theorem tsz_94 : tsz Tryd.prog 94 = some (false, 1) := by rfl
theorem sle_94 : sle Tryd.prog 94 = some (21, some (Value.int IntKind.i32 0), 1, 4) := by rfl
theorem arr_94 : arr Tryd.prog 94 = none := by rfl
theorem kindOf_94 : kindOf Tryd.prog 94 = some (TK.sl 21) := by rfl
theorem ti_95 : ti Tryd.prog 95 = some (some Value.nilFunc, 1, 8) := by rfl
theorem tsz_95 : tsz Tryd.prog 95 = some (false, 1) := by rfl
theorem kindOf_95 : kindOf Tryd.prog 95 = some TK.other := by rfl
theorem ti_96 : ti Tryd.prog 96 = some (some (Value.tuple #[Value.string (⟨#[]⟩ : ByteArray), Value.int IntKind.i64 0, Value.int IntKind.i64 0]), 1, 0) := by rfl
theorem tsz_96 : tsz Tryd.prog 96 = some (false, 1) := by rfl
theorem kindOf_96 : kindOf Tryd.prog 96 = some TK.other := by rfl
theorem ti_97 : ti Tryd.prog 97 = some (some Value.nilFunc, 1, 8) := by rfl
theorem tsz_97 : tsz Tryd.prog 97 = some (false, 1) := by rfl
theorem kindOf_97 : kindOf Tryd.prog 97 = some TK.other := by rfl
theorem ti_98 : ti Tryd.prog 98 = some (some (Value.tuple #[Value.slice none 0 0, Value.int IntKind.i64 0, Value.int IntKind.i64 0]), 1, 0) := by rfl
theorem tsz_98 : tsz Tryd.prog 98 = some (false, 1) := by rfl
theorem kindOf_98 : kindOf Tryd.prog 98 = some TK.other := by rfl
theorem ti_99 : ti Tryd.prog 99 = some (some Value.nilFunc, 1, 8) := by rfl
theorem tsz_99 : tsz Tryd.prog 99 = some (false, 1) := by rfl
theorem kindOf_99 : kindOf Tryd.prog 99 = some TK.other := by rfl
theorem ti_100 : ti Tryd.prog 100 = some (some (Value.agg #[Value.slice none 0 0]), 1, 24) := by rfl
theorem tsz_100 : tsz Tryd.prog 100 = some (true, 1) := by rfl
theorem lay_100 : lay Tryd.prog 100 = some ([AV.v (Value.slice none 0 0)], [(0, 1)]) := by rfl
theorem kindOf_100 : kindOf Tryd.prog 100 = some TK.other := by rfl
theorem fld_100_0 : fld Tryd.prog 100 0 = some (0, 22, 1) := by rfl
theorem ti_101 : ti Tryd.prog 101 = some (some (Value.agg #[Value.slice none 0 0]), 1, 24) := by rfl
theorem tsz_101 : tsz Tryd.prog 101 = some (true, 1) := by rfl
theorem lay_101 : lay Tryd.prog 101 = some ([AV.v (Value.slice none 0 0)], [(0, 1)]) := by rfl
theorem kindOf_101 : kindOf Tryd.prog 101 = some TK.other := by rfl
theorem fld_101_0 : fld Tryd.prog 101 0 = some (0, 22, 1) := by rfl
theorem ti_102 : ti Tryd.prog 102 = some (some Value.nilFunc, 1, 8) := by rfl
theorem tsz_102 : tsz Tryd.prog 102 = some (false, 1) := by rfl
theorem kindOf_102 : kindOf Tryd.prog 102 = some TK.other := by rfl
theorem ti_103 : ti Tryd.prog 103 = some (some Value.nilFunc, 1, 8) := by rfl
theorem tsz_103 : tsz Tryd.prog 103 = some (false, 1) := by rfl
theorem kindOf_103 : kindOf Tryd.prog 103 = some TK.other := by rfl
theorem ti_104 : ti Tryd.prog 104 = some (some (Value.tuple #[Value.slice none 0 0, Value.int IntKind.i64 0]), 1, 0) := by rfl
theorem tsz_104 : tsz Tryd.prog 104 = some (false, 1) := by rfl
theorem kindOf_104 : kindOf Tryd.prog 104 = some TK.other := by rfl
theorem ti_105 : ti Tryd.prog 105 = some (some Value.nilFunc, 1, 8) := by rfl
theorem tsz_105 : tsz Tryd.prog 105 = some (false, 1) := by rfl
theorem kindOf_105 : kindOf Tryd.prog 105 = some TK.other := by rfl
theorem ti_106 : ti Tryd.prog 106 = some (some Value.nilFunc, 1, 8) := by rfl
theorem tsz_106 : tsz Tryd.prog 106 = some (false, 1) := by rfl
theorem kindOf_106 : kindOf Tryd.prog 106 = some TK.other := by rfl
theorem ti_107 : ti Tryd.prog 107 = some (some (Value.int IntKind.u64 0), 1, 8) := by rfl
theorem tsz_107 : tsz Tryd.prog 107 = some (false, 1) := by rfl
theorem kindOf_107 : kindOf Tryd.prog 107 = some (TK.int IntKind.u64) := by rfl
theorem ti_108 : ti Tryd.prog 108 = some (some (Value.agg #[Value.int IntKind.i32 0, Value.int IntKind.i32 0, Value.int IntKind.i32 0, Value.int IntKind.i32 0, Value.int IntKind.i32 0, Value.int IntKind.i32 0, Value.int IntKind.i32 0, Value.int IntKind.i32 0]), 8, 32) := by rfl
theorem tsz_108 : tsz Tryd.prog 108 = some (true, 8) := by rfl
theorem sle_108 : sle Tryd.prog 108 = none := by rfl
theorem arr_108 : arr Tryd.prog 108 = some (8, 21, 1) := by rfl
theorem lay_108 : lay Tryd.prog 108 = some ([AV.v (Value.int IntKind.i32 0), AV.v (Value.int IntKind.i32 0), AV.v (Value.int IntKind.i32 0), AV.v (Value.int IntKind.i32 0), AV.v (Value.int IntKind.i32 0), AV.v (Value.int IntKind.i32 0), AV.v (Value.int IntKind.i32 0), AV.v (Value.int IntKind.i32 0)], [(0, 1), (1, 1), (2, 1), (3, 1), (4, 1), (5, 1), (6, 1), (7, 1)]) := by rfl
theorem kindOf_108 : kindOf Tryd.prog 108 = some TK.other := by rfl
theorem ti_109 : ti Tryd.prog 109 = some (some Value.nilFunc, 1, 8) := by rfl
theorem tsz_109 : tsz Tryd.prog 109 = some (false, 1) := by rfl
theorem kindOf_109 : kindOf Tryd.prog 109 = some TK.other := by rfl
theorem ti_110 : ti Tryd.prog 110 = some (some (Value.tuple #[Value.slice none 0 0, Value.bool false]), 1, 0) := by rfl
theorem tsz_110 : tsz Tryd.prog 110 = some (false, 1) := by rfl
theorem kindOf_110 : kindOf Tryd.prog 110 = some TK.other := by rfl
theorem ti_111 : ti Tryd.prog 111 = some (some Value.nilFunc, 1, 8) := by rfl
theorem tsz_111 : tsz Tryd.prog 111 = some (false, 1) := by rfl
theorem kindOf_111 : kindOf Tryd.prog 111 = some TK.other := by rfl
theorem ti_112 : ti Tryd.prog 112 = some (some Value.nilFunc, 1, 8) := by rfl
theorem tsz_112 : tsz Tryd.prog 112 = some (false, 1) := by rfl
theorem kindOf_112 : kindOf Tryd.prog 112 = some TK.other := by rfl
theorem ti_113 : ti Tryd.prog 113 = some (some Value.nilFunc, 1, 8) := by rfl
theorem tsz_113 : tsz Tryd.prog 113 = some (false, 1) := by rfl
theorem kindOf_113 : kindOf Tryd.prog 113 = some TK.other := by rfl
theorem ti_114 : ti Tryd.prog 114 = some (some Value.nilFunc, 1, 8) := by rfl
theorem tsz_114 : tsz Tryd.prog 114 = some (false, 1) := by rfl
theorem kindOf_114 : kindOf Tryd.prog 114 = some TK.other := by rfl
theorem ti_115 : ti Tryd.prog 115 = some (some Value.nilFunc, 1, 8) := by rfl
theorem tsz_115 : tsz Tryd.prog 115 = some (false, 1) := by rfl
theorem kindOf_115 : kindOf Tryd.prog 115 = some TK.other := by rfl
theorem ti_116 : ti Tryd.prog 116 = some (some Value.nilFunc, 1, 8) := by rfl
theorem tsz_116 : tsz Tryd.prog 116 = some (false, 1) := by rfl
theorem kindOf_116 : kindOf Tryd.prog 116 = some TK.other := by rfl
theorem ti_117 : ti Tryd.prog 117 = some (some Value.nilFunc, 1, 8) := by rfl
theorem tsz_117 : tsz Tryd.prog 117 = some (false, 1) := by rfl
theorem kindOf_117 : kindOf Tryd.prog 117 = some TK.other := by rfl
theorem ti_118 : ti Tryd.prog 118 = some (some (Value.slice none 0 0), 1, 24) := by rfl
theorem tsz_118 : tsz Tryd.prog 118 = some (false, 1) := by rfl
theorem sle_118 : sle Tryd.prog 118 = some (35, some (Value.agg #[Value.int IntKind.i64 0, Value.int IntKind.i64 0, Value.string (⟨#[]⟩ : ByteArray)]), 3, 32) := by rfl
theorem arr_118 : arr Tryd.prog 118 = none := by rfl
theorem kindOf_118 : kindOf Tryd.prog 118 = some (TK.sl 35) := by rfl
theorem ti_119 : ti Tryd.prog 119 = some (some Value.nilFunc, 1, 8) := by rfl
theorem tsz_119 : tsz Tryd.prog 119 = some (false, 1) := by rfl
theorem kindOf_119 : kindOf Tryd.prog 119 = some TK.other := by rfl
theorem tsz_120 : tsz Tryd.prog 120 = some (true, 256) := by rfl
theorem sle_120 : sle Tryd.prog 120 = none := by rfl
theorem arr_120 : arr Tryd.prog 120 = some (256, 5, 1) := by rfl
theorem kindOf_120 : kindOf Tryd.prog 120 = some TK.other := by rfl
theorem ti_121 : ti Tryd.prog 121 = some (some (Value.agg #[Value.int IntKind.u8 0, Value.int IntKind.u8 0]), 2, 2) := by rfl
theorem tsz_121 : tsz Tryd.prog 121 = some (true, 2) := by rfl
theorem lay_121 : lay Tryd.prog 121 = some ([AV.v (Value.int IntKind.u8 0), AV.v (Value.int IntKind.u8 0)], [(0, 1), (1, 1)]) := by rfl
theorem kindOf_121 : kindOf Tryd.prog 121 = some TK.other := by rfl
theorem fld_121_0 : fld Tryd.prog 121 0 = some (0, 5, 1) := by rfl
theorem fld_121_1 : fld Tryd.prog 121 1 = some (1, 5, 1) := by rfl
theorem ti_122 : ti Tryd.prog 122 = some (some (Value.agg #[Value.int IntKind.u8 0, Value.int IntKind.u8 0]), 2, 2) := by rfl
theorem tsz_122 : tsz Tryd.prog 122 = some (true, 2) := by rfl
theorem lay_122 : lay Tryd.prog 122 = some ([AV.v (Value.int IntKind.u8 0), AV.v (Value.int IntKind.u8 0)], [(0, 1), (1, 1)]) := by rfl
theorem kindOf_122 : kindOf Tryd.prog 122 = some TK.other := by rfl
theorem fld_122_0 : fld Tryd.prog 122 0 = some (0, 5, 1) := by rfl
theorem fld_122_1 : fld Tryd.prog 122 1 = some (1, 5, 1) := by rfl
theorem ti_123 : ti Tryd.prog 123 = some (some (Value.agg #[Value.int IntKind.u8 0, Value.int IntKind.u8 0, Value.int IntKind.u8 0, Value.int IntKind.u8 0, Value.int IntKind.u8 0, Value.int IntKind.u8 0, Value.int IntKind.u8 0, Value.int IntKind.u8 0, Value.int IntKind.u8 0, Value.int IntKind.u8 0, Value.int IntKind.u8 0, Value.int IntKind.u8 0, Value.int IntKind.u8 0, Value.int IntKind.u8 0, Value.int IntKind.u8 0, Value.int IntKind.u8 0, Value.int IntKind.u8 0, Value.int IntKind.u8 0, Value.int IntKind.u8 0, Value.int IntKind.u8 0, Value.int IntKind.u8 0, Value.int IntKind.u8 0, Value.int IntKind.u8 0, Value.int IntKind.u8 0, Value.int IntKind.u8 0, Value.int IntKind.u8 0, Value.int IntKind.u8 0, Value.int IntKind.u8 0, Value.int IntKind.u8 0, Value.int IntKind.u8 0, Value.int IntKind.u8 0, Value.int IntKind.u8 0]), 32, 32) := by rfl
theorem tsz_123 : tsz Tryd.prog 123 = some (true, 32) := by rfl
theorem sle_123 : sle Tryd.prog 123 = none := by rfl
theorem arr_123 : arr Tryd.prog 123 = some (16, 122, 2) := by rfl
theorem lay_123 : lay Tryd.prog 123 = some ([AV.v (Value.int IntKind.u8 0), AV.v (Value.int IntKind.u8 0), AV.v (Value.int IntKind.u8 0), AV.v (Value.int IntKind.u8 0), AV.v (Value.int IntKind.u8 0), AV.v (Value.int IntKind.u8 0), AV.v (Value.int IntKind.u8 0), AV.v (Value.int IntKind.u8 0), AV.v (Value.int IntKind.u8 0), AV.v (Value.int IntKind.u8 0), AV.v (Value.int IntKind.u8 0), AV.v (Value.int IntKind.u8 0), AV.v (Value.int IntKind.u8 0), AV.v (Value.int IntKind.u8 0), AV.v (Value.int IntKind.u8 0), AV.v (Value.int IntKind.u8 0), AV.v (Value.int IntKind.u8 0), AV.v (Value.int IntKind.u8 0), AV.v (Value.int IntKind.u8 0), AV.v (Value.int IntKind.u8 0), AV.v (Value.int IntKind.u8 0), AV.v (Value.int IntKind.u8 0), AV.v (Value.int IntKind.u8 0), AV.v (Value.int IntKind.u8 0), AV.v (Value.int IntKind.u8 0), AV.v (Value.int IntKind.u8 0), AV.v (Value.int IntKind.u8 0), AV.v (Value.int IntKind.u8 0), AV.v (Value.int IntKind.u8 0), AV.v (Value.int IntKind.u8 0), AV.v (Value.int IntKind.u8 0), AV.v (Value.int IntKind.u8 0)], [(0, 2), (2, 2), (4, 2), (6, 2), (8, 2), (10, 2), (12, 2), (14, 2), (16, 2), (18, 2), (20, 2), (22, 2), (24, 2), (26, 2), (28, 2), (30, 2)]) := by rfl
theorem kindOf_123 : kindOf Tryd.prog 123 = some TK.other := by rfl
theorem ti_124 : ti Tryd.prog 124 = some (some Value.nilFunc, 1, 8) := by rfl
theorem tsz_124 : tsz Tryd.prog 124 = some (false, 1) := by rfl
theorem kindOf_124 : kindOf Tryd.prog 124 = some TK.other := by rfl
theorem ti_125 : ti Tryd.prog 125 = some (some (Value.agg #[Value.slice none 0 0, Value.int IntKind.i64 0]), 2, 32) := by rfl
theorem tsz_125 : tsz Tryd.prog 125 = some (true, 2) := by rfl
theorem lay_125 : lay Tryd.prog 125 = some ([AV.v (Value.slice none 0 0), AV.v (Value.int IntKind.i64 0)], [(0, 1), (1, 1)]) := by rfl
theorem kindOf_125 : kindOf Tryd.prog 125 = some TK.other := by rfl
theorem fld_125_0 : fld Tryd.prog 125 0 = some (0, 22, 1) := by rfl
theorem fld_125_1 : fld Tryd.prog 125 1 = some (1, 26, 1) := by rfl
theorem ti_126 : ti Tryd.prog 126 = some (some (Value.agg #[Value.slice none 0 0, Value.int IntKind.i64 0]), 2, 32) := by rfl
theorem tsz_126 : tsz Tryd.prog 126 = some (true, 2) := by rfl
theorem lay_126 : lay Tryd.prog 126 = some ([AV.v (Value.slice none 0 0), AV.v (Value.int IntKind.i64 0)], [(0, 1), (1, 1)]) := by rfl
theorem kindOf_126 : kindOf Tryd.prog 126 = some TK.other := by rfl
theorem fld_126_0 : fld Tryd.prog 126 0 = some (0, 22, 1) := by rfl
theorem fld_126_1 : fld Tryd.prog 126 1 = some (1, 26, 1) := by rfl
theorem ti_127 : ti Tryd.prog 127 = some (some Value.nilFunc, 1, 8) := by rfl
theorem tsz_127 : tsz Tryd.prog 127 = some (false, 1) := by rfl
theorem kindOf_127 : kindOf Tryd.prog 127 = some TK.other := by rfl
theorem ti_128 : ti Tryd.prog 128 = some (some (Value.pointer none), 1, 8) := by rfl
theorem tsz_128 : tsz Tryd.prog 128 = some (false, 1) := by rfl
theorem kindOf_128 : kindOf Tryd.prog 128 = some TK.ptr := by rfl
theorem ti_129 : ti Tryd.prog 129 = some (some (Value.map none), 1, 8) := by rfl
theorem tsz_129 : tsz Tryd.prog 129 = some (false, 1) := by rfl
theorem kindOf_129 : kindOf Tryd.prog 129 = some TK.other := by rfl
theorem ti_130 : ti Tryd.prog 130 = some (some Value.nilFunc, 1, 8) := by rfl
theorem tsz_130 : tsz Tryd.prog 130 = some (false, 1) := by rfl
theorem kindOf_130 : kindOf Tryd.prog 130 = some TK.other := by rfl
theorem ti_131 : ti Tryd.prog 131 = some (some Value.nilFunc, 1, 8) := by rfl
theorem tsz_131 : tsz Tryd.prog 131 = some (false, 1) := by rfl
theorem kindOf_131 : kindOf Tryd.prog 131 = some TK.other := by rfl
theorem ti_132 : ti Tryd.prog 132 = some (some Value.nilFunc, 1, 8) := by rfl
theorem tsz_132 : tsz Tryd.prog 132 = some (false, 1) := by rfl
theorem kindOf_132 : kindOf Tryd.prog 132 = some TK.other := by rfl
theorem ti_133 : ti Tryd.prog 133 = some (some (Value.agg #[Value.bool false, Value.bool false]), 2, 2) := by rfl
theorem tsz_133 : tsz Tryd.prog 133 = some (true, 2) := by rfl
theorem lay_133 : lay Tryd.prog 133 = some ([AV.v (Value.bool false), AV.v (Value.bool false)], [(0, 1), (1, 1)]) := by rfl
theorem kindOf_133 : kindOf Tryd.prog 133 = some TK.other := by rfl
theorem fld_133_0 : fld Tryd.prog 133 0 = some (0, 4, 1) := by rfl
theorem fld_133_1 : fld Tryd.prog 133 1 = some (1, 4, 1) := by rfl
theorem ti_134 : ti Tryd.prog 134 = some (some (Value.agg #[Value.bool false, Value.bool false]), 2, 2) := by rfl
theorem tsz_134 : tsz Tryd.prog 134 = some (true, 2) := by rfl
theorem lay_134 : lay Tryd.prog 134 = some ([AV.v (Value.bool false), AV.v (Value.bool false)], [(0, 1), (1, 1)]) := by rfl
theorem kindOf_134 : kindOf Tryd.prog 134 = some TK.other := by rfl
theorem fld_134_0 : fld Tryd.prog 134 0 = some (0, 4, 1) := by rfl
theorem fld_134_1 : fld Tryd.prog 134 1 = some (1, 4, 1) := by rfl
theorem ti_135 : ti Tryd.prog 135 = some (some (Value.tuple #[Value.agg #[Value.bool false, Value.bool false], Value.bool false]), 1, 0) := by rfl
theorem tsz_135 : tsz Tryd.prog 135 = some (false, 1) := by rfl
theorem kindOf_135 : kindOf Tryd.prog 135 = some TK.other := by rfl
theorem ti_136 : ti Tryd.prog 136 = some (some Value.nilFunc, 1, 8) := by rfl
theorem tsz_136 : tsz Tryd.prog 136 = some (false, 1) := by rfl
theorem kindOf_136 : kindOf Tryd.prog 136 = some TK.other := by rfl
theorem ti_137 : ti Tryd.prog 137 = some (some (Value.tuple #[Value.int IntKind.i64 0, Value.int IntKind.i64 0]), 1, 0) := by rfl
theorem tsz_137 : tsz Tryd.prog 137 = some (false, 1) := by rfl
theorem kindOf_137 : kindOf Tryd.prog 137 = some TK.other := by rfl
theorem ti_138 : ti Tryd.prog 138 = some (some Value.nilFunc, 1, 8) := by rfl
theorem tsz_138 : tsz Tryd.prog 138 = some (false, 1) := by rfl
theorem kindOf_138 : kindOf Tryd.prog 138 = some TK.other := by rfl
theorem ti_139 : ti Tryd.prog 139 = some (some (Value.slice none 0 0), 1, 24) := by rfl
theorem tsz_139 : tsz Tryd.prog 139 = some (false, 1) := by rfl
theorem sle_139 : sle Tryd.prog 139 = some (113, some Value.nilFunc, 1, 8) := by rfl
theorem arr_139 : arr Tryd.prog 139 = none := by rfl
theorem kindOf_139 : kindOf Tryd.prog 139 = some (TK.sl 113) := by rfl
theorem ti_140 : ti Tryd.prog 140 = some (some (Value.int IntKind.u64 0), 1, 8) := by rfl
theorem tsz_140 : tsz Tryd.prog 140 = some (false, 1) := by rfl
theorem kindOf_140 : kindOf Tryd.prog 140 = some (TK.int IntKind.u64) := by rfl
theorem ti_141 : ti Tryd.prog 141 = some (some (Value.pointer none), 1, 8) := by rfl
theorem tsz_141 : tsz Tryd.prog 141 = some (false, 1) := by rfl
theorem kindOf_141 : kindOf Tryd.prog 141 = some TK.ptr := by rfl
theorem ti_142 : ti Tryd.prog 142 = some (some (Value.pointer none), 1, 8) := by rfl
theorem tsz_142 : tsz Tryd.prog 142 = some (false, 1) := by rfl
theorem kindOf_142 : kindOf Tryd.prog 142 = some TK.ptr := by rfl
theorem ti_143 : ti Tryd.prog 143 = some (some Value.nilFunc, 1, 8) := by rfl
theorem tsz_143 : tsz Tryd.prog 143 = some (false, 1) := by rfl
theorem kindOf_143 : kindOf Tryd.prog 143 = some TK.other := by rfl
theorem ti_144 : ti Tryd.prog 144 = some (some Value.nilFunc, 1, 8) := by rfl
theorem tsz_144 : tsz Tryd.prog 144 = some (false, 1) := by rfl
theorem kindOf_144 : kindOf Tryd.prog 144 = some TK.other := by rfl
theorem ti_145 : ti Tryd.prog 145 = some (some (Value.agg #[Value.bool false, Value.bool false, Value.bool false, Value.bool false, Value.bool false, Value.bool false, Value.bool false, Value.bool false]), 8, 8) := by rfl
theorem tsz_145 : tsz Tryd.prog 145 = some (true, 8) := by rfl
theorem sle_145 : sle Tryd.prog 145 = none := by rfl
theorem arr_145 : arr Tryd.prog 145 = some (4, 134, 2) := by rfl
theorem lay_145 : lay Tryd.prog 145 = some ([AV.v (Value.bool false), AV.v (Value.bool false), AV.v (Value.bool false), AV.v (Value.bool false), AV.v (Value.bool false), AV.v (Value.bool false), AV.v (Value.bool false), AV.v (Value.bool false)], [(0, 2), (2, 2), (4, 2), (6, 2)]) := by rfl
theorem kindOf_145 : kindOf Tryd.prog 145 = some TK.other := by rfl
theorem ti_146 : ti Tryd.prog 146 = some (some (Value.agg #[Value.slice none 0 0, Value.slice none 0 0]), 2, 48) := by rfl
theorem tsz_146 : tsz Tryd.prog 146 = some (true, 2) := by rfl
theorem lay_146 : lay Tryd.prog 146 = some ([AV.v (Value.slice none 0 0), AV.v (Value.slice none 0 0)], [(0, 1), (1, 1)]) := by rfl
theorem kindOf_146 : kindOf Tryd.prog 146 = some TK.other := by rfl
theorem fld_146_0 : fld Tryd.prog 146 0 = some (0, 25, 1) := by rfl
theorem fld_146_1 : fld Tryd.prog 146 1 = some (1, 94, 1) := by rfl
theorem ti_147 : ti Tryd.prog 147 = some (some (Value.agg #[Value.slice none 0 0, Value.slice none 0 0]), 2, 48) := by rfl
theorem tsz_147 : tsz Tryd.prog 147 = some (true, 2) := by rfl
theorem lay_147 : lay Tryd.prog 147 = some ([AV.v (Value.slice none 0 0), AV.v (Value.slice none 0 0)], [(0, 1), (1, 1)]) := by rfl
theorem kindOf_147 : kindOf Tryd.prog 147 = some TK.other := by rfl
theorem fld_147_0 : fld Tryd.prog 147 0 = some (0, 25, 1) := by rfl
theorem fld_147_1 : fld Tryd.prog 147 1 = some (1, 94, 1) := by rfl
theorem ti_148 : ti Tryd.prog 148 = some (some Value.nilFunc, 1, 8) := by rfl
theorem tsz_148 : tsz Tryd.prog 148 = some (false, 1) := by rfl
theorem kindOf_148 : kindOf Tryd.prog 148 = some TK.other := by rfl
theorem ti_149 : ti Tryd.prog 149 = some (some (Value.agg #[Value.pointer none, Value.pointer none, Value.pointer none, Value.string (⟨#[]⟩ : ByteArray)]), 4, 40) := by rfl
theorem tsz_149 : tsz Tryd.prog 149 = some (true, 4) := by rfl
theorem lay_149 : lay Tryd.prog 149 = some ([AV.v (Value.pointer none), AV.v (Value.pointer none), AV.v (Value.pointer none), AV.v (Value.string (⟨#[]⟩ : ByteArray))], [(0, 1), (1, 1), (2, 1), (3, 1)]) := by rfl
theorem kindOf_149 : kindOf Tryd.prog 149 = some TK.other := by rfl
theorem fld_149_0 : fld Tryd.prog 149 0 = some (0, 17, 1) := by rfl
theorem fld_149_1 : fld Tryd.prog 149 1 = some (1, 17, 1) := by rfl
theorem fld_149_2 : fld Tryd.prog 149 2 = some (2, 17, 1) := by rfl
theorem fld_149_3 : fld Tryd.prog 149 3 = some (3, 9, 1) := by rfl
theorem ti_150 : ti Tryd.prog 150 = some (some (Value.agg #[Value.pointer none, Value.pointer none, Value.pointer none, Value.string (⟨#[]⟩ : ByteArray)]), 4, 40) := by rfl
theorem tsz_150 : tsz Tryd.prog 150 = some (true, 4) := by rfl
theorem lay_150 : lay Tryd.prog 150 = some ([AV.v (Value.pointer none), AV.v (Value.pointer none), AV.v (Value.pointer none), AV.v (Value.string (⟨#[]⟩ : ByteArray))], [(0, 1), (1, 1), (2, 1), (3, 1)]) := by rfl
theorem kindOf_150 : kindOf Tryd.prog 150 = some TK.other := by rfl
theorem fld_150_0 : fld Tryd.prog 150 0 = some (0, 17, 1) := by rfl
theorem fld_150_1 : fld Tryd.prog 150 1 = some (1, 17, 1) := by rfl
theorem fld_150_2 : fld Tryd.prog 150 2 = some (2, 17, 1) := by rfl
theorem fld_150_3 : fld Tryd.prog 150 3 = some (3, 9, 1) := by rfl
theorem ti_151 : ti Tryd.prog 151 = some (some (Value.agg #[]), 0, 0) := by rfl
theorem tsz_151 : tsz Tryd.prog 151 = some (true, 0) := by rfl
theorem sle_151 : sle Tryd.prog 151 = none := by rfl
theorem arr_151 : arr Tryd.prog 151 = some (0, 16, 1) := by rfl
theorem lay_151 : lay Tryd.prog 151 = some ([], []) := by rfl
theorem kindOf_151 : kindOf Tryd.prog 151 = some TK.other := by rfl
theorem ti_152 : ti Tryd.prog 152 = some (some (Value.agg #[]), 0, 0) := by rfl
theorem tsz_152 : tsz Tryd.prog 152 = some (true, 0) := by rfl
theorem lay_152 : lay Tryd.prog 152 = some ([], [(0, 0)]) := by rfl
theorem kindOf_152 : kindOf Tryd.prog 152 = some TK.other := by rfl
theorem fld_152_0 : fld Tryd.prog 152 0 = some (0, 151, 0) := by rfl
theorem ti_153 : ti Tryd.prog 153 = some (some (Value.agg #[]), 0, 0) := by rfl
theorem tsz_153 : tsz Tryd.prog 153 = some (true, 0) := by rfl
theorem lay_153 : lay Tryd.prog 153 = some ([], [(0, 0)]) := by rfl
theorem kindOf_153 : kindOf Tryd.prog 153 = some TK.other := by rfl
theorem fld_153_0 : fld Tryd.prog 153 0 = some (0, 151, 0) := by rfl
theorem ti_154 : ti Tryd.prog 154 = some (some (Value.int IntKind.u32 0), 1, 4) := by rfl
theorem tsz_154 : tsz Tryd.prog 154 = some (false, 1) := by rfl
theorem kindOf_154 : kindOf Tryd.prog 154 = some (TK.int IntKind.u32) := by rfl
theorem ti_155 : ti Tryd.prog 155 = some (some (Value.int IntKind.u8 0), 1, 1) := by rfl
theorem tsz_155 : tsz Tryd.prog 155 = some (false, 1) := by rfl
theorem kindOf_155 : kindOf Tryd.prog 155 = some (TK.int IntKind.u8) := by rfl
theorem ti_156 : ti Tryd.prog 156 = some (some (Value.int IntKind.u8 0), 1, 1) := by rfl
theorem tsz_156 : tsz Tryd.prog 156 = some (false, 1) := by rfl
theorem kindOf_156 : kindOf Tryd.prog 156 = some (TK.int IntKind.u8) := by rfl
theorem ti_157 : ti Tryd.prog 157 = some (some Value.nilFunc, 1, 8) := by rfl
theorem tsz_157 : tsz Tryd.prog 157 = some (false, 1) := by rfl
theorem kindOf_157 : kindOf Tryd.prog 157 = some TK.other := by rfl
theorem ti_158 : ti Tryd.prog 158 = some (some (Value.pointer none), 1, 8) := by rfl
theorem tsz_158 : tsz Tryd.prog 158 = some (false, 1) := by rfl
theorem kindOf_158 : kindOf Tryd.prog 158 = some TK.ptr := by rfl
theorem ti_159 : ti Tryd.prog 159 = some (some (Value.int IntKind.i32 0), 1, 4) := by rfl
theorem tsz_159 : tsz Tryd.prog 159 = some (false, 1) := by rfl
theorem kindOf_159 : kindOf Tryd.prog 159 = some (TK.int IntKind.i32) := by rfl
theorem ti_160 : ti Tryd.prog 160 = some (some (Value.int IntKind.i32 0), 1, 4) := by rfl
theorem tsz_160 : tsz Tryd.prog 160 = some (false, 1) := by rfl
theorem kindOf_160 : kindOf Tryd.prog 160 = some (TK.int IntKind.i32) := by rfl
theorem ti_161 : ti Tryd.prog 161 = some (some (Value.agg #[Value.int IntKind.u64 0, Value.int IntKind.u64 0, Value.int IntKind.u32 0, Value.int IntKind.u8 0, Value.int IntKind.u8 0, Value.int IntKind.u8 0, Value.int IntKind.u8 0, Value.nilFunc, Value.pointer none, Value.int IntKind.i32 0, Value.int IntKind.i32 0]), 11, 48) := by rfl
theorem tsz_161 : tsz Tryd.prog 161 = some (true, 11) := by rfl
theorem lay_161 : lay Tryd.prog 161 = some ([AV.v (Value.int IntKind.u64 0), AV.v (Value.int IntKind.u64 0), AV.v (Value.int IntKind.u32 0), AV.v (Value.int IntKind.u8 0), AV.v (Value.int IntKind.u8 0), AV.v (Value.int IntKind.u8 0), AV.v (Value.int IntKind.u8 0), AV.v Value.nilFunc, AV.v (Value.pointer none), AV.v (Value.int IntKind.i32 0), AV.v (Value.int IntKind.i32 0)], [(0, 1), (1, 1), (2, 1), (3, 1), (4, 1), (5, 1), (6, 1), (7, 1), (8, 1), (9, 1), (10, 1)]) := by rfl
theorem kindOf_161 : kindOf Tryd.prog 161 = some TK.other := by rfl
theorem fld_161_0 : fld Tryd.prog 161 0 = some (0, 12, 1) := by rfl
theorem fld_161_1 : fld Tryd.prog 161 1 = some (1, 12, 1) := by rfl
theorem fld_161_2 : fld Tryd.prog 161 2 = some (2, 154, 1) := by rfl
theorem fld_161_3 : fld Tryd.prog 161 3 = some (3, 155, 1) := by rfl
theorem fld_161_4 : fld Tryd.prog 161 4 = some (4, 5, 1) := by rfl
theorem fld_161_5 : fld Tryd.prog 161 5 = some (5, 5, 1) := by rfl
theorem fld_161_6 : fld Tryd.prog 161 6 = some (6, 156, 1) := by rfl
theorem fld_161_7 : fld Tryd.prog 161 7 = some (7, 157, 1) := by rfl
theorem fld_161_8 : fld Tryd.prog 161 8 = some (8, 158, 1) := by rfl
theorem fld_161_9 : fld Tryd.prog 161 9 = some (9, 159, 1) := by rfl
theorem fld_161_10 : fld Tryd.prog 161 10 = some (10, 160, 1) := by rfl
theorem ti_162 : ti Tryd.prog 162 = some (some (Value.agg #[Value.int IntKind.u64 0, Value.int IntKind.u64 0, Value.int IntKind.u32 0, Value.int IntKind.u8 0, Value.int IntKind.u8 0, Value.int IntKind.u8 0, Value.int IntKind.u8 0, Value.nilFunc, Value.pointer none, Value.int IntKind.i32 0, Value.int IntKind.i32 0]), 11, 48) := by rfl
theorem tsz_162 : tsz Tryd.prog 162 = some (true, 11) := by rfl
theorem lay_162 : lay Tryd.prog 162 = some ([AV.v (Value.int IntKind.u64 0), AV.v (Value.int IntKind.u64 0), AV.v (Value.int IntKind.u32 0), AV.v (Value.int IntKind.u8 0), AV.v (Value.int IntKind.u8 0), AV.v (Value.int IntKind.u8 0), AV.v (Value.int IntKind.u8 0), AV.v Value.nilFunc, AV.v (Value.pointer none), AV.v (Value.int IntKind.i32 0), AV.v (Value.int IntKind.i32 0)], [(0, 1), (1, 1), (2, 1), (3, 1), (4, 1), (5, 1), (6, 1), (7, 1), (8, 1), (9, 1), (10, 1)]) := by rfl
theorem kindOf_162 : kindOf Tryd.prog 162 = some TK.other := by rfl
theorem fld_162_0 : fld Tryd.prog 162 0 = some (0, 12, 1) := by rfl
theorem fld_162_1 : fld Tryd.prog 162 1 = some (1, 12, 1) := by rfl
theorem fld_162_2 : fld Tryd.prog 162 2 = some (2, 154, 1) := by rfl
theorem fld_162_3 : fld Tryd.prog 162 3 = some (3, 155, 1) := by rfl
theorem fld_162_4 : fld Tryd.prog 162 4 = some (4, 5, 1) := by rfl
theorem fld_162_5 : fld Tryd.prog 162 5 = some (5, 5, 1) := by rfl
theorem fld_162_6 : fld Tryd.prog 162 6 = some (6, 156, 1) := by rfl
theorem fld_162_7 : fld Tryd.prog 162 7 = some (7, 157, 1) := by rfl
theorem fld_162_8 : fld Tryd.prog 162 8 = some (8, 158, 1) := by rfl
theorem fld_162_9 : fld Tryd.prog 162 9 = some (9, 159, 1) := by rfl
theorem fld_162_10 : fld Tryd.prog 162 10 = some (10, 160, 1) := by rfl
theorem ti_163 : ti Tryd.prog 163 = some (some (Value.pointer none), 1, 8) := by rfl
theorem tsz_163 : tsz Tryd.prog 163 = some (false, 1) := by rfl
theorem kindOf_163 : kindOf Tryd.prog 163 = some TK.other := by rfl
def glob2 : List AV := [.v (.bool false), .v (.bool false), .v (.bool true), .v (.bool true), .v (.bool false), .v (.bool false), .v (.bool true), .v (.bool false)]
def glob0 : List AV := (List.range 256).map fun c => AV.v (Value.int IntKind.u8 (Lib.firstT c))
def glob1 : List AV := (List.range 16).flatMap fun i => [AV.v (Value.int IntKind.u8 (Lib.accLo i)), AV.v (Value.int IntKind.u8 (Lib.accHi i))]
def envG : Nat → Option (List AV)
  | 2 => some glob2
  | 0 => some glob0
  | 1 => some glob1
  | _ => none
noncomputable def env : Env := ⟨Tryd.prog, envG, [], 0⟩
theorem env_P : env.P = Tryd.prog := rfl
theorem env_G : env.G = envG := rfl
def tab : Tab where
  knd := [(0, TK.other), (1, TK.other), (2, TK.int IntKind.i64), (3, TK.int IntKind.i64), (4, TK.bool), (5, TK.int IntKind.u8), (6, TK.int IntKind.u8), (7, TK.other), (8, TK.other), (9, TK.str), (10, TK.str), (11, TK.str), (12, TK.int IntKind.u64), (13, TK.other), (14, TK.other), (15, TK.ptr), (16, TK.ptr), (17, TK.ptr), (18, TK.other), (19, TK.other), (20, TK.other), (21, TK.int IntKind.i32), (22, TK.sl 5), (23, TK.other), (24, TK.other), (25, TK.sl 35), (26, TK.int IntKind.i64), (27, TK.other), (28, TK.other), (29, TK.other), (30, TK.other), (31, TK.other), (32, TK.other), (33, TK.other), (34, TK.other), (35, TK.other), (36, TK.other), (37, TK.other), (38, TK.sl 25), (39, TK.other), (40, TK.sl 3), (41, TK.other), (42, TK.other), (43, TK.other), (44, TK.other), (45, TK.other), (46, TK.other), (47, TK.other), (48, TK.other), (49, TK.other), (50, TK.other), (51, TK.other), (52, TK.other), (53, TK.other), (54, TK.other), (55, TK.other), (56, TK.other), (57, TK.other), (58, TK.other), (59, TK.other), (60, TK.other), (61, TK.other), (62, TK.other), (63, TK.other), (64, TK.other), (65, TK.other), (66, TK.other), (67, TK.other), (68, TK.other), (69, TK.other), (70, TK.other), (71, TK.other), (72, TK.other), (73, TK.other), (74, TK.other), (75, TK.other), (76, TK.other), (77, TK.other), (78, TK.other), (79, TK.other), (80, TK.other), (81, TK.other), (82, TK.other), (83, TK.other), (84, TK.ptr), (85, TK.other), (86, TK.other), (87, TK.other), (88, TK.other), (89, TK.other), (90, TK.other), (91, TK.other), (92, TK.other), (93, TK.other), (94, TK.sl 21), (95, TK.other), (96, TK.other), (97, TK.other), (98, TK.other), (99, TK.other), (100, TK.other), (101, TK.other), (102, TK.other), (103, TK.other), (104, TK.other), (105, TK.other), (106, TK.other), (107, TK.int IntKind.u64), (108, TK.other), (109, TK.other), (110, TK.other), (111, TK.other), (112, TK.other), (113, TK.other), (114, TK.other), (115, TK.other), (116, TK.other), (117, TK.other), (118, TK.sl 35), (119, TK.other), (120, TK.other), (121, TK.other), (122, TK.other), (123, TK.other), (124, TK.other), (125, TK.other), (126, TK.other), (127, TK.other), (128, TK.ptr), (129, TK.other), (130, TK.other), (131, TK.other), (132, TK.other), (133, TK.other), (134, TK.other), (135, TK.other), (136, TK.other), (137, TK.other), (138, TK.other), (139, TK.sl 113), (140, TK.int IntKind.u64), (141, TK.ptr), (142, TK.ptr), (143, TK.other), (144, TK.other), (145, TK.other), (146, TK.other), (147, TK.other), (148, TK.other), (149, TK.other), (150, TK.other), (151, TK.other), (152, TK.other), (153, TK.other), (154, TK.int IntKind.u32), (155, TK.int IntKind.u8), (156, TK.int IntKind.u8), (157, TK.other), (158, TK.ptr), (159, TK.int IntKind.i32), (160, TK.int IntKind.i32), (161, TK.other), (162, TK.other), (163, TK.other)]
  tz := [(0, (false, 1)), (1, (false, 1)), (2, (false, 1)), (3, (false, 1)), (4, (false, 1)), (5, (false, 1)), (6, (false, 1)), (7, (true, 4)), (8, (true, 4)), (9, (false, 1)), (10, (false, 1)), (11, (false, 1)), (12, (false, 1)), (13, (true, 2)), (14, (true, 2)), (15, (false, 1)), (16, (false, 1)), (17, (false, 1)), (18, (true, 1)), (19, (true, 1)), (20, (false, 1)), (21, (false, 1)), (22, (false, 1)), (23, (false, 1)), (24, (false, 1)), (25, (false, 1)), (26, (false, 1)), (27, (false, 1)), (28, (false, 1)), (29, (false, 1)), (30, (false, 1)), (31, (false, 1)), (32, (false, 1)), (33, (true, 6)), (34, (true, 3)), (35, (true, 3)), (36, (true, 3)), (37, (false, 1)), (38, (false, 1)), (39, (true, 2)), (40, (false, 1)), (41, (true, 3)), (42, (true, 3)), (43, (false, 1)), (44, (false, 1)), (45, (false, 1)), (46, (false, 1)), (47, (false, 1)), (48, (false, 1)), (49, (false, 1)), (50, (false, 1)), (51, (false, 1)), (52, (false, 1)), (53, (false, 1)), (54, (false, 1)), (55, (false, 1)), (56, (false, 1)), (57, (false, 1)), (58, (false, 1)), (59, (false, 1)), (60, (false, 1)), (61, (false, 1)), (62, (false, 1)), (63, (false, 1)), (64, (false, 1)), (65, (false, 1)), (66, (false, 1)), (67, (false, 1)), (68, (false, 1)), (69, (false, 1)), (70, (false, 1)), (71, (false, 1)), (72, (false, 1)), (73, (false, 1)), (74, (false, 1)), (75, (true, 2)), (76, (true, 2)), (77, (false, 1)), (78, (false, 1)), (79, (false, 1)), (80, (false, 1)), (81, (false, 1)), (82, (false, 1)), (83, (false, 1)), (84, (false, 1)), (85, (false, 1)), (86, (false, 1)), (87, (false, 1)), (88, (false, 1)), (89, (false, 1)), (90, (false, 1)), (91, (false, 1)), (92, (false, 1)), (93, (false, 1)), (94, (false, 1)), (95, (false, 1)), (96, (false, 1)), (97, (false, 1)), (98, (false, 1)), (99, (false, 1)), (100, (true, 1)), (101, (true, 1)), (102, (false, 1)), (103, (false, 1)), (104, (false, 1)), (105, (false, 1)), (106, (false, 1)), (107, (false, 1)), (108, (true, 8)), (109, (false, 1)), (110, (false, 1)), (111, (false, 1)), (112, (false, 1)), (113, (false, 1)), (114, (false, 1)), (115, (false, 1)), (116, (false, 1)), (117, (false, 1)), (118, (false, 1)), (119, (false, 1)), (120, (true, 256)), (121, (true, 2)), (122, (true, 2)), (123, (true, 32)), (124, (false, 1)), (125, (true, 2)), (126, (true, 2)), (127, (false, 1)), (128, (false, 1)), (129, (false, 1)), (130, (false, 1)), (131, (false, 1)), (132, (false, 1)), (133, (true, 2)), (134, (true, 2)), (135, (false, 1)), (136, (false, 1)), (137, (false, 1)), (138, (false, 1)), (139, (false, 1)), (140, (false, 1)), (141, (false, 1)), (142, (false, 1)), (143, (false, 1)), (144, (false, 1)), (145, (true, 8)), (146, (true, 2)), (147, (true, 2)), (148, (false, 1)), (149, (true, 4)), (150, (true, 4)), (151, (true, 0)), (152, (true, 0)), (153, (true, 0)), (154, (false, 1)), (155, (false, 1)), (156, (false, 1)), (157, (false, 1)), (158, (false, 1)), (159, (false, 1)), (160, (false, 1)), (161, (true, 11)), (162, (true, 11)), (163, (false, 1))]
  zc := [(1, [AV.v (Value.nilFunc)]), (2, [AV.v (Value.int IntKind.i64 0)]), (3, [AV.v (Value.int IntKind.i64 0)]), (4, [AV.v (Value.bool false)]), (5, [AV.v (Value.int IntKind.u8 0)]), (6, [AV.v (Value.int IntKind.u8 0)]), (7, ([Value.int IntKind.i64 0, Value.int IntKind.i64 0, Value.bool false, Value.int IntKind.u8 0].map AV.v)), (8, ([Value.int IntKind.i64 0, Value.int IntKind.i64 0, Value.bool false, Value.int IntKind.u8 0].map AV.v)), (9, [AV.v (Value.string (⟨#[]⟩ : ByteArray))]), (10, [AV.v (Value.string (⟨#[]⟩ : ByteArray))]), (11, [AV.v (Value.string (⟨#[]⟩ : ByteArray))]), (12, [AV.v (Value.int IntKind.u64 0)]), (13, ([Value.string (⟨#[]⟩ : ByteArray), Value.int IntKind.u64 0].map AV.v)), (14, ([Value.string (⟨#[]⟩ : ByteArray), Value.int IntKind.u64 0].map AV.v)), (15, [AV.v (Value.pointer none)]), (16, [AV.v (Value.pointer none)]), (17, [AV.v (Value.pointer none)]), (18, ([Value.pointer none].map AV.v)), (19, ([Value.pointer none].map AV.v)), (20, [AV.v (Value.nilIface)]), (21, [AV.v (Value.int IntKind.i32 0)]), (22, [AV.v (Value.slice none 0 0)]), (23, [AV.v (Value.nilFunc)]), (24, [AV.v (Value.nilFunc)]), (25, [AV.v (Value.slice none 0 0)]), (26, [AV.v (Value.int IntKind.i64 0)]), (28, [AV.v (Value.nilFunc)]), (30, [AV.v (Value.nilFunc)]), (31, [AV.v (Value.nilFunc)]), (32, [AV.v (Value.nilFunc)]), (33, ([Value.slice none 0 0, Value.slice none 0 0, Value.slice none 0 0, Value.slice none 0 0, Value.slice none 0 0, Value.slice none 0 0].map AV.v)), (34, ([Value.int IntKind.i64 0, Value.int IntKind.i64 0, Value.string (⟨#[]⟩ : ByteArray)].map AV.v)), (35, ([Value.int IntKind.i64 0, Value.int IntKind.i64 0, Value.string (⟨#[]⟩ : ByteArray)].map AV.v)), (36, ([Value.slice none 0 0, Value.slice none 0 0, Value.slice none 0 0].map AV.v)), (37, [AV.v (Value.nilFunc)]), (38, [AV.v (Value.slice none 0 0)]), (39, ([Value.int IntKind.u8 0, Value.int IntKind.u8 0].map AV.v)), (40, [AV.v (Value.slice none 0 0)]), (41, ([Value.string (⟨#[]⟩ : ByteArray), Value.slice none 0 0, Value.slice none 0 0].map AV.v)), (42, ([Value.string (⟨#[]⟩ : ByteArray), Value.slice none 0 0, Value.slice none 0 0].map AV.v)), (43, [AV.v (Value.nilFunc)]), (44, [AV.v (Value.nilFunc)]), (45, [AV.v (Value.nilFunc)]), (47, [AV.v (Value.nilFunc)]), (48, [AV.v (Value.nilFunc)]), (49, [AV.v (Value.nilFunc)]), (51, [AV.v (Value.nilFunc)]), (52, [AV.v (Value.nilFunc)]), (53, [AV.v (Value.nilFunc)]), (54, [AV.v (Value.nilFunc)]), (55, [AV.v (Value.nilFunc)]), (56, [AV.v (Value.nilFunc)]), (57, [AV.v (Value.nilFunc)]), (58, [AV.v (Value.nilFunc)]), (59, [AV.v (Value.nilFunc)]), (60, [AV.v (Value.nilFunc)]), (61, [AV.v (Value.nilFunc)]), (62, [AV.v (Value.nilFunc)]), (63, [AV.v (Value.nilFunc)]), (64, [AV.v (Value.nilFunc)]), (65, [AV.v (Value.nilFunc)]), (66, [AV.v (Value.nilFunc)]), (67, [AV.v (Value.nilFunc)]), (68, [AV.v (Value.nilFunc)]), (70, [AV.v (Value.nilFunc)]), (71, [AV.v (Value.nilFunc)]), (72, [AV.v (Value.nilFunc)]), (73, [AV.v (Value.nilFunc)]), (74, [AV.v (Value.nilFunc)]), (75, ([Value.slice none 0 0, Value.slice none 0 0].map AV.v)), (76, ([Value.slice none 0 0, Value.slice none 0 0].map AV.v)), (77, [AV.v (Value.nilFunc)]), (78, [AV.v (Value.nilFunc)]), (80, [AV.v (Value.nilFunc)]), (81, [AV.v (Value.nilFunc)]), (83, [AV.v (Value.nilFunc)]), (84, [AV.v (Value.pointer none)]), (85, [AV.v (Value.nilFunc)]), (86, [AV.v (Value.nilFunc)]), (87, [AV.v (Value.nilFunc)]), (88, [AV.v (Value.nilFunc)]), (89, [AV.v (Value.nilFunc)]), (90, [AV.v (Value.nilFunc)]), (91, [AV.v (Value.nilFunc)]), (92, [AV.v (Value.nilFunc)]), (93, [AV.v (Value.nilFunc)]), (94, [AV.v (Value.slice none 0 0)]), (95, [AV.v (Value.nilFunc)]), (97, [AV.v (Value.nilFunc)]), (99, [AV.v (Value.nilFunc)]), (100, ([Value.slice none 0 0].map AV.v)), (101, ([Value.slice none 0 0].map AV.v)), (102, [AV.v (Value.nilFunc)]), (103, [AV.v (Value.nilFunc)]), (105, [AV.v (Value.nilFunc)]), (106, [AV.v (Value.nilFunc)]), (107, [AV.v (Value.int IntKind.u64 0)]), (108, ([Value.int IntKind.i32 0, Value.int IntKind.i32 0, Value.int IntKind.i32 0, Value.int IntKind.i32 0, Value.int IntKind.i32 0, Value.int IntKind.i32 0, Value.int IntKind.i32 0, Value.int IntKind.i32 0].map AV.v)), (109, [AV.v (Value.nilFunc)]), (111, [AV.v (Value.nilFunc)]), (112, [AV.v (Value.nilFunc)]), (113, [AV.v (Value.nilFunc)]), (114, [AV.v (Value.nilFunc)]), (115, [AV.v (Value.nilFunc)]), (116, [AV.v (Value.nilFunc)]), (117, [AV.v (Value.nilFunc)]), (118, [AV.v (Value.slice none 0 0)]), (119, [AV.v (Value.nilFunc)]), (121, ([Value.int IntKind.u8 0, Value.int IntKind.u8 0].map AV.v)), (122, ([Value.int IntKind.u8 0, Value.int IntKind.u8 0].map AV.v)), (123, ([Value.int IntKind.u8 0, Value.int IntKind.u8 0, Value.int IntKind.u8 0, Value.int IntKind.u8 0, Value.int IntKind.u8 0, Value.int IntKind.u8 0, Value.int IntKind.u8 0, Value.int IntKind.u8 0, Value.int IntKind.u8 0, Value.int IntKind.u8 0, Value.int IntKind.u8 0, Value.int IntKind.u8 0, Value.int IntKind.u8 0, Value.int IntKind.u8 0, Value.int IntKind.u8 0, Value.int IntKind.u8 0, Value.int IntKind.u8 0, Value.int IntKind.u8 0, Value.int IntKind.u8 0, Value.int IntKind.u8 0, Value.int IntKind.u8 0, Value.int IntKind.u8 0, Value.int IntKind.u8 0, Value.int IntKind.u8 0, Value.int IntKind.u8 0, Value.int IntKind.u8 0, Value.int IntKind.u8 0, Value.int IntKind.u8 0, Value.int IntKind.u8 0, Value.int IntKind.u8 0, Value.int IntKind.u8 0, Value.int IntKind.u8 0].map AV.v)), (124, [AV.v (Value.nilFunc)]), (125, ([Value.slice none 0 0, Value.int IntKind.i64 0].map AV.v)), (126, ([Value.slice none 0 0, Value.int IntKind.i64 0].map AV.v)), (127, [AV.v (Value.nilFunc)]), (128, [AV.v (Value.pointer none)]), (129, [AV.v (Value.map none)]), (130, [AV.v (Value.nilFunc)]), (131, [AV.v (Value.nilFunc)]), (132, [AV.v (Value.nilFunc)]), (133, ([Value.bool false, Value.bool false].map AV.v)), (134, ([Value.bool false, Value.bool false].map AV.v)), (136, [AV.v (Value.nilFunc)]), (138, [AV.v (Value.nilFunc)]), (139, [AV.v (Value.slice none 0 0)]), (140, [AV.v (Value.int IntKind.u64 0)]), (141, [AV.v (Value.pointer none)]), (142, [AV.v (Value.pointer none)]), (143, [AV.v (Value.nilFunc)]), (144, [AV.v (Value.nilFunc)]), (145, ([Value.bool false, Value.bool false, Value.bool false, Value.bool false, Value.bool false, Value.bool false, Value.bool false, Value.bool false].map AV.v)), (146, ([Value.slice none 0 0, Value.slice none 0 0].map AV.v)), (147, ([Value.slice none 0 0, Value.slice none 0 0].map AV.v)), (148, [AV.v (Value.nilFunc)]), (149, ([Value.pointer none, Value.pointer none, Value.pointer none, Value.string (⟨#[]⟩ : ByteArray)].map AV.v)), (150, ([Value.pointer none, Value.pointer none, Value.pointer none, Value.string (⟨#[]⟩ : ByteArray)].map AV.v)), (151, ([].map AV.v)), (152, ([].map AV.v)), (153, ([].map AV.v)), (154, [AV.v (Value.int IntKind.u32 0)]), (155, [AV.v (Value.int IntKind.u8 0)]), (156, [AV.v (Value.int IntKind.u8 0)]), (157, [AV.v (Value.nilFunc)]), (158, [AV.v (Value.pointer none)]), (159, [AV.v (Value.int IntKind.i32 0)]), (160, [AV.v (Value.int IntKind.i32 0)]), (161, ([Value.int IntKind.u64 0, Value.int IntKind.u64 0, Value.int IntKind.u32 0, Value.int IntKind.u8 0, Value.int IntKind.u8 0, Value.int IntKind.u8 0, Value.int IntKind.u8 0, Value.nilFunc, Value.pointer none, Value.int IntKind.i32 0, Value.int IntKind.i32 0].map AV.v)), (162, ([Value.int IntKind.u64 0, Value.int IntKind.u64 0, Value.int IntKind.u32 0, Value.int IntKind.u8 0, Value.int IntKind.u8 0, Value.int IntKind.u8 0, Value.int IntKind.u8 0, Value.nilFunc, Value.pointer none, Value.int IntKind.i32 0, Value.int IntKind.i32 0].map AV.v)), (163, [AV.v (Value.pointer none)])]
  sl := [(22, (5, 1, 1, [AV.v (Value.int IntKind.u8 0)])), (25, (35, 3, 32, ([Value.int IntKind.i64 0, Value.int IntKind.i64 0, Value.string (⟨#[]⟩ : ByteArray)].map AV.v))), (38, (25, 1, 24, [AV.v (Value.slice none 0 0)])), (40, (3, 1, 8, [AV.v (Value.int IntKind.i64 0)])), (94, (21, 1, 4, [AV.v (Value.int IntKind.i32 0)])), (118, (35, 3, 32, ([Value.int IntKind.i64 0, Value.int IntKind.i64 0, Value.string (⟨#[]⟩ : ByteArray)].map AV.v))), (139, (113, 1, 8, [AV.v (Value.nilFunc)]))]
  ar := [(33, (6, 22, 1)), (36, (3, 25, 1)), (39, (2, 5, 1)), (108, (8, 21, 1)), (120, (256, 5, 1)), (123, (16, 122, 2)), (145, (4, 134, 2)), (151, (0, 16, 1))]
  ly := [(7, ([AV.v (Value.int IntKind.i64 0), AV.v (Value.int IntKind.i64 0), AV.v (Value.bool false), AV.v (Value.int IntKind.u8 0)], [(0, 1), (1, 1), (2, 1), (3, 1)])), (8, ([AV.v (Value.int IntKind.i64 0), AV.v (Value.int IntKind.i64 0), AV.v (Value.bool false), AV.v (Value.int IntKind.u8 0)], [(0, 1), (1, 1), (2, 1), (3, 1)])), (13, ([AV.v (Value.string (⟨#[]⟩ : ByteArray)), AV.v (Value.int IntKind.u64 0)], [(0, 1), (1, 1)])), (14, ([AV.v (Value.string (⟨#[]⟩ : ByteArray)), AV.v (Value.int IntKind.u64 0)], [(0, 1), (1, 1)])), (18, ([AV.v (Value.pointer none)], [(0, 1)])), (19, ([AV.v (Value.pointer none)], [(0, 1)])), (33, ([AV.v (Value.slice none 0 0), AV.v (Value.slice none 0 0), AV.v (Value.slice none 0 0), AV.v (Value.slice none 0 0), AV.v (Value.slice none 0 0), AV.v (Value.slice none 0 0)], [(0, 1), (1, 1), (2, 1), (3, 1), (4, 1), (5, 1)])), (34, ([AV.v (Value.int IntKind.i64 0), AV.v (Value.int IntKind.i64 0), AV.v (Value.string (⟨#[]⟩ : ByteArray))], [(0, 1), (1, 1), (2, 1)])), (35, ([AV.v (Value.int IntKind.i64 0), AV.v (Value.int IntKind.i64 0), AV.v (Value.string (⟨#[]⟩ : ByteArray))], [(0, 1), (1, 1), (2, 1)])), (36, ([AV.v (Value.slice none 0 0), AV.v (Value.slice none 0 0), AV.v (Value.slice none 0 0)], [(0, 1), (1, 1), (2, 1)])), (39, ([AV.v (Value.int IntKind.u8 0), AV.v (Value.int IntKind.u8 0)], [(0, 1), (1, 1)])), (41, ([AV.v (Value.string (⟨#[]⟩ : ByteArray)), AV.v (Value.slice none 0 0), AV.v (Value.slice none 0 0)], [(0, 1), (1, 1), (2, 1)])), (42, ([AV.v (Value.string (⟨#[]⟩ : ByteArray)), AV.v (Value.slice none 0 0), AV.v (Value.slice none 0 0)], [(0, 1), (1, 1), (2, 1)])), (75, ([AV.v (Value.slice none 0 0), AV.v (Value.slice none 0 0)], [(0, 1), (1, 1)])), (76, ([AV.v (Value.slice none 0 0), AV.v (Value.slice none 0 0)], [(0, 1), (1, 1)])), (100, ([AV.v (Value.slice none 0 0)], [(0, 1)])), (101, ([AV.v (Value.slice none 0 0)], [(0, 1)])), (108, ([AV.v (Value.int IntKind.i32 0), AV.v (Value.int IntKind.i32 0), AV.v (Value.int IntKind.i32 0), AV.v (Value.int IntKind.i32 0), AV.v (Value.int IntKind.i32 0), AV.v (Value.int IntKind.i32 0), AV.v (Value.int IntKind.i32 0), AV.v (Value.int IntKind.i32 0)], [(0, 1), (1, 1), (2, 1), (3, 1), (4, 1), (5, 1), (6, 1), (7, 1)])), (121, ([AV.v (Value.int IntKind.u8 0), AV.v (Value.int IntKind.u8 0)], [(0, 1), (1, 1)])), (122, ([AV.v (Value.int IntKind.u8 0), AV.v (Value.int IntKind.u8 0)], [(0, 1), (1, 1)])), (123, ([AV.v (Value.int IntKind.u8 0), AV.v (Value.int IntKind.u8 0), AV.v (Value.int IntKind.u8 0), AV.v (Value.int IntKind.u8 0), AV.v (Value.int IntKind.u8 0), AV.v (Value.int IntKind.u8 0), AV.v (Value.int IntKind.u8 0), AV.v (Value.int IntKind.u8 0), AV.v (Value.int IntKind.u8 0), AV.v (Value.int IntKind.u8 0), AV.v (Value.int IntKind.u8 0), AV.v (Value.int IntKind.u8 0), AV.v (Value.int IntKind.u8 0), AV.v (Value.int IntKind.u8 0), AV.v (Value.int IntKind.u8 0), AV.v (Value.int IntKind.u8 0), AV.v (Value.int IntKind.u8 0), AV.v (Value.int IntKind.u8 0), AV.v (Value.int IntKind.u8 0), AV.v (Value.int IntKind.u8 0), AV.v (Value.int IntKind.u8 0), AV.v (Value.int IntKind.u8 0), AV.v (Value.int IntKind.u8 0), AV.v (Value.int IntKind.u8 0), AV.v (Value.int IntKind.u8 0), AV.v (Value.int IntKind.u8 0), AV.v (Value.int IntKind.u8 0), AV.v (Value.int IntKind.u8 0), AV.v (Value.int IntKind.u8 0), AV.v (Value.int IntKind.u8 0), AV.v (Value.int IntKind.u8 0), AV.v (Value.int IntKind.u8 0)], [(0, 2), (2, 2), (4, 2), (6, 2), (8, 2), (10, 2), (12, 2), (14, 2), (16, 2), (18, 2), (20, 2), (22, 2), (24, 2), (26, 2), (28, 2), (30, 2)])), (125, ([AV.v (Value.slice none 0 0), AV.v (Value.int IntKind.i64 0)], [(0, 1), (1, 1)])), (126, ([AV.v (Value.slice none 0 0), AV.v (Value.int IntKind.i64 0)], [(0, 1), (1, 1)])), (133, ([AV.v (Value.bool false), AV.v (Value.bool false)], [(0, 1), (1, 1)])), (134, ([AV.v (Value.bool false), AV.v (Value.bool false)], [(0, 1), (1, 1)])), (145, ([AV.v (Value.bool false), AV.v (Value.bool false), AV.v (Value.bool false), AV.v (Value.bool false), AV.v (Value.bool false), AV.v (Value.bool false), AV.v (Value.bool false), AV.v (Value.bool false)], [(0, 2), (2, 2), (4, 2), (6, 2)])), (146, ([AV.v (Value.slice none 0 0), AV.v (Value.slice none 0 0)], [(0, 1), (1, 1)])), (147, ([AV.v (Value.slice none 0 0), AV.v (Value.slice none 0 0)], [(0, 1), (1, 1)])), (149, ([AV.v (Value.pointer none), AV.v (Value.pointer none), AV.v (Value.pointer none), AV.v (Value.string (⟨#[]⟩ : ByteArray))], [(0, 1), (1, 1), (2, 1), (3, 1)])), (150, ([AV.v (Value.pointer none), AV.v (Value.pointer none), AV.v (Value.pointer none), AV.v (Value.string (⟨#[]⟩ : ByteArray))], [(0, 1), (1, 1), (2, 1), (3, 1)])), (151, ([], [])), (152, ([], [(0, 0)])), (153, ([], [(0, 0)])), (161, ([AV.v (Value.int IntKind.u64 0), AV.v (Value.int IntKind.u64 0), AV.v (Value.int IntKind.u32 0), AV.v (Value.int IntKind.u8 0), AV.v (Value.int IntKind.u8 0), AV.v (Value.int IntKind.u8 0), AV.v (Value.int IntKind.u8 0), AV.v Value.nilFunc, AV.v (Value.pointer none), AV.v (Value.int IntKind.i32 0), AV.v (Value.int IntKind.i32 0)], [(0, 1), (1, 1), (2, 1), (3, 1), (4, 1), (5, 1), (6, 1), (7, 1), (8, 1), (9, 1), (10, 1)])), (162, ([AV.v (Value.int IntKind.u64 0), AV.v (Value.int IntKind.u64 0), AV.v (Value.int IntKind.u32 0), AV.v (Value.int IntKind.u8 0), AV.v (Value.int IntKind.u8 0), AV.v (Value.int IntKind.u8 0), AV.v (Value.int IntKind.u8 0), AV.v Value.nilFunc, AV.v (Value.pointer none), AV.v (Value.int IntKind.i32 0), AV.v (Value.int IntKind.i32 0)], [(0, 1), (1, 1), (2, 1), (3, 1), (4, 1), (5, 1), (6, 1), (7, 1), (8, 1), (9, 1), (10, 1)]))]
  fd := [(7, [(0, 2, 1), (1, 3, 1), (2, 4, 1), (3, 6, 1)]), (8, [(0, 2, 1), (1, 3, 1), (2, 4, 1), (3, 6, 1)]), (13, [(0, 9, 1), (1, 12, 1)]), (14, [(0, 9, 1), (1, 12, 1)]), (18, [(0, 17, 1)]), (19, [(0, 17, 1)]), (34, [(0, 3, 1), (1, 3, 1), (2, 9, 1)]), (35, [(0, 3, 1), (1, 3, 1), (2, 9, 1)]), (41, [(0, 9, 1), (1, 40, 1), (2, 38, 1)]), (42, [(0, 9, 1), (1, 40, 1), (2, 38, 1)]), (75, [(0, 40, 1), (1, 22, 1)]), (76, [(0, 40, 1), (1, 22, 1)]), (100, [(0, 22, 1)]), (101, [(0, 22, 1)]), (121, [(0, 5, 1), (1, 5, 1)]), (122, [(0, 5, 1), (1, 5, 1)]), (125, [(0, 22, 1), (1, 26, 1)]), (126, [(0, 22, 1), (1, 26, 1)]), (133, [(0, 4, 1), (1, 4, 1)]), (134, [(0, 4, 1), (1, 4, 1)]), (146, [(0, 25, 1), (1, 94, 1)]), (147, [(0, 25, 1), (1, 94, 1)]), (149, [(0, 17, 1), (1, 17, 1), (2, 17, 1), (3, 9, 1)]), (150, [(0, 17, 1), (1, 17, 1), (2, 17, 1), (3, 9, 1)]), (152, [(0, 151, 0)]), (153, [(0, 151, 0)]), (161, [(0, 12, 1), (1, 12, 1), (2, 154, 1), (3, 155, 1), (4, 5, 1), (5, 5, 1), (6, 156, 1), (7, 157, 1), (8, 158, 1), (9, 159, 1), (10, 160, 1)]), (162, [(0, 12, 1), (1, 12, 1), (2, 154, 1), (3, 155, 1), (4, 5, 1), (5, 5, 1), (6, 156, 1), (7, 157, 1), (8, 158, 1), (9, 159, 1), (10, 160, 1)])]
  eq := [34, 35]
theorem tabOK : TabOK env.P tab where
  knd := get_all (p := fun t x => kindOf Tryd.prog t = some x) (List.forall_mem_cons.2 ⟨kindOf_0, (List.forall_mem_cons.2 ⟨kindOf_1, (List.forall_mem_cons.2 ⟨kindOf_2, (List.forall_mem_cons.2 ⟨kindOf_3, (List.forall_mem_cons.2 ⟨kindOf_4, (List.forall_mem_cons.2 ⟨kindOf_5, (List.forall_mem_cons.2 ⟨kindOf_6, (List.forall_mem_cons.2 ⟨kindOf_7, (List.forall_mem_cons.2 ⟨kindOf_8, (List.forall_mem_cons.2 ⟨kindOf_9, (List.forall_mem_cons.2 ⟨kindOf_10, (List.forall_mem_cons.2 ⟨kindOf_11, (List.forall_mem_cons.2 ⟨kindOf_12, (List.forall_mem_cons.2 ⟨kindOf_13, (List.forall_mem_cons.2 ⟨kindOf_14, (List.forall_mem_cons.2 ⟨kindOf_15, (List.forall_mem_cons.2 ⟨kindOf_16, (List.forall_mem_cons.2 ⟨kindOf_17, (List.forall_mem_cons.2 ⟨kindOf_18, (List.forall_mem_cons.2 ⟨kindOf_19, (List.forall_mem_cons.2 ⟨kindOf_20, (List.forall_mem_cons.2 ⟨kindOf_21, (List.forall_mem_cons.2 ⟨kindOf_22, (List.forall_mem_cons.2 ⟨kindOf_23, (List.forall_mem_cons.2 ⟨kindOf_24, (List.forall_mem_cons.2 ⟨kindOf_25, (List.forall_mem_cons.2 ⟨kindOf_26, (List.forall_mem_cons.2 ⟨kindOf_27, (List.forall_mem_cons.2 ⟨kindOf_28, (List.forall_mem_cons.2 ⟨kindOf_29, (List.forall_mem_cons.2 ⟨kindOf_30, (List.forall_mem_cons.2 ⟨kindOf_31, (List.forall_mem_cons.2 ⟨kindOf_32, (List.forall_mem_cons.2 ⟨kindOf_33, (List.forall_mem_cons.2 ⟨kindOf_34, (List.forall_mem_cons.2 ⟨kindOf_35, (List.forall_mem_cons.2 ⟨kindOf_36, (List.forall_mem_cons.2 ⟨kindOf_37, (List.forall_mem_cons.2 ⟨kindOf_38, (List.forall_mem_cons.2 ⟨kindOf_39, (List.forall_mem_cons.2 ⟨kindOf_40, (List.forall_mem_cons.2 ⟨kindOf_41, (List.forall_mem_cons.2 ⟨kindOf_42, (List.forall_mem_cons.2 ⟨kindOf_43, (List.forall_mem_cons.2 ⟨kindOf_44, (List.forall_mem_cons.2 ⟨kindOf_45, (List.forall_mem_cons.2 ⟨kindOf_46, (List.forall_mem_cons.2 ⟨kindOf_47, (List.forall_mem_cons.2 ⟨kindOf_48, (List.forall_mem_cons.2 ⟨kindOf_49, (List.forall_mem_cons.2 ⟨kindOf_50, (List.forall_mem_cons.2 ⟨kindOf_51, (List.forall_mem_cons.2 ⟨kindOf_52, (List.forall_mem_cons.2 ⟨kindOf_53, (List.forall_mem_cons.2 ⟨kindOf_54, (List.forall_mem_cons.2 ⟨kindOf_55, (List.forall_mem_cons.2 ⟨kindOf_56, (List.forall_mem_cons.2 ⟨kindOf_57, (List.forall_mem_cons.2 ⟨kindOf_58, (List.forall_mem_cons.2 ⟨kindOf_59, (List.forall_mem_cons.2 ⟨kindOf_60, (List.forall_mem_cons.2 ⟨kindOf_61, (List.forall_mem_cons.2 ⟨kindOf_62, (List.forall_mem_cons.2 ⟨kindOf_63, (List.forall_mem_cons.2 ⟨kindOf_64, (List.forall_mem_cons.2 ⟨kindOf_65, (List.forall_mem_cons.2 ⟨kindOf_66, (List.forall_mem_cons.2 ⟨kindOf_67, (List.forall_mem_cons.2 ⟨kindOf_68, (List.forall_mem_cons.2 ⟨kindOf_69, (List.forall_mem_cons.2 ⟨kindOf_70, (List.forall_mem_cons.2 ⟨kindOf_71, (List.forall_mem_cons.2 ⟨kindOf_72, (List.forall_mem_cons.2 ⟨kindOf_73, (List.forall_mem_cons.2 ⟨kindOf_74, (List.forall_mem_cons.2 ⟨kindOf_75, (List.forall_mem_cons.2 ⟨kindOf_76, (List.forall_mem_cons.2 ⟨kindOf_77, (List.forall_mem_cons.2 ⟨kindOf_78, (List.forall_mem_cons.2 ⟨kindOf_79, (List.forall_mem_cons.2 ⟨kindOf_80, (List.forall_mem_cons.2 ⟨kindOf_81, (List.forall_mem_cons.2 ⟨kindOf_82, (List.forall_mem_cons.2 ⟨kindOf_83, (List.forall_mem_cons.2 ⟨kindOf_84, (List.forall_mem_cons.2 ⟨kindOf_85, (List.forall_mem_cons.2 ⟨kindOf_86, (List.forall_mem_cons.2 ⟨kindOf_87, (List.forall_mem_cons.2 ⟨kindOf_88, (List.forall_mem_cons.2 ⟨kindOf_89, (List.forall_mem_cons.2 ⟨kindOf_90, (List.forall_mem_cons.2 ⟨kindOf_91, (List.forall_mem_cons.2 ⟨kindOf_92, (List.forall_mem_cons.2 ⟨kindOf_93, (List.forall_mem_cons.2 ⟨kindOf_94, (List.forall_mem_cons.2 ⟨kindOf_95, (List.forall_mem_cons.2 ⟨kindOf_96, (List.forall_mem_cons.2 ⟨kindOf_97, (List.forall_mem_cons.2 ⟨kindOf_98, (List.forall_mem_cons.2 ⟨kindOf_99, (List.forall_mem_cons.2 ⟨kindOf_100, (List.forall_mem_cons.2 ⟨kindOf_101, (List.forall_mem_cons.2 ⟨kindOf_102, (List.forall_mem_cons.2 ⟨kindOf_103, (List.forall_mem_cons.2 ⟨kindOf_104, (List.forall_mem_cons.2 ⟨kindOf_105, (List.forall_mem_cons.2 ⟨kindOf_106, (List.forall_mem_cons.2 ⟨kindOf_107, (List.forall_mem_cons.2 ⟨kindOf_108, (List.forall_mem_cons.2 ⟨kindOf_109, (List.forall_mem_cons.2 ⟨kindOf_110, (List.forall_mem_cons.2 ⟨kindOf_111, (List.forall_mem_cons.2 ⟨kindOf_112, (List.forall_mem_cons.2 ⟨kindOf_113, (List.forall_mem_cons.2 ⟨kindOf_114, (List.forall_mem_cons.2 ⟨kindOf_115, (List.forall_mem_cons.2 ⟨kindOf_116, (List.forall_mem_cons.2 ⟨kindOf_117, (List.forall_mem_cons.2 ⟨kindOf_118, (List.forall_mem_cons.2 ⟨kindOf_119, (List.forall_mem_cons.2 ⟨kindOf_120, (List.forall_mem_cons.2 ⟨kindOf_121, (List.forall_mem_cons.2 ⟨kindOf_122, (List.forall_mem_cons.2 ⟨kindOf_123, (List.forall_mem_cons.2 ⟨kindOf_124, (List.forall_mem_cons.2 ⟨kindOf_125, (List.forall_mem_cons.2 ⟨kindOf_126, (List.forall_mem_cons.2 ⟨kindOf_127, (List.forall_mem_cons.2 ⟨kindOf_128, (List.forall_mem_cons.2 ⟨kindOf_129, (List.forall_mem_cons.2 ⟨kindOf_130, (List.forall_mem_cons.2 ⟨kindOf_131, (List.forall_mem_cons.2 ⟨kindOf_132, (List.forall_mem_cons.2 ⟨kindOf_133, (List.forall_mem_cons.2 ⟨kindOf_134, (List.forall_mem_cons.2 ⟨kindOf_135, (List.forall_mem_cons.2 ⟨kindOf_136, (List.forall_mem_cons.2 ⟨kindOf_137, (List.forall_mem_cons.2 ⟨kindOf_138, (List.forall_mem_cons.2 ⟨kindOf_139, (List.forall_mem_cons.2 ⟨kindOf_140, (List.forall_mem_cons.2 ⟨kindOf_141, (List.forall_mem_cons.2 ⟨kindOf_142, (List.forall_mem_cons.2 ⟨kindOf_143, (List.forall_mem_cons.2 ⟨kindOf_144, (List.forall_mem_cons.2 ⟨kindOf_145, (List.forall_mem_cons.2 ⟨kindOf_146, (List.forall_mem_cons.2 ⟨kindOf_147, (List.forall_mem_cons.2 ⟨kindOf_148, (List.forall_mem_cons.2 ⟨kindOf_149, (List.forall_mem_cons.2 ⟨kindOf_150, (List.forall_mem_cons.2 ⟨kindOf_151, (List.forall_mem_cons.2 ⟨kindOf_152, (List.forall_mem_cons.2 ⟨kindOf_153, (List.forall_mem_cons.2 ⟨kindOf_154, (List.forall_mem_cons.2 ⟨kindOf_155, (List.forall_mem_cons.2 ⟨kindOf_156, (List.forall_mem_cons.2 ⟨kindOf_157, (List.forall_mem_cons.2 ⟨kindOf_158, (List.forall_mem_cons.2 ⟨kindOf_159, (List.forall_mem_cons.2 ⟨kindOf_160, (List.forall_mem_cons.2 ⟨kindOf_161, (List.forall_mem_cons.2 ⟨kindOf_162, (List.forall_mem_cons.2 ⟨kindOf_163, (fun _ h => nomatch h)⟩)⟩)⟩)⟩)⟩)⟩)⟩)⟩)⟩)⟩)⟩)⟩)⟩)⟩)⟩)⟩)⟩)⟩)⟩)⟩)⟩)⟩)⟩)⟩)⟩)⟩)⟩)⟩)⟩)⟩)⟩)⟩)⟩)⟩)⟩)⟩)⟩)⟩)⟩)⟩)⟩)⟩)⟩)⟩)⟩)⟩)⟩)⟩)⟩)⟩)⟩)⟩)⟩)⟩)⟩)⟩)⟩)⟩)⟩)⟩)⟩)⟩)⟩)⟩)⟩)⟩)⟩)⟩)⟩)⟩)⟩)⟩)⟩)⟩)⟩)⟩)⟩)⟩)⟩)⟩)⟩)⟩)⟩)⟩)⟩)⟩)⟩)⟩)⟩)⟩)⟩)⟩)⟩)⟩)⟩)⟩)⟩)⟩)⟩)⟩)⟩)⟩)⟩)⟩)⟩)⟩)⟩)⟩)⟩)⟩)⟩)⟩)⟩)⟩)⟩)⟩)⟩)⟩)⟩)⟩)⟩)⟩)⟩)⟩)⟩)⟩)⟩)⟩)⟩)⟩)⟩)⟩)⟩)⟩)⟩)⟩)⟩)⟩)⟩)⟩)⟩)⟩)⟩)⟩)⟩)⟩)⟩)⟩)⟩)⟩)⟩)⟩)⟩)⟩)⟩)⟩)⟩)⟩)⟩)⟩)⟩)⟩)⟩)⟩)
  tz := get_all (p := fun t x => tsz Tryd.prog t = some x) (List.forall_mem_cons.2 ⟨tsz_0, (List.forall_mem_cons.2 ⟨tsz_1, (List.forall_mem_cons.2 ⟨tsz_2, (List.forall_mem_cons.2 ⟨tsz_3, (List.forall_mem_cons.2 ⟨tsz_4, (List.forall_mem_cons.2 ⟨tsz_5, (List.forall_mem_cons.2 ⟨tsz_6, (List.forall_mem_cons.2 ⟨tsz_7, (List.forall_mem_cons.2 ⟨tsz_8, (List.forall_mem_cons.2 ⟨tsz_9, (List.forall_mem_cons.2 ⟨tsz_10, (List.forall_mem_cons.2 ⟨tsz_11, (List.forall_mem_cons.2 ⟨tsz_12, (List.forall_mem_cons.2 ⟨tsz_13, (List.forall_mem_cons.2 ⟨tsz_14, (List.forall_mem_cons.2 ⟨tsz_15, (List.forall_mem_cons.2 ⟨tsz_16, (List.forall_mem_cons.2 ⟨tsz_17, (List.forall_mem_cons.2 ⟨tsz_18, (List.forall_mem_cons.2 ⟨tsz_19, (List.forall_mem_cons.2 ⟨tsz_20, (List.forall_mem_cons.2 ⟨tsz_21, (List.forall_mem_cons.2 ⟨tsz_22, (List.forall_mem_cons.2 ⟨tsz_23, (List.forall_mem_cons.2 ⟨tsz_24, (List.forall_mem_cons.2 ⟨tsz_25, (List.forall_mem_cons.2 ⟨tsz_26, (List.forall_mem_cons.2 ⟨tsz_27, (List.forall_mem_cons.2 ⟨tsz_28, (List.forall_mem_cons.2 ⟨tsz_29, (List.forall_mem_cons.2 ⟨tsz_30, (List.forall_mem_cons.2 ⟨tsz_31, (List.forall_mem_cons.2 ⟨tsz_32, (List.forall_mem_cons.2 ⟨tsz_33, (List.forall_mem_cons.2 ⟨tsz_34, (List.forall_mem_cons.2 ⟨tsz_35, (List.forall_mem_cons.2 ⟨tsz_36, (List.forall_mem_cons.2 ⟨tsz_37, (List.forall_mem_cons.2 ⟨tsz_38, (List.forall_mem_cons.2 ⟨tsz_39, (List.forall_mem_cons.2 ⟨tsz_40, (List.forall_mem_cons.2 ⟨tsz_41, (List.forall_mem_cons.2 ⟨tsz_42, (List.forall_mem_cons.2 ⟨tsz_43, (List.forall_mem_cons.2 ⟨tsz_44, (List.forall_mem_cons.2 ⟨tsz_45, (List.forall_mem_cons.2 ⟨tsz_46, (List.forall_mem_cons.2 ⟨tsz_47, (List.forall_mem_cons.2 ⟨tsz_48, (List.forall_mem_cons.2 ⟨tsz_49, (List.forall_mem_cons.2 ⟨tsz_50, (List.forall_mem_cons.2 ⟨tsz_51, (List.forall_mem_cons.2 ⟨tsz_52, (List.forall_mem_cons.2 ⟨tsz_53, (List.forall_mem_cons.2 ⟨tsz_54, (List.forall_mem_cons.2 ⟨tsz_55, (List.forall_mem_cons.2 ⟨tsz_56, (List.forall_mem_cons.2 ⟨tsz_57, (List.forall_mem_cons.2 ⟨tsz_58, (List.forall_mem_cons.2 ⟨tsz_59, (List.forall_mem_cons.2 ⟨tsz_60, (List.forall_mem_cons.2 ⟨tsz_61, (List.forall_mem_cons.2 ⟨tsz_62, (List.forall_mem_cons.2 ⟨tsz_63, (List.forall_mem_cons.2 ⟨tsz_64, (List.forall_mem_cons.2 ⟨tsz_65, (List.forall_mem_cons.2 ⟨tsz_66, (List.forall_mem_cons.2 ⟨tsz_67, (List.forall_mem_cons.2 ⟨tsz_68, (List.forall_mem_cons.2 ⟨tsz_69, (List.forall_mem_cons.2 ⟨tsz_70, (List.forall_mem_cons.2 ⟨tsz_71, (List.forall_mem_cons.2 ⟨tsz_72, (List.forall_mem_cons.2 ⟨tsz_73, (List.forall_mem_cons.2 ⟨tsz_74, (List.forall_mem_cons.2 ⟨tsz_75, (List.forall_mem_cons.2 ⟨tsz_76, (List.forall_mem_cons.2 ⟨tsz_77, (List.forall_mem_cons.2 ⟨tsz_78, (List.forall_mem_cons.2 ⟨tsz_79, (List.forall_mem_cons.2 ⟨tsz_80, (List.forall_mem_cons.2 ⟨tsz_81, (List.forall_mem_cons.2 ⟨tsz_82, (List.forall_mem_cons.2 ⟨tsz_83, (List.forall_mem_cons.2 ⟨tsz_84, (List.forall_mem_cons.2 ⟨tsz_85, (List.forall_mem_cons.2 ⟨tsz_86, (List.forall_mem_cons.2 ⟨tsz_87, (List.forall_mem_cons.2 ⟨tsz_88, (List.forall_mem_cons.2 ⟨tsz_89, (List.forall_mem_cons.2 ⟨tsz_90, (List.forall_mem_cons.2 ⟨tsz_91, (List.forall_mem_cons.2 ⟨tsz_92, (List.forall_mem_cons.2 ⟨tsz_93, (List.forall_mem_cons.2 ⟨tsz_94, (List.forall_mem_cons.2 ⟨tsz_95, (List.forall_mem_cons.2 ⟨tsz_96, (List.forall_mem_cons.2 ⟨tsz_97, (List.forall_mem_cons.2 ⟨tsz_98, (List.forall_mem_cons.2 ⟨tsz_99, (List.forall_mem_cons.2 ⟨tsz_100, (List.forall_mem_cons.2 ⟨tsz_101, (List.forall_mem_cons.2 ⟨tsz_102, (List.forall_mem_cons.2 ⟨tsz_103, (List.forall_mem_cons.2 ⟨tsz_104, (List.forall_mem_cons.2 ⟨tsz_105, (List.forall_mem_cons.2 ⟨tsz_106, (List.forall_mem_cons.2 ⟨tsz_107, (List.forall_mem_cons.2 ⟨tsz_108, (List.forall_mem_cons.2 ⟨tsz_109, (List.forall_mem_cons.2 ⟨tsz_110, (List.forall_mem_cons.2 ⟨tsz_111, (List.forall_mem_cons.2 ⟨tsz_112, (List.forall_mem_cons.2 ⟨tsz_113, (List.forall_mem_cons.2 ⟨tsz_114, (List.forall_mem_cons.2 ⟨tsz_115, (List.forall_mem_cons.2 ⟨tsz_116, (List.forall_mem_cons.2 ⟨tsz_117, (List.forall_mem_cons.2 ⟨tsz_118, (List.forall_mem_cons.2 ⟨tsz_119, (List.forall_mem_cons.2 ⟨tsz_120, (List.forall_mem_cons.2 ⟨tsz_121, (List.forall_mem_cons.2 ⟨tsz_122, (List.forall_mem_cons.2 ⟨tsz_123, (List.forall_mem_cons.2 ⟨tsz_124, (List.forall_mem_cons.2 ⟨tsz_125, (List.forall_mem_cons.2 ⟨tsz_126, (List.forall_mem_cons.2 ⟨tsz_127, (List.forall_mem_cons.2 ⟨tsz_128, (List.forall_mem_cons.2 ⟨tsz_129, (List.forall_mem_cons.2 ⟨tsz_130, (List.forall_mem_cons.2 ⟨tsz_131, (List.forall_mem_cons.2 ⟨tsz_132, (List.forall_mem_cons.2 ⟨tsz_133, (List.forall_mem_cons.2 ⟨tsz_134, (List.forall_mem_cons.2 ⟨tsz_135, (List.forall_mem_cons.2 ⟨tsz_136, (List.forall_mem_cons.2 ⟨tsz_137, (List.forall_mem_cons.2 ⟨tsz_138, (List.forall_mem_cons.2 ⟨tsz_139, (List.forall_mem_cons.2 ⟨tsz_140, (List.forall_mem_cons.2 ⟨tsz_141, (List.forall_mem_cons.2 ⟨tsz_142, (List.forall_mem_cons.2 ⟨tsz_143, (List.forall_mem_cons.2 ⟨tsz_144, (List.forall_mem_cons.2 ⟨tsz_145, (List.forall_mem_cons.2 ⟨tsz_146, (List.forall_mem_cons.2 ⟨tsz_147, (List.forall_mem_cons.2 ⟨tsz_148, (List.forall_mem_cons.2 ⟨tsz_149, (List.forall_mem_cons.2 ⟨tsz_150, (List.forall_mem_cons.2 ⟨tsz_151, (List.forall_mem_cons.2 ⟨tsz_152, (List.forall_mem_cons.2 ⟨tsz_153, (List.forall_mem_cons.2 ⟨tsz_154, (List.forall_mem_cons.2 ⟨tsz_155, (List.forall_mem_cons.2 ⟨tsz_156, (List.forall_mem_cons.2 ⟨tsz_157, (List.forall_mem_cons.2 ⟨tsz_158, (List.forall_mem_cons.2 ⟨tsz_159, (List.forall_mem_cons.2 ⟨tsz_160, (List.forall_mem_cons.2 ⟨tsz_161, (List.forall_mem_cons.2 ⟨tsz_162, (List.forall_mem_cons.2 ⟨tsz_163, (fun _ h => nomatch h)⟩)⟩)⟩)⟩)⟩)⟩)⟩)⟩)⟩)⟩)⟩)⟩)⟩)⟩)⟩)⟩)⟩)⟩)⟩)⟩)⟩)⟩)⟩)⟩)⟩)⟩)⟩)⟩)⟩)⟩)⟩)⟩)⟩)⟩)⟩)⟩)⟩)⟩)⟩)⟩)⟩)⟩)⟩)⟩)⟩)⟩)⟩)⟩)⟩)⟩)⟩)⟩)⟩)⟩)⟩)⟩)⟩)⟩)⟩)⟩)⟩)⟩)⟩)⟩)⟩)⟩)⟩)⟩)⟩)⟩)⟩)⟩)⟩)⟩)⟩)⟩)⟩)⟩)⟩)⟩)⟩)⟩)⟩)⟩)⟩)⟩)⟩)⟩)⟩)⟩)⟩)⟩)⟩)⟩)⟩)⟩)⟩)⟩)⟩)⟩)⟩)⟩)⟩)⟩)⟩)⟩)⟩)⟩)⟩)⟩)⟩)⟩)⟩)⟩)⟩)⟩)⟩)⟩)⟩)⟩)⟩)⟩)⟩)⟩)⟩)⟩)⟩)⟩)⟩)⟩)⟩)⟩)⟩)⟩)⟩)⟩)⟩)⟩)⟩)⟩)⟩)⟩)⟩)⟩)⟩)⟩)⟩)⟩)⟩)⟩)⟩)⟩)⟩)⟩)⟩)⟩)⟩)⟩)⟩)⟩)⟩)⟩)⟩)⟩)
  zc := get_all (p := fun t cs => ∃ z n b, ti Tryd.prog t = some (some z, n, b) ∧ cellsOf (ofV z) = some cs) (List.forall_mem_cons.2 ⟨⟨_, _, _, ti_1, rfl⟩, (List.forall_mem_cons.2 ⟨⟨_, _, _, ti_2, rfl⟩, (List.forall_mem_cons.2 ⟨⟨_, _, _, ti_3, rfl⟩, (List.forall_mem_cons.2 ⟨⟨_, _, _, ti_4, rfl⟩, (List.forall_mem_cons.2 ⟨⟨_, _, _, ti_5, rfl⟩, (List.forall_mem_cons.2 ⟨⟨_, _, _, ti_6, rfl⟩, (List.forall_mem_cons.2 ⟨⟨_, _, _, ti_7, rfl⟩, (List.forall_mem_cons.2 ⟨⟨_, _, _, ti_8, rfl⟩, (List.forall_mem_cons.2 ⟨⟨_, _, _, ti_9, rfl⟩, (List.forall_mem_cons.2 ⟨⟨_, _, _, ti_10, rfl⟩, (List.forall_mem_cons.2 ⟨⟨_, _, _, ti_11, rfl⟩, (List.forall_mem_cons.2 ⟨⟨_, _, _, ti_12, rfl⟩, (List.forall_mem_cons.2 ⟨⟨_, _, _, ti_13, rfl⟩, (List.forall_mem_cons.2 ⟨⟨_, _, _, ti_14, rfl⟩, (List.forall_mem_cons.2 ⟨⟨_, _, _, ti_15, rfl⟩, (List.forall_mem_cons.2 ⟨⟨_, _, _, ti_16, rfl⟩, (List.forall_mem_cons.2 ⟨⟨_, _, _, ti_17, rfl⟩, (List.forall_mem_cons.2 ⟨⟨_, _, _, ti_18, rfl⟩, (List.forall_mem_cons.2 ⟨⟨_, _, _, ti_19, rfl⟩, (List.forall_mem_cons.2 ⟨⟨_, _, _, ti_20, rfl⟩, (List.forall_mem_cons.2 ⟨⟨_, _, _, ti_21, rfl⟩, (List.forall_mem_cons.2 ⟨⟨_, _, _, ti_22, rfl⟩, (List.forall_mem_cons.2 ⟨⟨_, _, _, ti_23, rfl⟩, (List.forall_mem_cons.2 ⟨⟨_, _, _, ti_24, rfl⟩, (List.forall_mem_cons.2 ⟨⟨_, _, _, ti_25, rfl⟩, (List.forall_mem_cons.2 ⟨⟨_, _, _, ti_26, rfl⟩, (List.forall_mem_cons.2 ⟨⟨_, _, _, ti_28, rfl⟩, (List.forall_mem_cons.2 ⟨⟨_, _, _, ti_30, rfl⟩, (List.forall_mem_cons.2 ⟨⟨_, _, _, ti_31, rfl⟩, (List.forall_mem_cons.2 ⟨⟨_, _, _, ti_32, rfl⟩, (List.forall_mem_cons.2 ⟨⟨_, _, _, ti_33, rfl⟩, (List.forall_mem_cons.2 ⟨⟨_, _, _, ti_34, rfl⟩, (List.forall_mem_cons.2 ⟨⟨_, _, _, ti_35, rfl⟩, (List.forall_mem_cons.2 ⟨⟨_, _, _, ti_36, rfl⟩, (List.forall_mem_cons.2 ⟨⟨_, _, _, ti_37, rfl⟩, (List.forall_mem_cons.2 ⟨⟨_, _, _, ti_38, rfl⟩, (List.forall_mem_cons.2 ⟨⟨_, _, _, ti_39, rfl⟩, (List.forall_mem_cons.2 ⟨⟨_, _, _, ti_40, rfl⟩, (List.forall_mem_cons.2 ⟨⟨_, _, _, ti_41, rfl⟩, (List.forall_mem_cons.2 ⟨⟨_, _, _, ti_42, rfl⟩, (List.forall_mem_cons.2 ⟨⟨_, _, _, ti_43, rfl⟩, (List.forall_mem_cons.2 ⟨⟨_, _, _, ti_44, rfl⟩, (List.forall_mem_cons.2 ⟨⟨_, _, _, ti_45, rfl⟩, (List.forall_mem_cons.2 ⟨⟨_, _, _, ti_47, rfl⟩, (List.forall_mem_cons.2 ⟨⟨_, _, _, ti_48, rfl⟩, (List.forall_mem_cons.2 ⟨⟨_, _, _, ti_49, rfl⟩, (List.forall_mem_cons.2 ⟨⟨_, _, _, ti_51, rfl⟩, (List.forall_mem_cons.2 ⟨⟨_, _, _, ti_52, rfl⟩, (List.forall_mem_cons.2 ⟨⟨_, _, _, ti_53, rfl⟩, (List.forall_mem_cons.2 ⟨⟨_, _, _, ti_54, rfl⟩, (List.forall_mem_cons.2 ⟨⟨_, _, _, ti_55, rfl⟩, (List.forall_mem_cons.2 ⟨⟨_, _, _, ti_56, rfl⟩, (List.forall_mem_cons.2 ⟨⟨_, _, _, ti_57, rfl⟩, (List.forall_mem_cons.2 ⟨⟨_, _, _, ti_58, rfl⟩, (List.forall_mem_cons.2 ⟨⟨_, _, _, ti_59, rfl⟩, (List.forall_mem_cons.2 ⟨⟨_, _, _, ti_60, rfl⟩, (List.forall_mem_cons.2 ⟨⟨_, _, _, ti_61, rfl⟩, (List.forall_mem_cons.2 ⟨⟨_, _, _, ti_62, rfl⟩, (List.forall_mem_cons.2 ⟨⟨_, _, _, ti_63, rfl⟩, (List.forall_mem_cons.2 ⟨⟨_, _, _, ti_64, rfl⟩, (List.forall_mem_cons.2 ⟨⟨_, _, _, ti_65, rfl⟩, (List.forall_mem_cons.2 ⟨⟨_, _, _, ti_66, rfl⟩, (List.forall_mem_cons.2 ⟨⟨_, _, _, ti_67, rfl⟩, (List.forall_mem_cons.2 ⟨⟨_, _, _, ti_68, rfl⟩, (List.forall_mem_cons.2 ⟨⟨_, _, _, ti_70, rfl⟩, (List.forall_mem_cons.2 ⟨⟨_, _, _, ti_71, rfl⟩, (List.forall_mem_cons.2 ⟨⟨_, _, _, ti_72, rfl⟩, (List.forall_mem_cons.2 ⟨⟨_, _, _, ti_73, rfl⟩, (List.forall_mem_cons.2 ⟨⟨_, _, _, ti_74, rfl⟩, (List.forall_mem_cons.2 ⟨⟨_, _, _, ti_75, rfl⟩, (List.forall_mem_cons.2 ⟨⟨_, _, _, ti_76, rfl⟩, (List.forall_mem_cons.2 ⟨⟨_, _, _, ti_77, rfl⟩, (List.forall_mem_cons.2 ⟨⟨_, _, _, ti_78, rfl⟩, (List.forall_mem_cons.2 ⟨⟨_, _, _, ti_80, rfl⟩, (List.forall_mem_cons.2 ⟨⟨_, _, _, ti_81, rfl⟩, (List.forall_mem_cons.2 ⟨⟨_, _, _, ti_83, rfl⟩, (List.forall_mem_cons.2 ⟨⟨_, _, _, ti_84, rfl⟩, (List.forall_mem_cons.2 ⟨⟨_, _, _, ti_85, rfl⟩, (List.forall_mem_cons.2 ⟨⟨_, _, _, ti_86, rfl⟩, (List.forall_mem_cons.2 ⟨⟨_, _, _, ti_87, rfl⟩, (List.forall_mem_cons.2 ⟨⟨_, _, _, ti_88, rfl⟩, (List.forall_mem_cons.2 ⟨⟨_, _, _, ti_89, rfl⟩, (List.forall_mem_cons.2 ⟨⟨_, _, _, ti_90, rfl⟩, (List.forall_mem_cons.2 ⟨⟨_, _, _, ti_91, rfl⟩, (List.forall_mem_cons.2 ⟨⟨_, _, _, ti_92, rfl⟩, (List.forall_mem_cons.2 ⟨⟨_, _, _, ti_93, rfl⟩, (List.forall_mem_cons.2 ⟨⟨_, _, _, ti_94, rfl⟩, (List.forall_mem_cons.2 ⟨⟨_, _, _, ti_95, rfl⟩, (List.forall_mem_cons.2 ⟨⟨_, _, _, ti_97, rfl⟩, (List.forall_mem_cons.2 ⟨⟨_, _, _, ti_99, rfl⟩, (List.forall_mem_cons.2 ⟨⟨_, _, _, ti_100, rfl⟩, (List.forall_mem_cons.2 ⟨⟨_, _, _, ti_101, rfl⟩, (List.forall_mem_cons.2 ⟨⟨_, _, _, ti_102, rfl⟩, (List.forall_mem_cons.2 ⟨⟨_, _, _, ti_103, rfl⟩, (List.forall_mem_cons.2 ⟨⟨_, _, _, ti_105, rfl⟩, (List.forall_mem_cons.2 ⟨⟨_, _, _, ti_106, rfl⟩, (List.forall_mem_cons.2 ⟨⟨_, _, _, ti_107, rfl⟩, (List.forall_mem_cons.2 ⟨⟨_, _, _, ti_108, rfl⟩, (List.forall_mem_cons.2 ⟨⟨_, _, _, ti_109, rfl⟩, (List.forall_mem_cons.2 ⟨⟨_, _, _, ti_111, rfl⟩, (List.forall_mem_cons.2 ⟨⟨_, _, _, ti_112, rfl⟩, (List.forall_mem_cons.2 ⟨⟨_, _, _, ti_113, rfl⟩, (List.forall_mem_cons.2 ⟨⟨_, _, _, ti_114, rfl⟩, (List.forall_mem_cons.2 ⟨⟨_, _, _, ti_115, rfl⟩, (List.forall_mem_cons.2 ⟨⟨_, _, _, ti_116, rfl⟩, (List.forall_mem_cons.2 ⟨⟨_, _, _, ti_117, rfl⟩, (List.forall_mem_cons.2 ⟨⟨_, _, _, ti_118, rfl⟩, (List.forall_mem_cons.2 ⟨⟨_, _, _, ti_119, rfl⟩, (List.forall_mem_cons.2 ⟨⟨_, _, _, ti_121, rfl⟩, (List.forall_mem_cons.2 ⟨⟨_, _, _, ti_122, rfl⟩, (List.forall_mem_cons.2 ⟨⟨_, _, _, ti_123, rfl⟩, (List.forall_mem_cons.2 ⟨⟨_, _, _, ti_124, rfl⟩, (List.forall_mem_cons.2 ⟨⟨_, _, _, ti_125, rfl⟩, (List.forall_mem_cons.2 ⟨⟨_, _, _, ti_126, rfl⟩, (List.forall_mem_cons.2 ⟨⟨_, _, _, ti_127, rfl⟩, (List.forall_mem_cons.2 ⟨⟨_, _, _, ti_128, rfl⟩, (List.forall_mem_cons.2 ⟨⟨_, _, _, ti_129, rfl⟩, (List.forall_mem_cons.2 ⟨⟨_, _, _, ti_130, rfl⟩, (List.forall_mem_cons.2 ⟨⟨_, _, _, ti_131, rfl⟩, (List.forall_mem_cons.2 ⟨⟨_, _, _, ti_132, rfl⟩, (List.forall_mem_cons.2 ⟨⟨_, _, _, ti_133, rfl⟩, (List.forall_mem_cons.2 ⟨⟨_, _, _, ti_134, rfl⟩, (List.forall_mem_cons.2 ⟨⟨_, _, _, ti_136, rfl⟩, (List.forall_mem_cons.2 ⟨⟨_, _, _, ti_138, rfl⟩, (List.forall_mem_cons.2 ⟨⟨_, _, _, ti_139, rfl⟩, (List.forall_mem_cons.2 ⟨⟨_, _, _, ti_140, rfl⟩, (List.forall_mem_cons.2 ⟨⟨_, _, _, ti_141, rfl⟩, (List.forall_mem_cons.2 ⟨⟨_, _, _, ti_142, rfl⟩, (List.forall_mem_cons.2 ⟨⟨_, _, _, ti_143, rfl⟩, (List.forall_mem_cons.2 ⟨⟨_, _, _, ti_144, rfl⟩, (List.forall_mem_cons.2 ⟨⟨_, _, _, ti_145, rfl⟩, (List.forall_mem_cons.2 ⟨⟨_, _, _, ti_146, rfl⟩, (List.forall_mem_cons.2 ⟨⟨_, _, _, ti_147, rfl⟩, (List.forall_mem_cons.2 ⟨⟨_, _, _, ti_148, rfl⟩, (List.forall_mem_cons.2 ⟨⟨_, _, _, ti_149, rfl⟩, (List.forall_mem_cons.2 ⟨⟨_, _, _, ti_150, rfl⟩, (List.forall_mem_cons.2 ⟨⟨_, _, _, ti_151, rfl⟩, (List.forall_mem_cons.2 ⟨⟨_, _, _, ti_152, rfl⟩, (List.forall_mem_cons.2 ⟨⟨_, _, _, ti_153, rfl⟩, (List.forall_mem_cons.2 ⟨⟨_, _, _, ti_154, rfl⟩, (List.forall_mem_cons.2 ⟨⟨_, _, _, ti_155, rfl⟩, (List.forall_mem_cons.2 ⟨⟨_, _, _, ti_156, rfl⟩, (List.forall_mem_cons.2 ⟨⟨_, _, _, ti_157, rfl⟩, (List.forall_mem_cons.2 ⟨⟨_, _, _, ti_158, rfl⟩, (List.forall_mem_cons.2 ⟨⟨_, _, _, ti_159, rfl⟩, (List.forall_mem_cons.2 ⟨⟨_, _, _, ti_160, rfl⟩, (List.forall_mem_cons.2 ⟨⟨_, _, _, ti_161, rfl⟩, (List.forall_mem_cons.2 ⟨⟨_, _, _, ti_162, rfl⟩, (List.forall_mem_cons.2 ⟨⟨_, _, _, ti_163, rfl⟩, (fun _ h => nomatch h)⟩)⟩)⟩)⟩)⟩)⟩)⟩)⟩)⟩)⟩)⟩)⟩)⟩)⟩)⟩)⟩)⟩)⟩)⟩)⟩)⟩)⟩)⟩)⟩)⟩)⟩)⟩)⟩)⟩)⟩)⟩)⟩)⟩)⟩)⟩)⟩)⟩)⟩)⟩)⟩)⟩)⟩)⟩)⟩)⟩)⟩)⟩)⟩)⟩)⟩)⟩)⟩)⟩)⟩)⟩)⟩)⟩)⟩)⟩)⟩)⟩)⟩)⟩)⟩)⟩)⟩)⟩)⟩)⟩)⟩)⟩)⟩)⟩)⟩)⟩)⟩)⟩)⟩)⟩)⟩)⟩)⟩)⟩)⟩)⟩)⟩)⟩)⟩)⟩)⟩)⟩)⟩)⟩)⟩)⟩)⟩)⟩)⟩)⟩)⟩)⟩)⟩)⟩)⟩)⟩)⟩)⟩)⟩)⟩)⟩)⟩)⟩)⟩)⟩)⟩)⟩)⟩)⟩)⟩)⟩)⟩)⟩)⟩)⟩)⟩)⟩)⟩)⟩)⟩)⟩)⟩)⟩)⟩)⟩)⟩)⟩)⟩)⟩)⟩)⟩)⟩)⟩)⟩)⟩)⟩)⟩)⟩)⟩)⟩)
  sl := fun t e n b cs => get_all (l := tab.sl) (p := fun t (x : TypeId × Nat × Nat × List AV) => ∃ z, sle Tryd.prog t = some (x.1, some z, x.2.1, x.2.2.1) ∧ cellsOf (ofV z) = some x.2.2.2 ∧ z.cells.size = x.2.1 ∧ 0 < x.2.1 ∧ x.2.2.2.length = x.2.1) (List.forall_mem_cons.2 ⟨⟨_, sle_22, rfl, rfl, Nat.succ_pos _, rfl⟩, (List.forall_mem_cons.2 ⟨⟨_, sle_25, rfl, rfl, Nat.succ_pos _, rfl⟩, (List.forall_mem_cons.2 ⟨⟨_, sle_38, rfl, rfl, Nat.succ_pos _, rfl⟩, (List.forall_mem_cons.2 ⟨⟨_, sle_40, rfl, rfl, Nat.succ_pos _, rfl⟩, (List.forall_mem_cons.2 ⟨⟨_, sle_94, rfl, rfl, Nat.succ_pos _, rfl⟩, (List.forall_mem_cons.2 ⟨⟨_, sle_118, rfl, rfl, Nat.succ_pos _, rfl⟩, (List.forall_mem_cons.2 ⟨⟨_, sle_139, rfl, rfl, Nat.succ_pos _, rfl⟩, (fun _ h => nomatch h)⟩)⟩)⟩)⟩)⟩)⟩)⟩) t (e, n, b, cs)
  ar := get_all (p := fun t x => arr Tryd.prog t = some x) (List.forall_mem_cons.2 ⟨arr_33, (List.forall_mem_cons.2 ⟨arr_36, (List.forall_mem_cons.2 ⟨arr_39, (List.forall_mem_cons.2 ⟨arr_108, (List.forall_mem_cons.2 ⟨arr_120, (List.forall_mem_cons.2 ⟨arr_123, (List.forall_mem_cons.2 ⟨arr_145, (List.forall_mem_cons.2 ⟨arr_151, (fun _ h => nomatch h)⟩)⟩)⟩)⟩)⟩)⟩)⟩)⟩)
  ly := get_all (p := fun t x => lay Tryd.prog t = some x) (List.forall_mem_cons.2 ⟨lay_7, (List.forall_mem_cons.2 ⟨lay_8, (List.forall_mem_cons.2 ⟨lay_13, (List.forall_mem_cons.2 ⟨lay_14, (List.forall_mem_cons.2 ⟨lay_18, (List.forall_mem_cons.2 ⟨lay_19, (List.forall_mem_cons.2 ⟨lay_33, (List.forall_mem_cons.2 ⟨lay_34, (List.forall_mem_cons.2 ⟨lay_35, (List.forall_mem_cons.2 ⟨lay_36, (List.forall_mem_cons.2 ⟨lay_39, (List.forall_mem_cons.2 ⟨lay_41, (List.forall_mem_cons.2 ⟨lay_42, (List.forall_mem_cons.2 ⟨lay_75, (List.forall_mem_cons.2 ⟨lay_76, (List.forall_mem_cons.2 ⟨lay_100, (List.forall_mem_cons.2 ⟨lay_101, (List.forall_mem_cons.2 ⟨lay_108, (List.forall_mem_cons.2 ⟨lay_121, (List.forall_mem_cons.2 ⟨lay_122, (List.forall_mem_cons.2 ⟨lay_123, (List.forall_mem_cons.2 ⟨lay_125, (List.forall_mem_cons.2 ⟨lay_126, (List.forall_mem_cons.2 ⟨lay_133, (List.forall_mem_cons.2 ⟨lay_134, (List.forall_mem_cons.2 ⟨lay_145, (List.forall_mem_cons.2 ⟨lay_146, (List.forall_mem_cons.2 ⟨lay_147, (List.forall_mem_cons.2 ⟨lay_149, (List.forall_mem_cons.2 ⟨lay_150, (List.forall_mem_cons.2 ⟨lay_151, (List.forall_mem_cons.2 ⟨lay_152, (List.forall_mem_cons.2 ⟨lay_153, (List.forall_mem_cons.2 ⟨lay_161, (List.forall_mem_cons.2 ⟨lay_162, (fun _ h => nomatch h)⟩)⟩)⟩)⟩)⟩)⟩)⟩)⟩)⟩)⟩)⟩)⟩)⟩)⟩)⟩)⟩)⟩)⟩)⟩)⟩)⟩)⟩)⟩)⟩)⟩)⟩)⟩)⟩)⟩)⟩)⟩)⟩)⟩)⟩)⟩)
  fd := fun t l h f x hx => by
    have := get_all (l := tab.fd) (p := fun t l => Ev.fdAll Tryd.prog t 0 l) (List.forall_mem_cons.2 ⟨⟨fld_7_0, fld_7_1, fld_7_2, fld_7_3, trivial⟩, (List.forall_mem_cons.2 ⟨⟨fld_8_0, fld_8_1, fld_8_2, fld_8_3, trivial⟩, (List.forall_mem_cons.2 ⟨⟨fld_13_0, fld_13_1, trivial⟩, (List.forall_mem_cons.2 ⟨⟨fld_14_0, fld_14_1, trivial⟩, (List.forall_mem_cons.2 ⟨⟨fld_18_0, trivial⟩, (List.forall_mem_cons.2 ⟨⟨fld_19_0, trivial⟩, (List.forall_mem_cons.2 ⟨⟨fld_34_0, fld_34_1, fld_34_2, trivial⟩, (List.forall_mem_cons.2 ⟨⟨fld_35_0, fld_35_1, fld_35_2, trivial⟩, (List.forall_mem_cons.2 ⟨⟨fld_41_0, fld_41_1, fld_41_2, trivial⟩, (List.forall_mem_cons.2 ⟨⟨fld_42_0, fld_42_1, fld_42_2, trivial⟩, (List.forall_mem_cons.2 ⟨⟨fld_75_0, fld_75_1, trivial⟩, (List.forall_mem_cons.2 ⟨⟨fld_76_0, fld_76_1, trivial⟩, (List.forall_mem_cons.2 ⟨⟨fld_100_0, trivial⟩, (List.forall_mem_cons.2 ⟨⟨fld_101_0, trivial⟩, (List.forall_mem_cons.2 ⟨⟨fld_121_0, fld_121_1, trivial⟩, (List.forall_mem_cons.2 ⟨⟨fld_122_0, fld_122_1, trivial⟩, (List.forall_mem_cons.2 ⟨⟨fld_125_0, fld_125_1, trivial⟩, (List.forall_mem_cons.2 ⟨⟨fld_126_0, fld_126_1, trivial⟩, (List.forall_mem_cons.2 ⟨⟨fld_133_0, fld_133_1, trivial⟩, (List.forall_mem_cons.2 ⟨⟨fld_134_0, fld_134_1, trivial⟩, (List.forall_mem_cons.2 ⟨⟨fld_146_0, fld_146_1, trivial⟩, (List.forall_mem_cons.2 ⟨⟨fld_147_0, fld_147_1, trivial⟩, (List.forall_mem_cons.2 ⟨⟨fld_149_0, fld_149_1, fld_149_2, fld_149_3, trivial⟩, (List.forall_mem_cons.2 ⟨⟨fld_150_0, fld_150_1, fld_150_2, fld_150_3, trivial⟩, (List.forall_mem_cons.2 ⟨⟨fld_152_0, trivial⟩, (List.forall_mem_cons.2 ⟨⟨fld_153_0, trivial⟩, (List.forall_mem_cons.2 ⟨⟨fld_161_0, fld_161_1, fld_161_2, fld_161_3, fld_161_4, fld_161_5, fld_161_6, fld_161_7, fld_161_8, fld_161_9, fld_161_10, trivial⟩, (List.forall_mem_cons.2 ⟨⟨fld_162_0, fld_162_1, fld_162_2, fld_162_3, fld_162_4, fld_162_5, fld_162_6, fld_162_7, fld_162_8, fld_162_9, fld_162_10, trivial⟩, (fun _ h => nomatch h)⟩)⟩)⟩)⟩)⟩)⟩)⟩)⟩)⟩)⟩)⟩)⟩)⟩)⟩)⟩)⟩)⟩)⟩)⟩)⟩)⟩)⟩)⟩)⟩)⟩)⟩)⟩)⟩) t l h
    have := Ev.fdAll_get this f x hx
    rwa [Nat.zero_add] at this
  eq := fun t h => by
    have h' := List.contains_iff_mem.1 h
    simp only [tab, List.mem_cons, List.not_mem_nil, or_false] at h'
    rcases h' with rfl | rfl
    · exact spanEq_of Tryd.underlying34 (by decide) (by decide) ⟨rfl, rfl, rfl⟩ Tryd.underlying3 Tryd.underlying9 (by kernel_rfl) (by kernel_rfl) (by kernel_rfl) (by kernel_rfl)
    · exact spanEq_of Tryd.underlying35 (by decide) (by decide) ⟨rfl, rfl, rfl⟩ Tryd.underlying3 Tryd.underlying9 (by kernel_rfl) (by kernel_rfl) (by kernel_rfl) (by kernel_rfl)
theorem mixed' (keep : List Nat) (N : Nat) : (Env.P ⟨env.P, env.G, keep, N⟩).follows .mixedOrders = true := by rfl
theorem tabOK' (keep : List Nat) (N : Nat) : TabOK (Env.P ⟨env.P, env.G, keep, N⟩) tab := tabOK
end Go.Proofs.YthdjbgbfboppcaaDoor.Abs

/- The reference's texts: sizes, and the first code point. -/
namespace Go.Proofs.YthdjbgbfboppcaaDoor.Abs
open Go
set_option maxRecDepth 100000
set_option linter.unusedSimpArgs false
set_option linter.unusedVariables false
attribute [local irreducible] Ev.Unr Ev.Go' Ev.bytK Ev.runK Ev.FinL Ev.brC Ev.Side Ev.Wp Ev.Again Ev.To Ev.Fin
def sizeF (n : Int) : Int := if n < 0 ∨ 1114111 < n ∨ (55296 ≤ n ∧ n ≤ 57343) then 0 else if n < 128 then 1 else if n < 2048 then 2 else if n < 65536 then 3 else 4
def cc117 : CC := (.seq (.reg 0 [⟨0, some 2, (.assign (.const (Value.int .i64 0))), none⟩]) (.seq (.seq (.reg 1 [⟨0, some 3, (.move (.tmp 0)), none⟩, ⟨1, some 4, (.binOp .lss 3 (.tmp 3) (.const (Value.int .i64 0)) 3), none⟩, ⟨2, some 5, (.move (.tmp 4)), none⟩, ⟨3, some 6, (.move (.tmp 0)), (some (5, false))⟩, ⟨4, some 7, (.binOp .gtr 3 (.tmp 6) (.const (Value.int .i64 1114111)) 3), (some (5, false))⟩, ⟨5, some 8, (.pick (.tmp 5) (.const (Value.bool true)) (.tmp 7)), none⟩, ⟨6, some 9, (.move (.tmp 8)), none⟩, ⟨7, some 10, (.move (.tmp 0)), (some (9, false))⟩, ⟨8, some 11, (.binOp .geq 3 (.tmp 10) (.const (Value.int .i64 55296)) 3), (some (9, false))⟩, ⟨9, some 12, (.move (.tmp 11)), (some (9, false))⟩, ⟨10, some 13, (.move (.tmp 0)), (some (12, true))⟩, ⟨11, some 14, (.binOp .leq 3 (.tmp 13) (.const (Value.int .i64 57343)) 3), (some (12, true))⟩, ⟨12, some 15, (.pick (.tmp 12) (.tmp 14) (.const (Value.bool false))), (some (9, false))⟩, ⟨13, some 16, (.pick (.tmp 9) (.const (Value.bool true)) (.tmp 15)), none⟩]) (.cond (.tmp 16) (.seq (.reg 2 [⟨0, some 2, (.assign (.const (Value.int .i64 0))), none⟩]) .ret) .skip)) (.seq (.seq (.reg 3 [⟨0, some 17, (.move (.tmp 0)), none⟩, ⟨1, some 18, (.binOp .lss 3 (.tmp 17) (.const (Value.int .i64 128)) 3), none⟩]) (.cond (.tmp 18) (.seq (.reg 4 [⟨0, some 2, (.assign (.const (Value.int .i64 1))), none⟩]) .ret) .skip)) (.seq (.seq (.reg 5 [⟨0, some 19, (.move (.tmp 0)), none⟩, ⟨1, some 20, (.binOp .lss 3 (.tmp 19) (.const (Value.int .i64 2048)) 3), none⟩]) (.cond (.tmp 20) (.seq (.reg 6 [⟨0, some 2, (.assign (.const (Value.int .i64 2))), none⟩]) .ret) .skip)) (.seq (.seq (.reg 7 [⟨0, some 21, (.move (.tmp 0)), none⟩, ⟨1, some 22, (.binOp .lss 3 (.tmp 21) (.const (Value.int .i64 65536)) 3), none⟩]) (.cond (.tmp 22) (.seq (.reg 8 [⟨0, some 2, (.assign (.const (Value.int .i64 3))), none⟩]) .ret) .skip)) (.seq (.reg 9 [⟨0, some 2, (.assign (.const (Value.int .i64 4))), none⟩]) .ret))))))
theorem comp117 : ∀ c, Tryd.f117.body = some c → comp c = cc117 := by
  intro c h
  have : c = Tryd.f117.body.get rfl := by rw [← Option.some_inj, ← h]; rfl
  rw [this]; rfl
theorem size_call (n : Int) : CallW env 117 [.v (.int .i64 n)] (fun r hs => r = .v (.int .i64 (sizeF n)) ∧ hs = []) := by
  refine Ev.func tabOK [0, 2, 16, 18, 20, 22] 0 Tryd.func117 rfl rfl (by simp [Tryd.ntmps117]) (by rfl) (comp117 _ rfl) (rs := [.tmp 2]) rfl ?_; rw [cc117]; show Ev.Wp _ _ _ _ ⟨[(0, _)], [], 0⟩
  repeat' (first | ((with_reducible refine Ev.sided ?_ ?_); (conv => whnf)) | ((with_reducible refine Ev.w_put ?_); (conv => whnf)) | ((with_reducible refine Ev.w_step ?_); (conv => whnf)) | ((with_reducible refine Ev.w_opt ?_); (conv => whnf)) | ((with_reducible refine Ev.chk_k ?_ ?_); rotate_left; (focus first | rfl | (simp only [Ev.nbeq, Bool.and_true, Bool.true_and, Bool.not_false]; done) | ((repeat' (first | exact Ev.nbeq _ | rfl | refine Bool.and_eq_true_iff.2 ⟨?_, ?_⟩)); done)); conv => whnf) | with_reducible refine Ev.c_dec (fun _ => ?_) (fun _ => ?_) | with_reducible refine Ev.c_not ?_ | with_reducible refine Ev.c_t ?_ | with_reducible refine Ev.c_f ?_ | with_reducible refine Ev.c_br (fun _ => ?_) (fun _ => ?_) | ((with_reducible refine Ev.br_not ?_); conv => whnf) | with_reducible refine Ev.br_dec (fun _ => ?_) (fun _ => ?_) | with_reducible refine Ev.br (fun _ => ?_) (fun _ => ?_) | with_reducible refine Ev.eo_ret ?_ | with_reducible refine Ev.eo_norm ?_ | with_reducible refine Ev.t_norm ?_ | with_reducible refine Ev.k_seq ?_ | ((with_reducible refine Ev.k_reg (hs := []) (tabOK' _ _) (fun Q hQ => ?_)); (simp only [Ev.runE_cons, Ev.runE_nil]); conv => whnf) | (with_reducible refine hQ _ ?_; clear hQ Q) | with_reducible refine Ev.k_cond rfl ?_ | with_reducible refine Ev.k_skip ?_ | with_reducible refine Ev.k_block ?_ | with_reducible refine Ev.k_exit ?_ | with_reducible refine Ev.k_ret ?_ | with_reducible refine Ev.t_ret ?_ | with_reducible refine Ev.t_exit ?_ | with_reducible refine Ev.b_norm ?_ | with_reducible refine Ev.b_ret ?_ | with_reducible refine Ev.b_here ?_ | with_reducible refine Ev.b_off rfl ?_ | with_reducible refine Ev.k_label ?_ | with_reducible refine Ev.k_goto ?_ | with_reducible refine Ev.t_goto ?_ | with_reducible refine Ev.b_goto ?_ | with_reducible refine Ev.j_goto ?_ | with_reducible refine Ev.j_norm ?_ | with_reducible refine Ev.j_ret ?_ | with_reducible refine Ev.j_exit ?_ | with_reducible refine Ev.n_norm ?_ | with_reducible refine Ev.n_ret ?_ | with_reducible refine Ev.n_exit ?_ | ((with_reducible refine Ev.e_ret (fun F hF => ?_)); conv => whnf) | ((with_reducible refine Ev.e_norm (fun F hF => ?_)); conv => whnf) | ((with_reducible refine Ev.eh_ret (fun F hF => ?_)); conv => whnf) | ((with_reducible refine Ev.eh_norm (fun F hF => ?_)); conv => whnf) | ((with_reducible refine Ev.go_k (fun c' => ?_)); conv => whnf) | ((with_reducible refine Ev.byt_cut ?_); conv => whnf) | ((with_reducible refine Ev.byt_all ?_); conv => whnf) | ((with_reducible refine Ev.run_cut ?_); conv => whnf) | ((with_reducible refine Ev.run_all ?_); conv => whnf) | (with_reducible refine hF _ ?_; clear hF F) | (with_reducible refine Ev.u_step ?_) | (refine Ev.Side.of ?_; exact Nat.le_of_ble_eq_true rfl))
  all_goals (refine ⟨congrArg (fun z => AV.v (Value.int IntKind.i64 z)) ?_, rfl⟩; unfold sizeF; omega)
def leadP (b m n : Int) : Prop := (240 ≤ b ∧ b < 248 ∧ m = 3 ∧ n = b - 240) ∨ (224 ≤ b ∧ b < 240 ∧ m = 2 ∧ n = b - 224) ∨ (192 ≤ b ∧ b < 224 ∧ m = 1 ∧ n = b - 192) ∨ (b < 128 ∧ m = 0 ∧ n = b)
def accF (s : ByteArray) (n0 : Int) : Nat → Option Int
  | 0 => some n0
  | i + 1 => match accF s n0 i with
    | some n => if 128 ≤ Ev.byt s (i + 1) ∧ Ev.byt s (i + 1) ≤ 191 then some (n * 64 + Ev.byt s (i + 1) - 128) else none
    | none => none
def firstP (t : ByteArray) (n k : Int) : Prop :=
  (n = 0 ∧ k = 0 ∧ (t.size = 0 ∨ (128 ≤ Ev.byt t 0 ∧ (Ev.byt t 0 < 192 ∨ 248 ≤ Ev.byt t 0)) ∨ ∃ m n0, leadP (Ev.byt t 0) m n0 ∧ (t.size < m + 1 ∨ (∃ i : Nat, i ≤ m ∧ accF t n0 i = none) ∨ ∃ n', accF t n0 m.toNat = some n' ∧ sizeF n' ≠ m + 1))) ∨
  (0 < t.size ∧ ∃ m n0, leadP (Ev.byt t 0) m n0 ∧ m + 1 ≤ t.size ∧ accF t n0 m.toNat = some n ∧ sizeF n = m + 1 ∧ k = m + 1)
def cc118 : CC := (.seq (.reg 0 [⟨0, some 2, (.assign (.const (Value.int .i64 0))), none⟩, ⟨1, some 3, (.assign (.const (Value.int .i64 0))), none⟩]) (.seq (.seq (.reg 1 [⟨0, some 9, (.move (.tmp 0)), none⟩, ⟨1, some 10, (.call { callee := .builtin .len, args := #[.tmp 9], argTypes := #[9] }), none⟩, ⟨2, some 11, (.binOp .eql 3 (.tmp 10) (.const (Value.int .i64 0)) 3), none⟩]) (.cond (.tmp 11) (.seq (.reg 2 [⟨0, some 2, (.assign (.const (Value.int .i64 0))), none⟩, ⟨1, some 3, (.assign (.const (Value.int .i64 0))), none⟩]) .ret) .skip)) (.seq (.reg 3 [⟨0, some 12, (.move (.tmp 0)), none⟩, ⟨1, some 13, (.index 9 (.tmp 12) (.const (Value.int .i64 0))), none⟩, ⟨2, some 14, (.convert 5 3 (.tmp 13)), none⟩, ⟨3, some 4, (.assign (.tmp 14)), none⟩]) (.seq (.reg 4 [⟨0, some 5, (.assign (.const (Value.int .i64 0))), none⟩]) (.seq (.reg 5 [⟨0, some 15, (.move (.tmp 4)), none⟩, ⟨1, some 6, (.assign (.tmp 15)), none⟩]) (.seq (.seq (.reg 6 [⟨0, some 16, (.move (.tmp 4)), none⟩, ⟨1, some 17, (.binOp .geq 3 (.tmp 16) (.const (Value.int .i64 240)) 3), none⟩, ⟨2, some 18, (.move (.tmp 17)), none⟩, ⟨3, some 19, (.move (.tmp 4)), (some (18, true))⟩, ⟨4, some 20, (.binOp .lss 3 (.tmp 19) (.const (Value.int .i64 248)) 3), (some (18, true))⟩, ⟨5, some 21, (.pick (.tmp 18) (.tmp 20) (.const (Value.bool false))), none⟩]) (.cond (.tmp 21) (.seq (.reg 7 [⟨0, some 5, (.assign (.const (Value.int .i64 3))), none⟩]) (.reg 8 [⟨0, some 22, (.move (.tmp 4)), none⟩, ⟨1, some 23, (.binOp .sub 3 (.tmp 22) (.const (Value.int .i64 240)) 3), none⟩, ⟨2, some 6, (.assign (.tmp 23)), none⟩])) (.seq (.reg 9 [⟨0, some 24, (.move (.tmp 4)), none⟩, ⟨1, some 25, (.binOp .geq 3 (.tmp 24) (.const (Value.int .i64 224)) 3), none⟩, ⟨2, some 26, (.move (.tmp 25)), none⟩, ⟨3, some 27, (.move (.tmp 4)), (some (26, true))⟩, ⟨4, some 28, (.binOp .lss 3 (.tmp 27) (.const (Value.int .i64 240)) 3), (some (26, true))⟩, ⟨5, some 29, (.pick (.tmp 26) (.tmp 28) (.const (Value.bool false))), none⟩]) (.cond (.tmp 29) (.seq (.reg 10 [⟨0, some 5, (.assign (.const (Value.int .i64 2))), none⟩]) (.reg 11 [⟨0, some 30, (.move (.tmp 4)), none⟩, ⟨1, some 31, (.binOp .sub 3 (.tmp 30) (.const (Value.int .i64 224)) 3), none⟩, ⟨2, some 6, (.assign (.tmp 31)), none⟩])) (.seq (.reg 12 [⟨0, some 32, (.move (.tmp 4)), none⟩, ⟨1, some 33, (.binOp .geq 3 (.tmp 32) (.const (Value.int .i64 192)) 3), none⟩, ⟨2, some 34, (.move (.tmp 33)), none⟩, ⟨3, some 35, (.move (.tmp 4)), (some (34, true))⟩, ⟨4, some 36, (.binOp .lss 3 (.tmp 35) (.const (Value.int .i64 224)) 3), (some (34, true))⟩, ⟨5, some 37, (.pick (.tmp 34) (.tmp 36) (.const (Value.bool false))), none⟩]) (.cond (.tmp 37) (.seq (.reg 13 [⟨0, some 5, (.assign (.const (Value.int .i64 1))), none⟩]) (.reg 14 [⟨0, some 38, (.move (.tmp 4)), none⟩, ⟨1, some 39, (.binOp .sub 3 (.tmp 38) (.const (Value.int .i64 192)) 3), none⟩, ⟨2, some 6, (.assign (.tmp 39)), none⟩])) (.seq (.reg 15 [⟨0, some 40, (.move (.tmp 4)), none⟩, ⟨1, some 41, (.binOp .geq 3 (.tmp 40) (.const (Value.int .i64 128)) 3), none⟩]) (.cond (.tmp 41) (.seq (.reg 16 [⟨0, some 2, (.assign (.const (Value.int .i64 0))), none⟩, ⟨1, some 3, (.assign (.const (Value.int .i64 0))), none⟩]) .ret) .skip)))))))) (.seq (.seq (.reg 17 [⟨0, some 42, (.move (.tmp 0)), none⟩, ⟨1, some 43, (.call { callee := .builtin .len, args := #[.tmp 42], argTypes := #[9] }), none⟩, ⟨2, some 44, (.move (.tmp 5)), none⟩, ⟨3, some 45, (.binOp .add 3 (.tmp 44) (.const (Value.int .i64 1)) 3), none⟩, ⟨4, some 46, (.binOp .lss 3 (.tmp 43) (.tmp 45) 3), none⟩]) (.cond (.tmp 46) (.seq (.reg 18 [⟨0, some 2, (.assign (.const (Value.int .i64 0))), none⟩, ⟨1, some 3, (.assign (.const (Value.int .i64 0))), none⟩]) .ret) .skip)) (.seq (.seq (.reg 19 [⟨0, some 7, (.assign (.const (Value.int .i64 1))), none⟩]) (.block 0 (.loop (.seq (.seq (.reg 20 [⟨0, some 47, (.move (.tmp 7)), none⟩, ⟨1, some 48, (.move (.tmp 5)), none⟩, ⟨2, some 49, (.binOp .leq 3 (.tmp 47) (.tmp 48) 3), none⟩]) (.cond (.tmp 49) .skip (.exit 0))) (.seq (.block 1 (.seq (.reg 22 [⟨0, some 52, (.move (.tmp 0)), none⟩, ⟨1, some 53, (.move (.tmp 7)), none⟩, ⟨2, some 54, (.index 9 (.tmp 52) (.tmp 53)), none⟩, ⟨3, some 55, (.convert 5 3 (.tmp 54)), none⟩, ⟨4, some 8, (.assign (.tmp 55)), none⟩]) (.seq (.seq (.reg 23 [⟨0, some 56, (.move (.tmp 8)), none⟩, ⟨1, some 57, (.binOp .lss 3 (.tmp 56) (.const (Value.int .i64 128)) 3), none⟩, ⟨2, some 58, (.move (.tmp 57)), none⟩, ⟨3, some 59, (.move (.tmp 8)), (some (58, false))⟩, ⟨4, some 60, (.binOp .gtr 3 (.tmp 59) (.const (Value.int .i64 191)) 3), (some (58, false))⟩, ⟨5, some 61, (.pick (.tmp 58) (.const (Value.bool true)) (.tmp 60)), none⟩]) (.cond (.tmp 61) (.seq (.reg 24 [⟨0, some 2, (.assign (.const (Value.int .i64 0))), none⟩, ⟨1, some 3, (.assign (.const (Value.int .i64 0))), none⟩]) .ret) .skip)) (.reg 25 [⟨0, some 62, (.move (.tmp 6)), none⟩, ⟨1, some 63, (.binOp .mul 3 (.tmp 62) (.const (Value.int .i64 64)) 3), none⟩, ⟨2, some 64, (.move (.tmp 8)), none⟩, ⟨3, some 65, (.binOp .add 3 (.tmp 63) (.tmp 64) 3), none⟩, ⟨4, some 66, (.binOp .sub 3 (.tmp 65) (.const (Value.int .i64 128)) 3), none⟩, ⟨5, some 6, (.assign (.tmp 66)), none⟩])))) (.reg 21 [⟨0, some 50, (.move (.tmp 7)), none⟩, ⟨1, some 51, (.binOp .add 3 (.tmp 50) (.const (Value.int .i64 1)) 3), none⟩, ⟨2, some 7, (.assign (.tmp 51)), none⟩])))))) (.seq (.seq (.reg 26 [⟨0, some 67, (.move (.tmp 6)), none⟩, ⟨1, some 68, (.call { callee := .value (.func 117), args := #[.tmp 67], argTypes := #[3] }), none⟩, ⟨2, some 69, (.move (.tmp 5)), none⟩, ⟨3, some 70, (.binOp .add 3 (.tmp 69) (.const (Value.int .i64 1)) 3), none⟩, ⟨4, some 71, (.binOp .neq 3 (.tmp 68) (.tmp 70) 3), none⟩]) (.cond (.tmp 71) (.seq (.reg 27 [⟨0, some 2, (.assign (.const (Value.int .i64 0))), none⟩, ⟨1, some 3, (.assign (.const (Value.int .i64 0))), none⟩]) .ret) .skip)) (.seq (.reg 28 [⟨0, some 72, (.move (.tmp 6)), none⟩, ⟨1, some 73, (.move (.tmp 5)), none⟩, ⟨2, some 74, (.binOp .add 3 (.tmp 73) (.const (Value.int .i64 1)) 3), none⟩, ⟨3, some 2, (.assign (.tmp 72)), none⟩, ⟨4, some 3, (.assign (.tmp 74)), none⟩]) .ret))))))))))
theorem comp118 : ∀ c, Tryd.f118.body = some c → comp c = cc118 := by
  intro c h
  have : c = Tryd.f118.body.get rfl := by rw [← Option.some_inj, ← h]; rfl
  rw [this]; rfl
theorem first_call (t : ByteArray) : CallW env 118 [.v (.string t)] (fun r hs => ∃ n k, r = .tup [.v (.int .i64 n), .v (.int .i64 k)] ∧ firstP t n k ∧ hs = []) := by
  have hb := Ev.byt_lt t 0
  refine Ev.func tabOK [0, 2, 3, 4, 5, 6, 7, 8, 11, 21, 29, 37, 41, 46, 49, 61, 71] 0 Tryd.func118 rfl rfl (by simp [Tryd.ntmps118]) (by rfl) (comp118 _ rfl) (rs := [.tmp 2, .tmp 3]) rfl ?_; rw [cc118]; show Ev.Wp _ _ _ _ ⟨[(0, _)], [], 0⟩
  repeat' (first | (with_reducible refine Ev.join (a := .seq (.reg 6 _) _) (fun s => ∃ m n, s = ⟨[(0, .v (.string t)), (2, .v (.int .i64 0)), (3, .v (.int .i64 0)), (5, .v (.int .i64 m)), (6, .v (.int .i64 n))], [], 0⟩ ∧ leadP (Ev.byt t 0) m n) ?_ ?_) | ((with_reducible refine Ev.sided ?_ ?_); (conv => whnf)) | ((with_reducible refine Ev.w_put ?_); (conv => whnf)) | ((with_reducible refine Ev.w_step ?_); (conv => whnf)) | ((with_reducible refine Ev.w_opt ?_); (conv => whnf)) | ((with_reducible refine Ev.chk_k ?_ ?_); rotate_left; (focus first | rfl | (simp only [Ev.nbeq, Bool.and_true, Bool.true_and, Bool.not_false]; done) | ((repeat' (first | exact Ev.nbeq _ | rfl | refine Bool.and_eq_true_iff.2 ⟨?_, ?_⟩)); done)); conv => whnf) | with_reducible refine Ev.c_dec (fun _ => ?_) (fun _ => ?_) | with_reducible refine Ev.c_not ?_ | with_reducible refine Ev.c_t ?_ | with_reducible refine Ev.c_f ?_ | with_reducible refine Ev.c_br (fun _ => ?_) (fun _ => ?_) | ((with_reducible refine Ev.br_not ?_); conv => whnf) | with_reducible refine Ev.br_dec (fun _ => ?_) (fun _ => ?_) | with_reducible refine Ev.br (fun _ => ?_) (fun _ => ?_) | with_reducible refine Ev.eo_ret ?_ | with_reducible refine Ev.eo_norm ?_ | with_reducible refine Ev.t_norm ?_ | with_reducible refine Ev.k_seq ?_ | ((with_reducible refine Ev.k_reg (hs := []) (tabOK' _ _) (fun Q hQ => ?_)); (simp only [Ev.runE_cons, Ev.runE_nil]); conv => whnf) | (with_reducible refine hQ _ ?_; clear hQ Q) | with_reducible refine Ev.k_cond rfl ?_ | with_reducible refine Ev.k_skip ?_ | with_reducible refine Ev.k_block ?_ | with_reducible refine Ev.k_exit ?_ | with_reducible refine Ev.k_ret ?_ | with_reducible refine Ev.t_ret ?_ | with_reducible refine Ev.t_exit ?_ | with_reducible refine Ev.b_norm ?_ | with_reducible refine Ev.b_ret ?_ | with_reducible refine Ev.b_here ?_ | with_reducible refine Ev.b_off rfl ?_ | with_reducible refine Ev.k_label ?_ | with_reducible refine Ev.k_goto ?_ | with_reducible refine Ev.t_goto ?_ | with_reducible refine Ev.b_goto ?_ | with_reducible refine Ev.j_goto ?_ | with_reducible refine Ev.j_norm ?_ | with_reducible refine Ev.j_ret ?_ | with_reducible refine Ev.j_exit ?_ | with_reducible refine Ev.n_norm ?_ | with_reducible refine Ev.n_ret ?_ | with_reducible refine Ev.n_exit ?_ | ((with_reducible refine Ev.e_ret (fun F hF => ?_)); conv => whnf) | ((with_reducible refine Ev.e_norm (fun F hF => ?_)); conv => whnf) | ((with_reducible refine Ev.eh_ret (fun F hF => ?_)); conv => whnf) | ((with_reducible refine Ev.eh_norm (fun F hF => ?_)); conv => whnf) | ((with_reducible refine Ev.go_k (fun c' => ?_)); conv => whnf) | ((with_reducible refine Ev.byt_cut ?_); conv => whnf) | ((with_reducible refine Ev.byt_all ?_); conv => whnf) | ((with_reducible refine Ev.run_cut ?_); conv => whnf) | ((with_reducible refine Ev.run_all ?_); conv => whnf) | (with_reducible refine hF _ ?_; clear hF F) | (with_reducible refine Ev.u_step ?_) | (refine Ev.Side.of ?_; exact Nat.le_of_ble_eq_true rfl))
  all_goals first
    | (refine Ev.to ⟨[(0, _), (2, _), (3, _), (5, _), (6, _)], [], 0⟩ ⟨rfl, rfl, rfl, rfl, rfl, trivial⟩ trivial (Nat.le_refl _) ⟨_, _, rfl, ?_⟩; (try simp only [Ev.wrap64, Int.reduceToNat] at *); unfold leadP; omega)
    | (refine ⟨_, _, rfl, Or.inl ⟨rfl, rfl, ?_⟩, rfl⟩; (try simp only [Ev.wrap64, Int.reduceToNat] at *); first | exact Or.inl (by omega) | exact Or.inr (Or.inl (by omega)))
    | skip
  rintro s ⟨m, n0, rfl, hl⟩
  have hm : 0 ≤ m ∧ m ≤ 3 ∧ 0 ≤ n0 ∧ n0 < 256 := by unfold leadP at hl; omega
  repeat' (first | ((with_reducible refine Ev.sided ?_ ?_); (conv => whnf)) | ((with_reducible refine Ev.w_put ?_); (conv => whnf)) | ((with_reducible refine Ev.w_step ?_); (conv => whnf)) | ((with_reducible refine Ev.w_opt ?_); (conv => whnf)) | ((with_reducible refine Ev.chk_k ?_ ?_); rotate_left; (focus first | rfl | (simp only [Ev.nbeq, Bool.and_true, Bool.true_and, Bool.not_false]; done) | ((repeat' (first | exact Ev.nbeq _ | rfl | refine Bool.and_eq_true_iff.2 ⟨?_, ?_⟩)); done)); conv => whnf) | with_reducible refine Ev.c_dec (fun _ => ?_) (fun _ => ?_) | with_reducible refine Ev.c_not ?_ | with_reducible refine Ev.c_t ?_ | with_reducible refine Ev.c_f ?_ | with_reducible refine Ev.c_br (fun _ => ?_) (fun _ => ?_) | ((with_reducible refine Ev.br_not ?_); conv => whnf) | with_reducible refine Ev.br_dec (fun _ => ?_) (fun _ => ?_) | with_reducible refine Ev.br (fun _ => ?_) (fun _ => ?_) | with_reducible refine Ev.eo_ret ?_ | with_reducible refine Ev.eo_norm ?_ | with_reducible refine Ev.t_norm ?_ | with_reducible refine Ev.k_seq ?_ | ((with_reducible refine Ev.k_reg (hs := []) (tabOK' _ _) (fun Q hQ => ?_)); (simp only [Ev.runE_cons, Ev.runE_nil]); conv => whnf) | (with_reducible refine hQ _ ?_; clear hQ Q) | with_reducible refine Ev.k_cond rfl ?_ | with_reducible refine Ev.k_skip ?_ | with_reducible refine Ev.k_block ?_ | with_reducible refine Ev.k_exit ?_ | with_reducible refine Ev.k_ret ?_ | with_reducible refine Ev.t_ret ?_ | with_reducible refine Ev.t_exit ?_ | with_reducible refine Ev.b_norm ?_ | with_reducible refine Ev.b_ret ?_ | with_reducible refine Ev.b_here ?_ | with_reducible refine Ev.b_off rfl ?_ | with_reducible refine Ev.k_label ?_ | with_reducible refine Ev.k_goto ?_ | with_reducible refine Ev.t_goto ?_ | with_reducible refine Ev.b_goto ?_ | with_reducible refine Ev.j_goto ?_ | with_reducible refine Ev.j_norm ?_ | with_reducible refine Ev.j_ret ?_ | with_reducible refine Ev.j_exit ?_ | with_reducible refine Ev.n_norm ?_ | with_reducible refine Ev.n_ret ?_ | with_reducible refine Ev.n_exit ?_ | ((with_reducible refine Ev.e_ret (fun F hF => ?_)); conv => whnf) | ((with_reducible refine Ev.e_norm (fun F hF => ?_)); conv => whnf) | ((with_reducible refine Ev.eh_ret (fun F hF => ?_)); conv => whnf) | ((with_reducible refine Ev.eh_norm (fun F hF => ?_)); conv => whnf) | ((with_reducible refine Ev.go_k (fun c' => ?_)); conv => whnf) | ((with_reducible refine Ev.byt_cut ?_); conv => whnf) | ((with_reducible refine Ev.byt_all ?_); conv => whnf) | ((with_reducible refine Ev.run_cut ?_); conv => whnf) | ((with_reducible refine Ev.run_all ?_); conv => whnf) | (with_reducible refine hF _ ?_; clear hF F) | (with_reducible refine Ev.u_step ?_) | (refine Ev.Side.of ?_; exact Nat.le_of_ble_eq_true rfl))
  · refine ⟨_, _, rfl, Or.inl ⟨rfl, rfl, Or.inr (Or.inr ⟨m, n0, hl, Or.inl ?_⟩)⟩, rfl⟩
    simp only [Ev.wrap64] at *; omega
  rename_i hsz
  simp only [Ev.wrap64] at hsz
  refine Ev.loop (fun k s => ∃ (i : Nat) (n : Int), s = ⟨[(0, .v (.string t)), (2, .v (.int .i64 0)), (3, .v (.int .i64 0)), (5, .v (.int .i64 m)), (6, .v (.int .i64 n)), (7, .v (.int .i64 i))], [], 0⟩ ∧ (k : Int) + i = m + 1 ∧ 1 ≤ i ∧ accF t n0 (i - 1) = some n ∧ 0 ≤ n ∧ (i = 1 → n < 256) ∧ (i = 2 → n < 20000) ∧ (i = 3 → n < 2000000) ∧ (i = 4 → n < 200000000)) ?_ ?_
  · refine Ev.to ⟨[(0, _), (2, _), (3, _), (5, _), (6, _), (7, _)], [], 0⟩ ⟨rfl, rfl, rfl, rfl, rfl, rfl, trivial⟩ trivial (Nat.le_refl _) ⟨m.toNat, 1, n0, rfl, ?_⟩
    exact ⟨by omega, by omega, rfl, by omega, by omega, by omega, by omega, by omega⟩
  rintro k s1 ⟨i, n, rfl, hk, hi, ha, hn, h1, h2, h3, h4⟩
  repeat' (first | ((with_reducible refine Ev.sided ?_ ?_); (conv => whnf)) | ((with_reducible refine Ev.w_put ?_); (conv => whnf)) | ((with_reducible refine Ev.w_step ?_); (conv => whnf)) | ((with_reducible refine Ev.w_opt ?_); (conv => whnf)) | ((with_reducible refine Ev.chk_k ?_ ?_); rotate_left; (focus first | rfl | (simp only [Ev.nbeq, Bool.and_true, Bool.true_and, Bool.not_false]; done) | ((repeat' (first | exact Ev.nbeq _ | rfl | refine Bool.and_eq_true_iff.2 ⟨?_, ?_⟩)); done)); conv => whnf) | with_reducible refine Ev.c_dec (fun _ => ?_) (fun _ => ?_) | with_reducible refine Ev.c_not ?_ | with_reducible refine Ev.c_t ?_ | with_reducible refine Ev.c_f ?_ | with_reducible refine Ev.c_br (fun _ => ?_) (fun _ => ?_) | ((with_reducible refine Ev.br_not ?_); conv => whnf) | with_reducible refine Ev.br_dec (fun _ => ?_) (fun _ => ?_) | with_reducible refine Ev.br (fun _ => ?_) (fun _ => ?_) | with_reducible refine Ev.eo_ret ?_ | with_reducible refine Ev.eo_norm ?_ | with_reducible refine Ev.t_norm ?_ | with_reducible refine Ev.k_seq ?_ | ((with_reducible refine Ev.k_reg (hs := []) (tabOK' _ _) (fun Q hQ => ?_)); (simp only [Ev.runE_cons, Ev.runE_nil]); conv => whnf) | (with_reducible refine hQ _ ?_; clear hQ Q) | with_reducible refine Ev.k_cond rfl ?_ | with_reducible refine Ev.k_skip ?_ | with_reducible refine Ev.k_block ?_ | with_reducible refine Ev.k_exit ?_ | with_reducible refine Ev.k_ret ?_ | with_reducible refine Ev.t_ret ?_ | with_reducible refine Ev.t_exit ?_ | with_reducible refine Ev.b_norm ?_ | with_reducible refine Ev.b_ret ?_ | with_reducible refine Ev.b_here ?_ | with_reducible refine Ev.b_off rfl ?_ | with_reducible refine Ev.k_label ?_ | with_reducible refine Ev.k_goto ?_ | with_reducible refine Ev.t_goto ?_ | with_reducible refine Ev.b_goto ?_ | with_reducible refine Ev.j_goto ?_ | with_reducible refine Ev.j_norm ?_ | with_reducible refine Ev.j_ret ?_ | with_reducible refine Ev.j_exit ?_ | with_reducible refine Ev.n_norm ?_ | with_reducible refine Ev.n_ret ?_ | with_reducible refine Ev.n_exit ?_ | ((with_reducible refine Ev.e_ret (fun F hF => ?_)); conv => whnf) | ((with_reducible refine Ev.e_norm (fun F hF => ?_)); conv => whnf) | ((with_reducible refine Ev.eh_ret (fun F hF => ?_)); conv => whnf) | ((with_reducible refine Ev.eh_norm (fun F hF => ?_)); conv => whnf) | ((with_reducible refine Ev.go_k (fun c' => ?_)); conv => whnf) | ((with_reducible refine Ev.byt_cut ?_); conv => whnf) | ((with_reducible refine Ev.byt_all ?_); conv => whnf) | ((with_reducible refine Ev.run_cut ?_); conv => whnf) | ((with_reducible refine Ev.run_all ?_); conv => whnf) | (with_reducible refine hF _ ?_; clear hF F) | (with_reducible refine Ev.u_step ?_) | ((refine Ev.call_det (size_call _) rfl rfl ?_); conv => whnf) | (refine Ev.Side.of ?_; exact Nat.le_of_ble_eq_true rfl))
  · rename_i _ hc
    have hbi := Ev.byt_lt t i
    simp only [Ev.wrap64, Int.toNat_natCast] at hc
    refine ⟨_, _, rfl, Or.inl ⟨rfl, rfl, Or.inr (Or.inr ⟨m, n0, hl, Or.inr (Or.inl ⟨i, by omega, ?_⟩)⟩)⟩, rfl⟩
    obtain ⟨j, rfl⟩ : ∃ j, i = j + 1 := ⟨i - 1, by omega⟩
    simp only [Nat.add_sub_cancel] at ha
    simp only [accF, ha]; rw [if_neg (by omega)]
  · rename_i _ _ hc
    have hbi := Ev.byt_lt t i
    simp only [Ev.wrap64, Int.toNat_natCast] at hc
    refine ⟨_, _, rfl, Or.inl ⟨rfl, rfl, Or.inr (Or.inr ⟨m, n0, hl, Or.inr (Or.inl ⟨i, by omega, ?_⟩)⟩)⟩, rfl⟩
    obtain ⟨j, rfl⟩ : ∃ j, i = j + 1 := ⟨i - 1, by omega⟩
    simp only [Nat.add_sub_cancel] at ha
    simp only [accF, ha]; rw [if_neg (by omega)]
  · rename_i hm1 hc1 hc2
    have hbi := Ev.byt_lt t i
    simp only [Ev.wrap64, Int.toNat_natCast] at hc1 hc2
    have hi4 : i = 1 ∨ i = 2 ∨ i = 3 := by omega
    refine Ev.again (k - 1) ⟨[(0, _), (2, _), (3, _), (5, _), (6, .v (.int .i64 (n * 64 + Ev.byt t i - 128))), (7, .v (.int .i64 ((i + 1 : Nat) : Int)))], [], 0⟩ (by omega)
      ⟨rfl, rfl, rfl, rfl, Ev.slot_int rfl (by simp only [Ev.wrap64, Int.toNat_natCast]; omega), Ev.slot_int rfl (by simp only [Ev.wrap64]; omega), trivial⟩ trivial (Nat.le_refl _) ⟨i + 1, _, rfl, by omega, by omega, ?_, by omega, by omega, by omega, by omega, by omega⟩
    obtain ⟨j, rfl⟩ : ∃ j, i = j + 1 := ⟨i - 1, by omega⟩
    simp only [Nat.add_sub_cancel] at ha
    simp only [Nat.add_sub_cancel, accF, ha]; rw [if_pos (by omega)]
  · refine Ev.Side.of ?_; omega
  · rename_i hm1 hs
    refine ⟨_, _, rfl, Or.inr ⟨by omega, m, n0, hl, by omega, ?_, ?_, ?_⟩, rfl⟩
    · rw [← ha, show i - 1 = m.toNat by omega]
    · simp only [Ev.wrap64] at hs; omega
    · simp only [Ev.wrap64]; omega
  · rename_i hm1 hs
    refine ⟨_, _, rfl, Or.inl ⟨rfl, rfl, Or.inr (Or.inr ⟨m, n0, hl, Or.inr (Or.inr ⟨n, ?_, ?_⟩)⟩)⟩, rfl⟩
    · rw [← ha, show i - 1 = m.toNat by omega]
    · simp only [Ev.wrap64] at hs; omega
  · refine Ev.Side.of ?_; omega
end Go.Proofs.YthdjbgbfboppcaaDoor.Abs

/- The reference's first code point is the model's decoder's. -/
namespace Go.Proofs.YthdjbgbfboppcaaDoor.Abs
open Go
set_option linter.unusedSimpArgs false
set_option linter.unusedVariables false
def firstF (t : ByteArray) : Int × Int := if t.size = 0 ∨ Utf8.decode t 0 = (65533, 1) then (0, 0) else (((Utf8.decode t 0).1 : Int), ((Utf8.decode t 0).2 : Int))
theorem byt_get {t : ByteArray} {i : Nat} (h : i < t.size) : Ev.byt t i = ((t.get! i).toNat : Int) := by
  rw [Ev.byt_eq h]
  have : t.get! i = t[i]'h := by
    show t.data[i]! = t.data[i]
    rw [getElem!_pos t.data i h]
  rw [this]
theorem decN (t : ByteArray) : Utf8.decode t 0 =
    if (t.get! 0).toNat < 128 then ((t.get! 0).toNat, 1)
    else if (t.get! 0).toNat / 32 = 6 ∧ 1 < t.size ∧ (t.get! 1).toNat / 64 = 2 then
      (if (t.get! 0).toNat % 32 * 64 + (t.get! 1).toNat % 64 ≥ 128 then ((t.get! 0).toNat % 32 * 64 + (t.get! 1).toNat % 64, 2) else (65533, 1))
    else if (t.get! 0).toNat / 16 = 14 ∧ (1 < t.size ∧ (t.get! 1).toNat / 64 = 2) ∧ 2 < t.size ∧ (t.get! 2).toNat / 64 = 2 then
      (if (t.get! 0).toNat % 16 * 4096 + (t.get! 1).toNat % 64 * 64 + (t.get! 2).toNat % 64 ≥ 2048 ∧ Utf8.valid ((t.get! 0).toNat % 16 * 4096 + (t.get! 1).toNat % 64 * 64 + (t.get! 2).toNat % 64 : Nat) = true then ((t.get! 0).toNat % 16 * 4096 + (t.get! 1).toNat % 64 * 64 + (t.get! 2).toNat % 64, 3) else (65533, 1))
    else if (t.get! 0).toNat / 8 = 30 ∧ (1 < t.size ∧ (t.get! 1).toNat / 64 = 2) ∧ (2 < t.size ∧ (t.get! 2).toNat / 64 = 2) ∧ 3 < t.size ∧ (t.get! 3).toNat / 64 = 2 then
      (if (t.get! 0).toNat % 8 * 262144 + (t.get! 1).toNat % 64 * 4096 + (t.get! 2).toNat % 64 * 64 + (t.get! 3).toNat % 64 ≥ 65536 ∧ Utf8.valid ((t.get! 0).toNat % 8 * 262144 + (t.get! 1).toNat % 64 * 4096 + (t.get! 2).toNat % 64 * 64 + (t.get! 3).toNat % 64 : Nat) = true then ((t.get! 0).toNat % 8 * 262144 + (t.get! 1).toNat % 64 * 4096 + (t.get! 2).toNat % 64 * 64 + (t.get! 3).toNat % 64, 4) else (65533, 1))
    else (65533, 1) := by
  simp only [Utf8.decode, Utf8.runeError, Nat.zero_add, Bool.and_eq_true, decide_eq_true_eq, beq_iff_eq, and_assoc]
theorem valid_iff (n : Nat) : Utf8.valid (n : Int) = true ↔ (n < 55296 ∨ (57344 ≤ n ∧ n ≤ 1114111)) := by
  simp only [Utf8.valid, Bool.or_eq_true, Bool.and_eq_true, decide_eq_true_eq]; omega
theorem acc_ok {t : ByteArray} {n0 n : Int} {i : Nat} (h : accF t n0 i = some n) (h1 : 128 ≤ Ev.byt t (i + 1)) (h2 : Ev.byt t (i + 1) ≤ 191) : accF t n0 (i + 1) = some (n * 64 + Ev.byt t (i + 1) - 128) := by
  simp only [accF, h]; rw [if_pos ⟨h1, h2⟩]
theorem acc_inv {t : ByteArray} {n0 n : Int} {i : Nat} (h : accF t n0 (i + 1) = some n) : ∃ n', accF t n0 i = some n' ∧ 128 ≤ Ev.byt t (i + 1) ∧ Ev.byt t (i + 1) ≤ 191 ∧ n = n' * 64 + Ev.byt t (i + 1) - 128 := by
  simp only [accF] at h
  split at h
  · rename_i n' hn'
    split at h
    · rename_i hc; exact ⟨n', hn', hc.1, hc.2, (Option.some.inj h).symm⟩
    · cases h
  · cases h
theorem firstP_eq {t : ByteArray} {n k : Int} (h : firstP t n k) : (n, k) = firstF t := by
  unfold firstF
  by_cases hz : t.size = 0
  · rw [if_pos (Or.inl hz)]
    rcases h with ⟨rfl, rfl, _⟩ | ⟨h, _⟩
    · rfl
    · omega
  have e0 := byt_get (t := t) (i := 0) (by omega)
  have l0 := (t.get! 0).toNat_lt
  have l1 := (t.get! 1).toNat_lt
  have l2 := (t.get! 2).toNat_lt
  have l3 := (t.get! 3).toNat_lt
  have e1 : 1 < t.size → Ev.byt t 1 = ((t.get! 1).toNat : Int) := fun h => byt_get h
  have e2 : 2 < t.size → Ev.byt t 2 = ((t.get! 2).toNat : Int) := fun h => byt_get h
  have e3 : 3 < t.size → Ev.byt t 3 = ((t.get! 3).toNat : Int) := fun h => byt_get h
  have D := decN t
  generalize (t.get! 0).toNat = b0 at *
  generalize (t.get! 1).toNat = b1 at *
  generalize (t.get! 2).toNat = b2 at *
  generalize (t.get! 3).toNat = b3 at *
  simp only [valid_iff] at D
  rcases h with ⟨rfl, rfl, h⟩ | ⟨hs, m, n0, hl, hsz, ha, hn, rfl⟩
  · have goal : Utf8.decode t 0 = (65533, 1) := by
      rw [D]
      rcases h with h | h | ⟨m, n0, hl, h⟩
      · exact absurd h hz
      · rw [if_neg (by omega), if_neg (by omega), if_neg (by omega), if_neg (by omega)]
      · rcases hl with ⟨a1, a2, rfl, rfl⟩ | ⟨a1, a2, rfl, rfl⟩ | ⟨a1, a2, rfl, rfl⟩ | ⟨a1, rfl, rfl⟩
        · rw [if_neg (by omega), if_neg (by omega), if_neg (by omega)]
          by_cases hc : b0 / 8 = 30 ∧ (1 < t.size ∧ b1 / 64 = 2) ∧ (2 < t.size ∧ b2 / 64 = 2) ∧ 3 < t.size ∧ b3 / 64 = 2
          · rw [if_pos hc, if_neg]
            obtain ⟨c0, ⟨c1, c1'⟩, ⟨c2, c2'⟩, c3, c3'⟩ := hc
            have q1 : accF t (Ev.byt t 0 - 240) 1 = some ((Ev.byt t 0 - 240) * 64 + Ev.byt t 1 - 128) := acc_ok (i := 0) rfl (by have := e1 c1; show 128 ≤ Ev.byt t 1; omega) (by have := e1 c1; show Ev.byt t 1 ≤ 191; omega)
            have q2 : accF t (Ev.byt t 0 - 240) 2 = some (((Ev.byt t 0 - 240) * 64 + Ev.byt t 1 - 128) * 64 + Ev.byt t 2 - 128) := acc_ok (i := 1) q1 (by have := e2 c2; show 128 ≤ Ev.byt t 2; omega) (by have := e2 c2; show Ev.byt t 2 ≤ 191; omega)
            have q3 : accF t (Ev.byt t 0 - 240) 3 = some ((((Ev.byt t 0 - 240) * 64 + Ev.byt t 1 - 128) * 64 + Ev.byt t 2 - 128) * 64 + Ev.byt t 3 - 128) := acc_ok (i := 2) q2 (by have := e3 c3; show 128 ≤ Ev.byt t 3; omega) (by have := e3 c3; show Ev.byt t 3 ≤ 191; omega)
            have := e1 c1; have := e2 c2; have := e3 c3
            rcases h with h | ⟨i, hi, h⟩ | ⟨n', h, h'⟩
            · omega
            · have : i = 0 ∨ i = 1 ∨ i = 2 ∨ i = 3 := by omega
              rcases this with rfl | rfl | rfl | rfl
              · simp [accF] at h
              · rw [q1] at h; cases h
              · rw [q2] at h; cases h
              · rw [q3] at h; cases h
            · rw [show (3 : Int).toNat = 3 from rfl, q3] at h
              obtain rfl := Option.some.inj h
              unfold sizeF at h'
              split at h' <;> omega
          · rw [if_neg hc]
        · rw [if_neg (by omega), if_neg (by omega)]
          by_cases hc : b0 / 16 = 14 ∧ (1 < t.size ∧ b1 / 64 = 2) ∧ 2 < t.size ∧ b2 / 64 = 2
          · rw [if_pos hc, if_neg]
            obtain ⟨c0, ⟨c1, c1'⟩, c2, c2'⟩ := hc
            have q1 : accF t (Ev.byt t 0 - 224) 1 = some ((Ev.byt t 0 - 224) * 64 + Ev.byt t 1 - 128) := acc_ok (i := 0) rfl (by have := e1 c1; show 128 ≤ Ev.byt t 1; omega) (by have := e1 c1; show Ev.byt t 1 ≤ 191; omega)
            have q2 : accF t (Ev.byt t 0 - 224) 2 = some (((Ev.byt t 0 - 224) * 64 + Ev.byt t 1 - 128) * 64 + Ev.byt t 2 - 128) := acc_ok (i := 1) q1 (by have := e2 c2; show 128 ≤ Ev.byt t 2; omega) (by have := e2 c2; show Ev.byt t 2 ≤ 191; omega)
            have := e1 c1; have := e2 c2
            rcases h with h | ⟨i, hi, h⟩ | ⟨n', h, h'⟩
            · omega
            · have : i = 0 ∨ i = 1 ∨ i = 2 := by omega
              rcases this with rfl | rfl | rfl
              · simp [accF] at h
              · rw [q1] at h; cases h
              · rw [q2] at h; cases h
            · rw [show (2 : Int).toNat = 2 from rfl, q2] at h
              obtain rfl := Option.some.inj h
              unfold sizeF at h'
              split at h' <;> omega
          · rw [if_neg hc, if_neg (by omega)]
        · rw [if_neg (by omega)]
          by_cases hc : b0 / 32 = 6 ∧ 1 < t.size ∧ b1 / 64 = 2
          · rw [if_pos hc, if_neg]
            obtain ⟨c0, c1, c1'⟩ := hc
            have q1 : accF t (Ev.byt t 0 - 192) 1 = some ((Ev.byt t 0 - 192) * 64 + Ev.byt t 1 - 128) := acc_ok (i := 0) rfl (by have := e1 c1; show 128 ≤ Ev.byt t 1; omega) (by have := e1 c1; show Ev.byt t 1 ≤ 191; omega)
            have := e1 c1
            rcases h with h | ⟨i, hi, h⟩ | ⟨n', h, h'⟩
            · omega
            · have : i = 0 ∨ i = 1 := by omega
              rcases this with rfl | rfl
              · simp [accF] at h
              · rw [q1] at h; cases h
            · rw [show (1 : Int).toNat = 1 from rfl, q1] at h
              obtain rfl := Option.some.inj h
              unfold sizeF at h'
              split at h' <;> omega
          · rw [if_neg hc, if_neg (by omega), if_neg (by omega)]
        · exfalso
          rcases h with h | ⟨i, hi, h⟩ | ⟨n', h, h'⟩
          · omega
          · have : i = 0 := by omega
            subst this; simp [accF] at h
          · simp only [Int.toNat_zero, accF, Option.some.injEq] at h
            unfold sizeF at h'
            split at h' <;> omega
    rw [if_pos (Or.inr goal)]
  · have goal : Utf8.decode t 0 = (n.toNat, (m + 1).toNat) ∧ 0 ≤ n ∧ 0 ≤ m ∧ ¬ (n = 65533 ∧ m = 0) := by
      rw [D]
      rcases hl with ⟨a1, a2, rfl, rfl⟩ | ⟨a1, a2, rfl, rfl⟩ | ⟨a1, a2, rfl, rfl⟩ | ⟨a1, rfl, rfl⟩
      · have := e1 (by omega); have := e2 (by omega); have := e3 (by omega)
        obtain ⟨n1, ha2, c1, c1', rfl⟩ := acc_inv (i := 2) ha
        obtain ⟨n2, ha1, c2, c2', rfl⟩ := acc_inv (i := 1) ha2
        obtain ⟨n3, ha0, c3, c3', rfl⟩ := acc_inv (i := 0) ha1
        simp only [accF, Option.some.injEq] at ha0
        subst ha0
        simp only [Nat.zero_add, Nat.reduceAdd] at *
        unfold sizeF at hn
        split at hn
        · omega
        rw [if_neg (by omega), if_neg (by omega), if_neg (by omega), if_pos (by omega), if_pos (by omega)]
        refine ⟨?_, by omega, by omega, by omega⟩
        simp only [Prod.mk.injEq]; omega
      · have := e1 (by omega); have := e2 (by omega)
        obtain ⟨n2, ha1, c2, c2', rfl⟩ := acc_inv (i := 1) ha
        obtain ⟨n3, ha0, c3, c3', rfl⟩ := acc_inv (i := 0) ha1
        simp only [accF, Option.some.injEq] at ha0
        subst ha0
        simp only [Nat.zero_add, Nat.reduceAdd] at *
        unfold sizeF at hn
        split at hn
        · omega
        rw [if_neg (by omega), if_neg (by omega), if_pos (by omega), if_pos (by omega)]
        refine ⟨?_, by omega, by omega, by omega⟩
        simp only [Prod.mk.injEq]; omega
      · have := e1 (by omega)
        obtain ⟨n3, ha0, c3, c3', rfl⟩ := acc_inv (i := 0) ha
        simp only [accF, Option.some.injEq] at ha0
        subst ha0
        simp only [Nat.zero_add, Nat.reduceAdd] at *
        unfold sizeF at hn
        split at hn
        · omega
        rw [if_neg (by omega), if_pos (by omega), if_pos (by omega)]
        refine ⟨?_, by omega, by omega, by omega⟩
        simp only [Prod.mk.injEq]; omega
      · simp only [Int.toNat_zero, accF, Option.some.injEq] at ha
        subst ha
        rw [if_pos (by omega)]
        refine ⟨?_, by omega, by omega, by omega⟩
        simp only [Prod.mk.injEq]; omega
    rw [if_neg]
    · rw [goal.1]; simp only [Prod.mk.injEq]; omega
    · rw [goal.1]; simp only [Prod.mk.injEq]; omega
end Go.Proofs.YthdjbgbfboppcaaDoor.Abs

/- The reference's texts: where the code points begin. -/
namespace Go.Proofs.YthdjbgbfboppcaaDoor.Abs
open Go
set_option maxRecDepth 100000
set_option linter.unusedSimpArgs false
set_option linter.unusedVariables false
attribute [local irreducible] Ev.Unr Ev.Go' Ev.bytK Ev.runK Ev.FinL Ev.brC Ev.Side Ev.Wp Ev.Again Ev.To Ev.Fin
open Go.Lib
def ints (l : List Int) : List (List AV) := l.map fun n => [.v (.int .i64 n)]
def posGo : Nat → List UInt8 → Int → List Int
  | 0, _, _ => []
  | n + 1, l, at' => if l = [] then [] else (at' + (decodeL l).2) :: posGo n (l.drop (decodeL l).2) (at' + (decodeL l).2)
def posD (l : List UInt8) (at' : Int) : List Int := posGo l.length l at'
theorem posGo_fuel : ∀ (n m : Nat) (l : List UInt8) (a : Int), l.length ≤ n → l.length ≤ m → posGo n l a = posGo m l a
  | 0, 0, l, a, _, _ => rfl
  | 0, m + 1, l, a, h, _ => by
    have : l = [] := List.length_eq_zero_iff.1 (by omega)
    subst this; simp [posGo]
  | n + 1, 0, l, a, _, h => by
    have : l = [] := List.length_eq_zero_iff.1 (by omega)
    subst this; simp [posGo]
  | n + 1, m + 1, l, a, h1, h2 => by
    simp only [posGo]
    by_cases he : l = []
    · rw [if_pos he, if_pos he]
    · rw [if_neg he, if_neg he]
      have := decodeL_width l
      rw [posGo_fuel n m _ _ (by rw [List.length_drop]; omega) (by rw [List.length_drop]; omega)]
theorem posD_nil (a : Int) : posD [] a = [] := rfl
theorem posD_step {l : List UInt8} (h : l ≠ []) (a : Int) : posD l a = (a + (decodeL l).2) :: posD (l.drop (decodeL l).2) (a + (decodeL l).2) := by
  unfold posD
  obtain ⟨n, hn⟩ : ∃ n, l.length = n + 1 := ⟨l.length - 1, by have := List.length_pos_iff.2 h; omega⟩
  rw [hn, posGo, if_neg h]
  have := decodeL_width l
  rw [posGo_fuel n _ _ _ (by rw [List.length_drop]; omega) (Nat.le_refl _)]
theorem validGo_fuel : ∀ (n m : Nat) (l : List UInt8), l.length ≤ n → l.length ≤ m → validGoD n l = validGoD m l
  | 0, 0, l, _, _ => rfl
  | 0, m + 1, l, h, _ => by
    have : l = [] := List.length_eq_zero_iff.1 (by omega)
    subst this; simp [validGoD]
  | n + 1, 0, l, _, h => by
    have : l = [] := List.length_eq_zero_iff.1 (by omega)
    subst this; simp [validGoD]
  | n + 1, m + 1, l, h1, h2 => by
    simp only [validGoD]
    by_cases he : l = []
    · rw [if_pos he, if_pos he]
    · rw [if_neg he, if_neg he]
      have := decodeL_width l
      rw [validGo_fuel n m _ (by rw [List.length_drop]; omega) (by rw [List.length_drop]; omega)]
theorem validD_nil' : validD [] = true := rfl
theorem validD_step {l : List UInt8} (h : l ≠ []) : validD l = if decodeL l = (65533, 1) then false else validD (l.drop (decodeL l).2) := by
  unfold validD
  obtain ⟨n, hn⟩ : ∃ n, l.length = n + 1 := ⟨l.length - 1, by have := List.length_pos_iff.2 h; omega⟩
  rw [hn, validGoD, if_neg h]
  have := decodeL_width l
  rw [validGo_fuel n _ _ (by rw [List.length_drop]; omega) (Nat.le_refl _)]
  have e : (decodeL l = (65533, 1)) ↔ ((decodeL l).1 = 65533 ∧ (decodeL l).2 = 1) := by rw [Prod.ext_iff]
  simp only [e]
theorem extract_list (t : ByteArray) (i : Nat) : (t.extract i t.size).data.toList = t.data.toList.drop i := by
  simp only [ByteArray.data_extract, Array.toList_extract, List.extract_eq_take_drop]
  apply List.take_of_length_le
  simp
theorem firstF_drop (t : ByteArray) (i : Nat) (hi : i < t.size) : firstF (t.extract i t.size) = if decodeL (t.data.toList.drop i) = (65533, 1) then (0, 0) else (((decodeL (t.data.toList.drop i)).1 : Int), ((decodeL (t.data.toList.drop i)).2 : Int)) := by
  have e : Utf8.decode (t.extract i t.size) 0 = decodeL (t.data.toList.drop i) := by
    rw [← decodeL_drop (t.extract i t.size) 0, List.drop_zero, extract_list]
  unfold firstF
  rw [e]
  have : ¬ (t.extract i t.size).size = 0 := by rw [ByteArray.size_extract]; omega
  by_cases h : decodeL (t.data.toList.drop i) = (65533, 1)
  · rw [if_pos (Or.inr h), if_pos h]
  · rw [if_neg (by rintro (h' | h'); exact this h'; exact h h'), if_neg h]
theorem len_list (t : ByteArray) : t.data.toList.length = t.size := Array.length_toList
theorem first_det (t : ByteArray) : CallW env 118 [.v (.string t)] (fun r hs => r = .tup [.v (.int .i64 (firstF t).1), .v (.int .i64 (firstF t).2)] ∧ hs = []) :=
  (first_call t).mono fun r hs ⟨n, k, a, b, c⟩ => by rw [← firstP_eq b]; exact ⟨a, c⟩
def cc93 : CC := (.seq (.reg 0 [⟨0, some 2, (.assign (.const (Value.slice none 0 0))), none⟩, ⟨1, some 3, (.assign (.const (Value.bool false))), none⟩]) (.seq (.reg 1 [⟨0, some 8, (.buildSlice 40 1 #[(0, .const (Value.int .i64 0))]), none⟩, ⟨1, some 4, (.assign (.tmp 8)), none⟩]) (.seq (.reg 2 [⟨0, some 5, (.assign (.const (Value.int .i64 0))), none⟩]) (.seq (.block 0 (.loop (.seq (.seq (.reg 3 [⟨0, some 9, (.move (.tmp 5)), none⟩, ⟨1, some 10, (.move (.tmp 0)), none⟩, ⟨2, some 11, (.call { callee := .builtin .len, args := #[.tmp 10], argTypes := #[9] }), none⟩, ⟨3, some 12, (.binOp .lss 3 (.tmp 9) (.tmp 11) 3), none⟩]) (.cond (.tmp 12) .skip (.exit 0))) (.block 1 (.seq (.reg 4 [⟨0, some 14, (.move (.tmp 0)), none⟩, ⟨1, some 15, (.move (.tmp 5)), none⟩, ⟨2, some 16, (.slice 9 (.tmp 14) (some (.tmp 15)) none none), none⟩, ⟨3, some 17, (.call { callee := .value (.func 118), args := #[.tmp 16], argTypes := #[9] }), none⟩, ⟨4, some 13, (.move (.tmp 17)), none⟩, ⟨5, some 18, (.extract (.tmp 13) 0), none⟩, ⟨6, some 19, (.extract (.tmp 13) 1), none⟩, ⟨7, some 6, (.assign (.tmp 18)), none⟩, ⟨8, some 7, (.assign (.tmp 19)), none⟩]) (.seq (.seq (.reg 5 [⟨0, some 20, (.move (.tmp 7)), none⟩, ⟨1, some 21, (.binOp .eql 3 (.tmp 20) (.const (Value.int .i64 0)) 3), none⟩]) (.cond (.tmp 21) (.seq (.reg 6 [⟨0, some 2, (.assign (.const (Value.slice none 0 0))), none⟩, ⟨1, some 3, (.assign (.const (Value.bool false))), none⟩]) .ret) .skip)) (.seq (.reg 7 [⟨0, some 22, (.move (.tmp 5)), none⟩, ⟨1, some 23, (.move (.tmp 7)), none⟩, ⟨2, some 24, (.binOp .add 3 (.tmp 22) (.tmp 23) 3), none⟩, ⟨3, some 5, (.assign (.tmp 24)), none⟩]) (.reg 8 [⟨0, some 25, (.move (.tmp 4)), none⟩, ⟨1, some 26, (.move (.tmp 5)), none⟩, ⟨2, some 27, (.buildSlice 40 1 #[(0, .tmp 26)]), none⟩, ⟨3, some 28, (.call { callee := .builtin .append, args := #[.tmp 25, .tmp 27], argTypes := #[40, 40] }), none⟩, ⟨4, some 4, (.assign (.tmp 28)), none⟩])))))))) (.seq (.reg 9 [⟨0, some 29, (.move (.tmp 4)), none⟩, ⟨1, some 2, (.assign (.tmp 29)), none⟩, ⟨2, some 3, (.assign (.const (Value.bool true))), none⟩]) .ret)))))
theorem comp93 : ∀ c, Tryd.f93.body = some c → comp c = cc93 := by
  intro c h
  have : c = Tryd.f93.body.get rfl := by rw [← Option.some_inj, ← h]; rfl
  rw [this]; rfl
def StartsR (t : ByteArray) (r : AV) (hs : List Blk) : Prop :=
  if validD t.data.toList then r = .tup [.own 0 0 0 ((posD t.data.toList 0).length + 1), .v (.bool true)] ∧ hs = [⟨1, 3, 0, 0, false, ints (0 :: posD t.data.toList 0)⟩] else r = .tup [.v (.slice none 0 0), .v (.bool false)] ∧ hs = []
theorem starts_call (t : ByteArray) (ht : t.size ≤ 1000000000) : CallW env 93 [.v (.string t)] (StartsR t) := by
  refine Ev.funcO tabOK [0, 2, 3, 4, 5, 7, 12, 21] 0 Tryd.func93 rfl rfl (by simp [Tryd.ntmps93]) (by rfl) (comp93 _ rfl) (rs := [.tmp 2, .tmp 3]) rfl ?_; rw [cc93]; show Ev.Wp _ _ _ _ ⟨[(0, _)], [], 0⟩
  repeat' (first | ((with_reducible refine Ev.sided ?_ ?_); (conv => whnf)) | ((with_reducible refine Ev.w_put ?_); (conv => whnf)) | ((with_reducible refine Ev.w_step ?_); (conv => whnf)) | ((with_reducible refine Ev.w_opt ?_); (conv => whnf)) | ((with_reducible refine Ev.chk_k ?_ ?_); rotate_left; (focus first | rfl | (simp only [Ev.nbeq, Bool.and_true, Bool.true_and, Bool.not_false]; done) | ((repeat' (first | exact Ev.nbeq _ | rfl | refine Bool.and_eq_true_iff.2 ⟨?_, ?_⟩)); done)); conv => whnf) | with_reducible refine Ev.c_dec (fun _ => ?_) (fun _ => ?_) | with_reducible refine Ev.c_not ?_ | with_reducible refine Ev.c_t ?_ | with_reducible refine Ev.c_f ?_ | with_reducible refine Ev.c_br (fun _ => ?_) (fun _ => ?_) | ((with_reducible refine Ev.br_not ?_); conv => whnf) | with_reducible refine Ev.br_dec (fun _ => ?_) (fun _ => ?_) | with_reducible refine Ev.br (fun _ => ?_) (fun _ => ?_) | with_reducible refine Ev.eo_ret ?_ | with_reducible refine Ev.eo_norm ?_ | with_reducible refine Ev.t_norm ?_ | with_reducible refine Ev.k_seq ?_ | ((with_reducible refine Ev.k_reg (hs := []) (tabOK' _ _) (fun Q hQ => ?_)); (simp only [Ev.runE_cons, Ev.runE_nil]); conv => whnf) | (with_reducible refine hQ _ ?_; clear hQ Q) | with_reducible refine Ev.k_cond rfl ?_ | with_reducible refine Ev.k_skip ?_ | with_reducible refine Ev.k_block ?_ | with_reducible refine Ev.k_exit ?_ | with_reducible refine Ev.k_ret ?_ | with_reducible refine Ev.t_ret ?_ | with_reducible refine Ev.t_exit ?_ | with_reducible refine Ev.b_norm ?_ | with_reducible refine Ev.b_ret ?_ | with_reducible refine Ev.b_here ?_ | with_reducible refine Ev.b_off rfl ?_ | with_reducible refine Ev.k_label ?_ | with_reducible refine Ev.k_goto ?_ | with_reducible refine Ev.t_goto ?_ | with_reducible refine Ev.b_goto ?_ | with_reducible refine Ev.j_goto ?_ | with_reducible refine Ev.j_norm ?_ | with_reducible refine Ev.j_ret ?_ | with_reducible refine Ev.j_exit ?_ | with_reducible refine Ev.n_norm ?_ | with_reducible refine Ev.n_ret ?_ | with_reducible refine Ev.n_exit ?_ | ((with_reducible refine Ev.e_ret (fun F hF => ?_)); conv => whnf) | ((with_reducible refine Ev.e_norm (fun F hF => ?_)); conv => whnf) | ((with_reducible refine Ev.eh_ret (fun F hF => ?_)); conv => whnf) | ((with_reducible refine Ev.eh_norm (fun F hF => ?_)); conv => whnf) | ((with_reducible refine Ev.go_k (fun c' => ?_)); conv => whnf) | ((with_reducible refine Ev.byt_cut ?_); conv => whnf) | ((with_reducible refine Ev.byt_all ?_); conv => whnf) | ((with_reducible refine Ev.run_cut ?_); conv => whnf) | ((with_reducible refine Ev.run_all ?_); conv => whnf) | (with_reducible refine hF _ ?_; clear hF F) | (with_reducible refine Ev.u_step ?_) | (refine Ev.Side.of ?_; exact Nat.le_of_ble_eq_true rfl))
  refine Ev.loop (fun k s => ∃ (i v c : Nat) (out : List Int), s = ⟨[(0, .v (.string t)), (2, .v (.slice none 0 0)), (3, .v (.bool false)), (4, .own 512 v 0 out.length), (5, .v (.int .i64 i))], [(512, ⟨1, 3, v, 0, false, ints out⟩)], c⟩ ∧
      k + i = t.size ∧ out ++ posD (t.data.toList.drop i) i = 0 :: posD t.data.toList 0 ∧ validD (t.data.toList.drop i) = validD t.data.toList ∧ out.length ≤ i + 1) ?_ ?_
  · exact Ev.to ⟨[(0, _), (2, _), (3, _), (4, .own 512 0 0 1), (5, .v (.int .i64 ((0 : Nat) : Int)))], [(512, ⟨1, 3, 0, 0, false, ints [0]⟩)], 8⟩ ⟨rfl, rfl, rfl, rfl, rfl, trivial⟩ ⟨rfl, trivial⟩ (Nat.le_refl _) ⟨t.size, 0, 0, 8, [0], rfl, by omega, rfl, rfl, by simp⟩
  rintro k s1 ⟨i, v, c, out, rfl, hk, ho, hv, hl⟩
  repeat' (first | ((with_reducible refine Ev.sided ?_ ?_); (conv => whnf)) | ((with_reducible refine Ev.w_put ?_); (conv => whnf)) | ((with_reducible refine Ev.w_step ?_); (conv => whnf)) | ((with_reducible refine Ev.w_opt ?_); (conv => whnf)) | ((with_reducible refine Ev.chk_k ?_ ?_); rotate_left; (focus first | rfl | (simp only [Ev.nbeq, Bool.and_true, Bool.true_and, Bool.not_false]; done) | ((repeat' (first | exact Ev.nbeq _ | rfl | refine Bool.and_eq_true_iff.2 ⟨?_, ?_⟩)); done)); conv => whnf) | with_reducible refine Ev.c_dec (fun _ => ?_) (fun _ => ?_) | with_reducible refine Ev.c_not ?_ | with_reducible refine Ev.c_t ?_ | with_reducible refine Ev.c_f ?_ | with_reducible refine Ev.c_br (fun _ => ?_) (fun _ => ?_) | ((with_reducible refine Ev.br_not ?_); conv => whnf) | with_reducible refine Ev.br_dec (fun _ => ?_) (fun _ => ?_) | with_reducible refine Ev.br (fun _ => ?_) (fun _ => ?_) | with_reducible refine Ev.eo_ret ?_ | with_reducible refine Ev.eo_norm ?_ | with_reducible refine Ev.t_norm ?_ | with_reducible refine Ev.k_seq ?_ | ((with_reducible refine Ev.k_reg (hs := []) (tabOK' _ _) (fun Q hQ => ?_)); (simp only [Ev.runE_cons, Ev.runE_nil]); conv => whnf) | (with_reducible refine hQ _ ?_; clear hQ Q) | with_reducible refine Ev.k_cond rfl ?_ | with_reducible refine Ev.k_skip ?_ | with_reducible refine Ev.k_block ?_ | with_reducible refine Ev.k_exit ?_ | with_reducible refine Ev.k_ret ?_ | with_reducible refine Ev.t_ret ?_ | with_reducible refine Ev.t_exit ?_ | with_reducible refine Ev.b_norm ?_ | with_reducible refine Ev.b_ret ?_ | with_reducible refine Ev.b_here ?_ | with_reducible refine Ev.b_off rfl ?_ | with_reducible refine Ev.k_label ?_ | with_reducible refine Ev.k_goto ?_ | with_reducible refine Ev.t_goto ?_ | with_reducible refine Ev.b_goto ?_ | with_reducible refine Ev.j_goto ?_ | with_reducible refine Ev.j_norm ?_ | with_reducible refine Ev.j_ret ?_ | with_reducible refine Ev.j_exit ?_ | with_reducible refine Ev.n_norm ?_ | with_reducible refine Ev.n_ret ?_ | with_reducible refine Ev.n_exit ?_ | ((with_reducible refine Ev.e_ret (fun F hF => ?_)); conv => whnf) | ((with_reducible refine Ev.e_norm (fun F hF => ?_)); conv => whnf) | ((with_reducible refine Ev.eh_ret (fun F hF => ?_)); conv => whnf) | ((with_reducible refine Ev.eh_norm (fun F hF => ?_)); conv => whnf) | ((with_reducible refine Ev.go_k (fun c' => ?_)); conv => whnf) | ((with_reducible refine Ev.byt_cut ?_); conv => whnf) | ((with_reducible refine Ev.byt_all ?_); conv => whnf) | ((with_reducible refine Ev.run_cut ?_); conv => whnf) | ((with_reducible refine Ev.run_all ?_); conv => whnf) | (with_reducible refine hF _ ?_; clear hF F) | (with_reducible refine Ev.u_step ?_) | ((refine Ev.call_det (first_det _) rfl rfl ?_); conv => whnf) | (refine Ev.Side.of ?_; exact Nat.le_of_ble_eq_true rfl))
  · rename_i hi hk0
    refine Ev.finL [] (by simp) (fun F hF => ?_)
    conv => whnf
    refine hF _ ?_
    simp only [Int.toNat_natCast] at hk0
    rw [firstF_drop t i (by omega)] at hk0
    unfold StartsR
    have hne : t.data.toList.drop i ≠ [] := by intro e; have := congrArg List.length e; rw [List.length_drop, len_list] at this; simp at this; omega
    rw [validD_step hne] at hv
    have hw := decodeL_width (t.data.toList.drop i)
    split at hk0
    · rename_i hd
      rw [if_pos hd] at hv
      rw [if_neg (by rw [← hv]; decide)]; exact ⟨rfl, rfl⟩
    · simp only at hk0; omega
  · rename_i hi hk0
    simp only [Int.toNat_natCast] at hk0
    have hne : t.data.toList.drop i ≠ [] := by intro e; have := congrArg List.length e; rw [List.length_drop, len_list] at this; simp at this; omega
    have hw := decodeL_width (t.data.toList.drop i)
    have hw' := decodeL_le (t.data.toList.drop i) hne
    rw [List.length_drop, len_list] at hw'
    have hf := firstF_drop t i (by omega)
    have hd : ¬ decodeL (t.data.toList.drop i) = (65533, 1) := by
      intro e; rw [hf, if_pos e] at hk0; exact hk0 rfl
    rw [if_neg hd] at hf
    rw [validD_step hne, if_neg hd, List.drop_drop] at hv
    rw [posD_step hne, List.drop_drop] at ho
    refine Ev.again (k - (decodeL (t.data.toList.drop i)).2) ⟨[(0, _), (2, _), (3, _), (4, _), (5, .v (.int .i64 ((i + (decodeL (t.data.toList.drop i)).2 : Nat) : Int)))], [(512, ⟨1, 3, c + 8, 0, false, ints (out ++ [((i + (decodeL (t.data.toList.drop i)).2 : Nat) : Int)])⟩)], c + 8 + 8⟩ (by omega)
      ⟨rfl, rfl, rfl, rfl, Ev.slot_int rfl ?_, trivial⟩ ⟨Ev.slot_eq rfl ?_, trivial⟩ (Nat.le_refl _) ⟨i + (decodeL (t.data.toList.drop i)).2, c + 8, c + 8 + 8, out ++ [((i + (decodeL (t.data.toList.drop i)).2 : Nat) : Int)], ?_, by omega, ?_, by rw [Nat.add_comm]; rw [Nat.add_comm] at hv; exact hv, by rw [List.length_append]; simp only [List.length_cons, List.length_nil]; omega⟩
    · rw [Int.toNat_natCast, hf, Ev.wrap64]; simp only; omega
    · simp only [Blk.mk.injEq, true_and, and_true, List.drop_zero, Int.toNat_natCast, hf]
      simp only [ints, List.map_append, List.map_cons, List.map_nil, List.take_succ_cons, List.take_zero, Ev.wrap64]
      rw [show ((i : Int) + ((decodeL (t.data.toList.drop i)).2 : Int) + 9223372036854775808) % 18446744073709551616 - 9223372036854775808 = ((i + (decodeL (t.data.toList.drop i)).2 : Nat) : Int) by omega]
    · simp only [List.length_append, List.length_cons, List.length_nil]; rfl
    · rw [List.append_assoc]; rw [← ho]
      simp only [Int.natCast_add, List.singleton_append]
  · refine Ev.Side.of ?_
    have hm : 2000000003 ≤ maxLen := by decide
    simp [ints]
    omega
  · refine Ev.Side.of ?_; omega
  · rename_i hi
    refine Ev.finL [(512, v)] (by simp) (fun F hF => ?_)
    have e : i = t.size := by omega
    subst e
    have en : t.data.toList.drop t.size = [] := by apply List.drop_of_length_le; rw [len_list]; exact Nat.le_refl _
    rw [en] at hv ho
    rw [posD_nil, List.append_nil] at ho
    subst ho
    simp only [Ev.FinP.resK, get_cons, get_nil, Nat.reduceEqDiff, if_false, if_true, handed, rens, ren, idx, and_self, Option.map_some, resOf]
    refine hF _ ?_
    unfold StartsR
    rw [if_pos (by rw [← hv]; rfl)]
    exact ⟨rfl, rfl⟩
end Go.Proofs.YthdjbgbfboppcaaDoor.Abs

/- The reference's texts: valid ones, and how many code points. -/
namespace Go.Proofs.YthdjbgbfboppcaaDoor.Abs
open Go
set_option maxRecDepth 100000
set_option linter.unusedSimpArgs false
set_option linter.unusedVariables false
attribute [local irreducible] Ev.Unr Ev.Go' Ev.bytK Ev.runK Ev.FinL Ev.brC Ev.Side Ev.Wp Ev.Again Ev.To Ev.Fin
open Go.Lib
theorem starts_ok {t : ByteArray} (ht : t.size ≤ 1000000000) (hv : validD t.data.toList = true) : CallW env 93 [.v (.string t)] (fun r hs => r = .tup [.own 0 0 0 ((posD t.data.toList 0).length + 1), .v (.bool true)] ∧ hs = [⟨1, 3, 0, 0, false, ints (0 :: posD t.data.toList 0)⟩]) :=
  (starts_call t ht).mono fun r hs h => by unfold StartsR at h; rwa [if_pos hv] at h
theorem starts_no {t : ByteArray} (ht : t.size ≤ 1000000000) (hv : ¬ validD t.data.toList = true) : CallW env 93 [.v (.string t)] (fun r hs => r = .tup [.v (.slice none 0 0), .v (.bool false)] ∧ hs = []) :=
  (starts_call t ht).mono fun r hs h => by unfold StartsR at h; rwa [if_neg hv] at h
theorem posGo_len : ∀ (n : Nat) (l : List UInt8) (a : Int), (posGo n l a).length ≤ n
  | 0, l, a => by simp [posGo]
  | n + 1, l, a => by
    simp only [posGo]
    split
    · simp
    · simp only [List.length_cons]; have := posGo_len n (l.drop (decodeL l).2) (a + (decodeL l).2); omega
theorem posD_len (l : List UInt8) (a : Int) : (posD l a).length ≤ l.length := posGo_len _ _ _
def cc71 : CC := (.seq (.reg 0 [⟨0, some 2, (.assign (.const (Value.bool false))), none⟩]) (.seq (.reg 1 [⟨0, some 6, (.move (.tmp 0)), none⟩, ⟨1, some 7, (.call { callee := .value (.func 93), args := #[.tmp 6], argTypes := #[9] }), none⟩, ⟨2, some 5, (.move (.tmp 7)), none⟩, ⟨3, some 8, (.extract (.tmp 5) 0), none⟩, ⟨4, some 9, (.extract (.tmp 5) 1), none⟩, ⟨5, some 3, (.assign (.tmp 8)), none⟩, ⟨6, some 4, (.assign (.tmp 9)), none⟩]) (.seq (.reg 2 [⟨0, some 10, (.move (.tmp 4)), none⟩, ⟨1, some 2, (.assign (.tmp 10)), none⟩]) .ret)))
theorem comp71 : ∀ c, Tryd.f71.body = some c → comp c = cc71 := by
  intro c h
  have : c = Tryd.f71.body.get rfl := by rw [← Option.some_inj, ← h]; rfl
  rw [this]; rfl
def cc65 : CC := (.seq (.reg 0 [⟨0, some 2, (.assign (.const (Value.int .i64 0))), none⟩]) (.seq (.reg 1 [⟨0, some 6, (.move (.tmp 0)), none⟩, ⟨1, some 7, (.call { callee := .value (.func 93), args := #[.tmp 6], argTypes := #[9] }), none⟩, ⟨2, some 5, (.move (.tmp 7)), none⟩, ⟨3, some 8, (.extract (.tmp 5) 0), none⟩, ⟨4, some 9, (.extract (.tmp 5) 1), none⟩, ⟨5, some 3, (.assign (.tmp 8)), none⟩, ⟨6, some 4, (.assign (.tmp 9)), none⟩]) (.seq (.reg 2 [⟨0, some 10, (.move (.tmp 3)), none⟩, ⟨1, some 11, (.call { callee := .builtin .len, args := #[.tmp 10], argTypes := #[40] }), none⟩, ⟨2, some 12, (.binOp .sub 3 (.tmp 11) (.const (Value.int .i64 1)) 3), none⟩, ⟨3, some 2, (.assign (.tmp 12)), none⟩]) .ret)))
theorem comp65 : ∀ c, Tryd.f65.body = some c → comp c = cc65 := by
  intro c h
  have : c = Tryd.f65.body.get rfl := by rw [← Option.some_inj, ← h]; rfl
  rw [this]; rfl
theorem rvalid_call (t : ByteArray) (ht : t.size ≤ 1000000000) : CallW env 71 [.v (.string t)] (fun r hs => r = .v (.bool (validD t.data.toList)) ∧ hs = []) := by
  by_cases hv : validD t.data.toList = true
  · refine Ev.func tabOK [0, 2, 4] 0 Tryd.func71 rfl rfl (by simp [Tryd.ntmps71]) (by rfl) (comp71 _ rfl) (rs := [.tmp 2]) rfl ?_; rw [cc71]; show Ev.Wp _ _ _ _ ⟨[(0, _)], [], 0⟩
    repeat' (first | ((with_reducible refine Ev.sided ?_ ?_); (conv => whnf)) | ((with_reducible refine Ev.w_put ?_); (conv => whnf)) | ((with_reducible refine Ev.w_step ?_); (conv => whnf)) | ((with_reducible refine Ev.w_opt ?_); (conv => whnf)) | ((with_reducible refine Ev.chk_k ?_ ?_); rotate_left; (focus first | rfl | (simp only [Ev.nbeq, Bool.and_true, Bool.true_and, Bool.not_false]; done) | ((repeat' (first | exact Ev.nbeq _ | rfl | refine Bool.and_eq_true_iff.2 ⟨?_, ?_⟩)); done)); conv => whnf) | with_reducible refine Ev.c_dec (fun _ => ?_) (fun _ => ?_) | with_reducible refine Ev.c_not ?_ | with_reducible refine Ev.c_t ?_ | with_reducible refine Ev.c_f ?_ | with_reducible refine Ev.c_br (fun _ => ?_) (fun _ => ?_) | ((with_reducible refine Ev.br_not ?_); conv => whnf) | with_reducible refine Ev.br_dec (fun _ => ?_) (fun _ => ?_) | with_reducible refine Ev.br (fun _ => ?_) (fun _ => ?_) | with_reducible refine Ev.eo_ret ?_ | with_reducible refine Ev.eo_norm ?_ | with_reducible refine Ev.t_norm ?_ | with_reducible refine Ev.k_seq ?_ | ((with_reducible refine Ev.k_reg (hs := []) (tabOK' _ _) (fun Q hQ => ?_)); (simp only [Ev.runE_cons, Ev.runE_nil]); conv => whnf) | (with_reducible refine hQ _ ?_; clear hQ Q) | with_reducible refine Ev.k_cond rfl ?_ | with_reducible refine Ev.k_skip ?_ | with_reducible refine Ev.k_block ?_ | with_reducible refine Ev.k_exit ?_ | with_reducible refine Ev.k_ret ?_ | with_reducible refine Ev.t_ret ?_ | with_reducible refine Ev.t_exit ?_ | with_reducible refine Ev.b_norm ?_ | with_reducible refine Ev.b_ret ?_ | with_reducible refine Ev.b_here ?_ | with_reducible refine Ev.b_off rfl ?_ | with_reducible refine Ev.k_label ?_ | with_reducible refine Ev.k_goto ?_ | with_reducible refine Ev.t_goto ?_ | with_reducible refine Ev.b_goto ?_ | with_reducible refine Ev.j_goto ?_ | with_reducible refine Ev.j_norm ?_ | with_reducible refine Ev.j_ret ?_ | with_reducible refine Ev.j_exit ?_ | with_reducible refine Ev.n_norm ?_ | with_reducible refine Ev.n_ret ?_ | with_reducible refine Ev.n_exit ?_ | ((with_reducible refine Ev.e_ret (fun F hF => ?_)); conv => whnf) | ((with_reducible refine Ev.e_norm (fun F hF => ?_)); conv => whnf) | ((with_reducible refine Ev.eh_ret (fun F hF => ?_)); conv => whnf) | ((with_reducible refine Ev.eh_norm (fun F hF => ?_)); conv => whnf) | ((with_reducible refine Ev.go_k (fun c' => ?_)); conv => whnf) | ((with_reducible refine Ev.byt_cut ?_); conv => whnf) | ((with_reducible refine Ev.byt_all ?_); conv => whnf) | ((with_reducible refine Ev.run_cut ?_); conv => whnf) | ((with_reducible refine Ev.run_all ?_); conv => whnf) | (with_reducible refine hF _ ?_; clear hF F) | (with_reducible refine Ev.u_step ?_) | ((refine Ev.call_own (starts_ok ht hv) rfl (by simp) ⟨rfl, trivial⟩ ?_); conv => whnf) | (refine Ev.Side.of ?_; exact Nat.le_of_ble_eq_true rfl))
    rw [hv]; exact ⟨rfl, rfl⟩
  · refine Ev.func tabOK [0, 2, 4] 0 Tryd.func71 rfl rfl (by simp [Tryd.ntmps71]) (by rfl) (comp71 _ rfl) (rs := [.tmp 2]) rfl ?_; rw [cc71]; show Ev.Wp _ _ _ _ ⟨[(0, _)], [], 0⟩
    repeat' (first | ((with_reducible refine Ev.sided ?_ ?_); (conv => whnf)) | ((with_reducible refine Ev.w_put ?_); (conv => whnf)) | ((with_reducible refine Ev.w_step ?_); (conv => whnf)) | ((with_reducible refine Ev.w_opt ?_); (conv => whnf)) | ((with_reducible refine Ev.chk_k ?_ ?_); rotate_left; (focus first | rfl | (simp only [Ev.nbeq, Bool.and_true, Bool.true_and, Bool.not_false]; done) | ((repeat' (first | exact Ev.nbeq _ | rfl | refine Bool.and_eq_true_iff.2 ⟨?_, ?_⟩)); done)); conv => whnf) | with_reducible refine Ev.c_dec (fun _ => ?_) (fun _ => ?_) | with_reducible refine Ev.c_not ?_ | with_reducible refine Ev.c_t ?_ | with_reducible refine Ev.c_f ?_ | with_reducible refine Ev.c_br (fun _ => ?_) (fun _ => ?_) | ((with_reducible refine Ev.br_not ?_); conv => whnf) | with_reducible refine Ev.br_dec (fun _ => ?_) (fun _ => ?_) | with_reducible refine Ev.br (fun _ => ?_) (fun _ => ?_) | with_reducible refine Ev.eo_ret ?_ | with_reducible refine Ev.eo_norm ?_ | with_reducible refine Ev.t_norm ?_ | with_reducible refine Ev.k_seq ?_ | ((with_reducible refine Ev.k_reg (hs := []) (tabOK' _ _) (fun Q hQ => ?_)); (simp only [Ev.runE_cons, Ev.runE_nil]); conv => whnf) | (with_reducible refine hQ _ ?_; clear hQ Q) | with_reducible refine Ev.k_cond rfl ?_ | with_reducible refine Ev.k_skip ?_ | with_reducible refine Ev.k_block ?_ | with_reducible refine Ev.k_exit ?_ | with_reducible refine Ev.k_ret ?_ | with_reducible refine Ev.t_ret ?_ | with_reducible refine Ev.t_exit ?_ | with_reducible refine Ev.b_norm ?_ | with_reducible refine Ev.b_ret ?_ | with_reducible refine Ev.b_here ?_ | with_reducible refine Ev.b_off rfl ?_ | with_reducible refine Ev.k_label ?_ | with_reducible refine Ev.k_goto ?_ | with_reducible refine Ev.t_goto ?_ | with_reducible refine Ev.b_goto ?_ | with_reducible refine Ev.j_goto ?_ | with_reducible refine Ev.j_norm ?_ | with_reducible refine Ev.j_ret ?_ | with_reducible refine Ev.j_exit ?_ | with_reducible refine Ev.n_norm ?_ | with_reducible refine Ev.n_ret ?_ | with_reducible refine Ev.n_exit ?_ | ((with_reducible refine Ev.e_ret (fun F hF => ?_)); conv => whnf) | ((with_reducible refine Ev.e_norm (fun F hF => ?_)); conv => whnf) | ((with_reducible refine Ev.eh_ret (fun F hF => ?_)); conv => whnf) | ((with_reducible refine Ev.eh_norm (fun F hF => ?_)); conv => whnf) | ((with_reducible refine Ev.go_k (fun c' => ?_)); conv => whnf) | ((with_reducible refine Ev.byt_cut ?_); conv => whnf) | ((with_reducible refine Ev.byt_all ?_); conv => whnf) | ((with_reducible refine Ev.run_cut ?_); conv => whnf) | ((with_reducible refine Ev.run_all ?_); conv => whnf) | (with_reducible refine hF _ ?_; clear hF F) | (with_reducible refine Ev.u_step ?_) | ((refine Ev.call_det (starts_no ht hv) rfl rfl ?_); conv => whnf) | (refine Ev.Side.of ?_; exact Nat.le_of_ble_eq_true rfl))
    rw [Bool.eq_false_iff.2 hv]; exact ⟨rfl, rfl⟩
def countD (l : List UInt8) : Int := if validD l then (posD l 0).length else -1
theorem rcount_call (t : ByteArray) (ht : t.size ≤ 1000000000) : CallW env 65 [.v (.string t)] (fun r hs => r = .v (.int .i64 (countD t.data.toList)) ∧ hs = []) := by
  by_cases hv : validD t.data.toList = true
  · refine Ev.func tabOK [0, 2, 3] 0 Tryd.func65 rfl rfl (by simp [Tryd.ntmps65]) (by rfl) (comp65 _ rfl) (rs := [.tmp 2]) rfl ?_; rw [cc65]; show Ev.Wp _ _ _ _ ⟨[(0, _)], [], 0⟩
    repeat' (first | ((with_reducible refine Ev.sided ?_ ?_); (conv => whnf)) | ((with_reducible refine Ev.w_put ?_); (conv => whnf)) | ((with_reducible refine Ev.w_step ?_); (conv => whnf)) | ((with_reducible refine Ev.w_opt ?_); (conv => whnf)) | ((with_reducible refine Ev.chk_k ?_ ?_); rotate_left; (focus first | rfl | (simp only [Ev.nbeq, Bool.and_true, Bool.true_and, Bool.not_false]; done) | ((repeat' (first | exact Ev.nbeq _ | rfl | refine Bool.and_eq_true_iff.2 ⟨?_, ?_⟩)); done)); conv => whnf) | with_reducible refine Ev.c_dec (fun _ => ?_) (fun _ => ?_) | with_reducible refine Ev.c_not ?_ | with_reducible refine Ev.c_t ?_ | with_reducible refine Ev.c_f ?_ | with_reducible refine Ev.c_br (fun _ => ?_) (fun _ => ?_) | ((with_reducible refine Ev.br_not ?_); conv => whnf) | with_reducible refine Ev.br_dec (fun _ => ?_) (fun _ => ?_) | with_reducible refine Ev.br (fun _ => ?_) (fun _ => ?_) | with_reducible refine Ev.eo_ret ?_ | with_reducible refine Ev.eo_norm ?_ | with_reducible refine Ev.t_norm ?_ | with_reducible refine Ev.k_seq ?_ | ((with_reducible refine Ev.k_reg (hs := []) (tabOK' _ _) (fun Q hQ => ?_)); (simp only [Ev.runE_cons, Ev.runE_nil]); conv => whnf) | (with_reducible refine hQ _ ?_; clear hQ Q) | with_reducible refine Ev.k_cond rfl ?_ | with_reducible refine Ev.k_skip ?_ | with_reducible refine Ev.k_block ?_ | with_reducible refine Ev.k_exit ?_ | with_reducible refine Ev.k_ret ?_ | with_reducible refine Ev.t_ret ?_ | with_reducible refine Ev.t_exit ?_ | with_reducible refine Ev.b_norm ?_ | with_reducible refine Ev.b_ret ?_ | with_reducible refine Ev.b_here ?_ | with_reducible refine Ev.b_off rfl ?_ | with_reducible refine Ev.k_label ?_ | with_reducible refine Ev.k_goto ?_ | with_reducible refine Ev.t_goto ?_ | with_reducible refine Ev.b_goto ?_ | with_reducible refine Ev.j_goto ?_ | with_reducible refine Ev.j_norm ?_ | with_reducible refine Ev.j_ret ?_ | with_reducible refine Ev.j_exit ?_ | with_reducible refine Ev.n_norm ?_ | with_reducible refine Ev.n_ret ?_ | with_reducible refine Ev.n_exit ?_ | ((with_reducible refine Ev.e_ret (fun F hF => ?_)); conv => whnf) | ((with_reducible refine Ev.e_norm (fun F hF => ?_)); conv => whnf) | ((with_reducible refine Ev.eh_ret (fun F hF => ?_)); conv => whnf) | ((with_reducible refine Ev.eh_norm (fun F hF => ?_)); conv => whnf) | ((with_reducible refine Ev.go_k (fun c' => ?_)); conv => whnf) | ((with_reducible refine Ev.byt_cut ?_); conv => whnf) | ((with_reducible refine Ev.byt_all ?_); conv => whnf) | ((with_reducible refine Ev.run_cut ?_); conv => whnf) | ((with_reducible refine Ev.run_all ?_); conv => whnf) | (with_reducible refine hF _ ?_; clear hF F) | (with_reducible refine Ev.u_step ?_) | ((refine Ev.call_own (starts_ok ht hv) rfl (by simp) ⟨rfl, trivial⟩ ?_); conv => whnf) | (refine Ev.Side.of ?_; exact Nat.le_of_ble_eq_true rfl))
    refine ⟨congrArg (fun z => AV.v (Value.int IntKind.i64 z)) ?_, rfl⟩
    have := posD_len t.data.toList 0
    rw [len_list] at this
    unfold countD; rw [if_pos hv, Ev.wrap64]; omega
  · refine Ev.func tabOK [0, 2, 3] 0 Tryd.func65 rfl rfl (by simp [Tryd.ntmps65]) (by rfl) (comp65 _ rfl) (rs := [.tmp 2]) rfl ?_; rw [cc65]; show Ev.Wp _ _ _ _ ⟨[(0, _)], [], 0⟩
    repeat' (first | ((with_reducible refine Ev.sided ?_ ?_); (conv => whnf)) | ((with_reducible refine Ev.w_put ?_); (conv => whnf)) | ((with_reducible refine Ev.w_step ?_); (conv => whnf)) | ((with_reducible refine Ev.w_opt ?_); (conv => whnf)) | ((with_reducible refine Ev.chk_k ?_ ?_); rotate_left; (focus first | rfl | (simp only [Ev.nbeq, Bool.and_true, Bool.true_and, Bool.not_false]; done) | ((repeat' (first | exact Ev.nbeq _ | rfl | refine Bool.and_eq_true_iff.2 ⟨?_, ?_⟩)); done)); conv => whnf) | with_reducible refine Ev.c_dec (fun _ => ?_) (fun _ => ?_) | with_reducible refine Ev.c_not ?_ | with_reducible refine Ev.c_t ?_ | with_reducible refine Ev.c_f ?_ | with_reducible refine Ev.c_br (fun _ => ?_) (fun _ => ?_) | ((with_reducible refine Ev.br_not ?_); conv => whnf) | with_reducible refine Ev.br_dec (fun _ => ?_) (fun _ => ?_) | with_reducible refine Ev.br (fun _ => ?_) (fun _ => ?_) | with_reducible refine Ev.eo_ret ?_ | with_reducible refine Ev.eo_norm ?_ | with_reducible refine Ev.t_norm ?_ | with_reducible refine Ev.k_seq ?_ | ((with_reducible refine Ev.k_reg (hs := []) (tabOK' _ _) (fun Q hQ => ?_)); (simp only [Ev.runE_cons, Ev.runE_nil]); conv => whnf) | (with_reducible refine hQ _ ?_; clear hQ Q) | with_reducible refine Ev.k_cond rfl ?_ | with_reducible refine Ev.k_skip ?_ | with_reducible refine Ev.k_block ?_ | with_reducible refine Ev.k_exit ?_ | with_reducible refine Ev.k_ret ?_ | with_reducible refine Ev.t_ret ?_ | with_reducible refine Ev.t_exit ?_ | with_reducible refine Ev.b_norm ?_ | with_reducible refine Ev.b_ret ?_ | with_reducible refine Ev.b_here ?_ | with_reducible refine Ev.b_off rfl ?_ | with_reducible refine Ev.k_label ?_ | with_reducible refine Ev.k_goto ?_ | with_reducible refine Ev.t_goto ?_ | with_reducible refine Ev.b_goto ?_ | with_reducible refine Ev.j_goto ?_ | with_reducible refine Ev.j_norm ?_ | with_reducible refine Ev.j_ret ?_ | with_reducible refine Ev.j_exit ?_ | with_reducible refine Ev.n_norm ?_ | with_reducible refine Ev.n_ret ?_ | with_reducible refine Ev.n_exit ?_ | ((with_reducible refine Ev.e_ret (fun F hF => ?_)); conv => whnf) | ((with_reducible refine Ev.e_norm (fun F hF => ?_)); conv => whnf) | ((with_reducible refine Ev.eh_ret (fun F hF => ?_)); conv => whnf) | ((with_reducible refine Ev.eh_norm (fun F hF => ?_)); conv => whnf) | ((with_reducible refine Ev.go_k (fun c' => ?_)); conv => whnf) | ((with_reducible refine Ev.byt_cut ?_); conv => whnf) | ((with_reducible refine Ev.byt_all ?_); conv => whnf) | ((with_reducible refine Ev.run_cut ?_); conv => whnf) | ((with_reducible refine Ev.run_all ?_); conv => whnf) | (with_reducible refine hF _ ?_; clear hF F) | (with_reducible refine Ev.u_step ?_) | ((refine Ev.call_det (starts_no ht hv) rfl rfl ?_); conv => whnf) | (refine Ev.Side.of ?_; exact Nat.le_of_ble_eq_true rfl))
    refine ⟨congrArg (fun z => AV.v (Value.int IntKind.i64 z)) ?_, rfl⟩
    unfold countD; rw [if_neg hv, Ev.wrap64]; rfl
end Go.Proofs.YthdjbgbfboppcaaDoor.Abs

/- Contracts that the library's shelf gives, told as ours. -/
namespace Go.Proofs.YthdjbgbfboppcaaDoor.Abs
open Go
set_option maxRecDepth 100000
set_option linter.unusedSimpArgs false
set_option linter.unusedVariables false
attribute [local irreducible] Ev.Unr Ev.Go' Ev.bytK Ev.runK Ev.FinL Ev.brC Ev.Side Ev.Wp Ev.Again Ev.To Ev.Fin
open Go.Lib Go.RowKit
theorem heap_lt {w : World} {b o : Nat} {u : Value} (h : w.cell? ⟨b, o, none⟩ = some u) : b < w.heap.size := by
  unfold World.cell? at h
  rcases Nat.lt_or_ge b w.heap.size with h' | h'
  · exact h'
  · simp [Array.getElem?_eq_none h'] at h
theorem scal {f : FuncId} {x y : Value} (h : ∀ w : World, (∀ g cs j z, env.G g = some cs → cs[j]? = some (.v z) → w.cell? ⟨g, j, none⟩ = some z) →
    (callFunc f #[x]).run env.P w = .ok (.enter f #[x]) w ∧ Calls env.P f #[x] w fun e w' => e = .returned y ∧ Below w.heap.size w w') : CallW env f [.v x] (fun r hs => r = .v y ∧ hs = []) := by
  intro M w vs hm hg hn hr
  have hv : vs = #[x] := by
    apply Array.ext_getElem?
    intro i
    rcases Nat.lt_or_ge i vs.size with hi | hi
    · have : i = 0 := by simp at hn; omega
      subst this
      have := hr 0 (.v x) vs[0] rfl (Array.getElem?_eq_getElem hi)
      cases this
      rw [Array.getElem?_eq_getElem hi]; rfl
    · rw [Array.getElem?_eq_none hi, Array.getElem?_eq_none (by simp at hn ⊢; omega)]
  subst hv
  obtain ⟨a, b⟩ := h w (fun g cs j z h1 h2 => by
    have hp := hg g cs h1
    cases hp with
    | rptr u hM hc =>
      have hz := hc j _ h2
      have h3 := hM j _ h2
      rw [Nat.zero_add] at h3
      rw [(hm _ _ _ h3).1]
      cases hz; rfl)
  refine ⟨a, b.mono ?_⟩
  rintro e w' ⟨rfl, hb⟩
  refine ⟨y, _, [], M, fun _ => none, rfl, ⟨rfl, rfl⟩, ⟨hb, fun b o u hu => ?_, fun _ _ _ h => .inl h, fun _ _ _ h => h, hg, fun t x h => by simp [get_nil] at h, fun r k h => by simp [heapOf, get_nil] at h,
    fun r r' k k' L L' h => by simp [heapOf, get_nil] at h, fun r k L o u h => by simp [heapOf, get_nil] at h, fun r L h => by simp at h, fun r L h => h⟩, .pure (.v _)⟩
  obtain ⟨h1, h2⟩ := hm b o u hu
  exact ⟨by rw [hb.cell (heap_lt h1)]; exact h1, h2⟩
end Go.Proofs.YthdjbgbfboppcaaDoor.Abs

/- The program's texts: valid ones, and how many code points. -/
namespace Go.Proofs.YthdjbgbfboppcaaDoor.Abs
open Go
set_option maxRecDepth 100000
set_option linter.unusedSimpArgs false
set_option linter.unusedVariables false
attribute [local irreducible] Ev.Unr Ev.Go' Ev.bytK Ev.runK Ev.FinL Ev.brC Ev.Side Ev.Wp Ev.Again Ev.To Ev.Fin
open Go.Lib Go.RowKit Go.Shelf
def validLay_ren : Go.Shelf.Ren := ⟨fun | 196 => 77 | 259 => 110 | n => n, fun | 9 => 9 | 4 => 4 | 3 => 3 | 5 => 5 | 12 => 12 | 119 => 120 | 0 => 0 | 46 => 107 | 139 => 123 | 138 => 122 | 53 => 140 | n => n, fun | 3 => 0 | 4 => 1 | n => n⟩
theorem validLay : Lays.n196 Tryd.prog validLay_ren :=
  { mixed := by kernel_rfl,
    f196 := Tryd.func77.trans (congrArg some (by kernel_rfl)),
    f259 := Tryd.func110.trans (congrArg some (by kernel_rfl)),
    t0 := Tryd.underlying0,
    a0 := Tryd.isAgg0,
    z0 := Tryd.sizeOf0,
    v0 := Tryd.zeroValue0,
    t3 := Tryd.underlying3,
    a3 := Tryd.isAgg3,
    z3 := Tryd.sizeOf3,
    v3 := Tryd.zeroValue3,
    t4 := Tryd.underlying4,
    a4 := Tryd.isAgg4,
    z4 := Tryd.sizeOf4,
    v4 := Tryd.zeroValue4,
    t5 := Tryd.underlying5,
    a5 := Tryd.isAgg5,
    z5 := Tryd.sizeOf5,
    v5 := Tryd.zeroValue5,
    t9 := Tryd.underlying9,
    a9 := Tryd.isAgg9,
    z9 := Tryd.sizeOf9,
    v9 := Tryd.zeroValue9,
    t12 := Tryd.underlying12,
    a12 := Tryd.isAgg12,
    z12 := Tryd.sizeOf12,
    v12 := Tryd.zeroValue12,
    t46 := Tryd.underlying107,
    a46 := Tryd.isAgg107,
    z46 := Tryd.sizeOf107,
    v46 := Tryd.zeroValue107,
    t53 := Tryd.underlying140,
    a53 := Tryd.isAgg140,
    z53 := Tryd.sizeOf140,
    v53 := Tryd.zeroValue140,
    t119 := Tryd.underlying120,
    a119 := Tryd.isAgg120,
    z119 := Tryd.sizeOf120,
    t138 := Tryd.underlying122,
    a138 := Tryd.isAgg122,
    z138 := Tryd.sizeOf122,
    v138 := Tryd.zeroValue122,
    t139 := Tryd.underlying123,
    a139 := Tryd.isAgg123,
    z139 := Tryd.sizeOf123,
    v139 := Tryd.zeroValue123,
    g3 := by kernel_rfl,
    g4 := by kernel_rfl }

theorem utf8_call (t : ByteArray) (ht : t.size ≤ 1000000000) : CallW env 77 [.v (.string t)] (fun r hs => r = .v (.bool (validD t.data.toList)) ∧ hs = []) := by
  refine scal fun w hw => ⟨?_, ?_⟩
  · exact run_callFunc Tryd.func77 rfl rfl w
  · have hT : Lib.Utf8Tabs 0 1 w := by
      refine ⟨fun c hc => ?_, fun i hi => ⟨?_, ?_⟩⟩
      · exact hw 0 glob0 c _ rfl (by simp [glob0, hc])
      · exact hw 1 glob1 (2 * i) _ rfl (by have : i = 0 ∨ i = 1 ∨ i = 2 ∨ i = 3 ∨ i = 4 ∨ i = 5 ∨ i = 6 ∨ i = 7 ∨ i = 8 ∨ i = 9 ∨ i = 10 ∨ i = 11 ∨ i = 12 ∨ i = 13 ∨ i = 14 ∨ i = 15 := by omega
                                           rcases this with rfl | rfl | rfl | rfl | rfl | rfl | rfl | rfl | rfl | rfl | rfl | rfl | rfl | rfl | rfl | rfl <;> rfl)
      · exact hw 1 glob1 (2 * i + 1) _ rfl (by have : i = 0 ∨ i = 1 ∨ i = 2 ∨ i = 3 ∨ i = 4 ∨ i = 5 ∨ i = 6 ∨ i = 7 ∨ i = 8 ∨ i = 9 ∨ i = 10 ∨ i = 11 ∨ i = 12 ∨ i = 13 ∨ i = 14 ∨ i = 15 := by omega
                                               rcases this with rfl | rfl | rfl | rfl | rfl | rfl | rfl | rfl | rfl | rfl | rfl | rfl | rfl | rfl | rfl | rfl <;> rfl)
    exact Any.utf8_ValidString validLay t w (by omega) hT
def cc38 : CC := (.seq (.reg 0 [⟨0, some 2, (.assign (.const (Value.bool false))), none⟩]) (.seq (.reg 1 [⟨0, some 3, (.move (.tmp 0)), none⟩, ⟨1, some 4, (.call { callee := .value (.func 77), args := #[.tmp 3], argTypes := #[9] }), none⟩, ⟨2, some 2, (.assign (.tmp 4)), none⟩]) .ret))
theorem comp38 : ∀ c, Tryd.f38.body = some c → comp c = cc38 := by
  intro c h
  have : c = Tryd.f38.body.get rfl := by rw [← Option.some_inj, ← h]; rfl
  rw [this]; rfl
theorem pvalid_call (t : ByteArray) (ht : t.size ≤ 1000000000) : CallW env 38 [.v (.string t)] (fun r hs => r = .v (.bool (validD t.data.toList)) ∧ hs = []) := by
  refine Ev.func tabOK [0, 2] 0 Tryd.func38 rfl rfl (by simp [Tryd.ntmps38]) (by rfl) (comp38 _ rfl) (rs := [.tmp 2]) rfl ?_; rw [cc38]; show Ev.Wp _ _ _ _ ⟨[(0, _)], [], 0⟩
  repeat' (first | ((with_reducible refine Ev.sided ?_ ?_); (conv => whnf)) | ((with_reducible refine Ev.w_put ?_); (conv => whnf)) | ((with_reducible refine Ev.w_step ?_); (conv => whnf)) | ((with_reducible refine Ev.w_opt ?_); (conv => whnf)) | ((with_reducible refine Ev.chk_k ?_ ?_); rotate_left; (focus first | rfl | (simp only [Ev.nbeq, Bool.and_true, Bool.true_and, Bool.not_false]; done) | ((repeat' (first | exact Ev.nbeq _ | rfl | refine Bool.and_eq_true_iff.2 ⟨?_, ?_⟩)); done)); conv => whnf) | with_reducible refine Ev.c_dec (fun _ => ?_) (fun _ => ?_) | with_reducible refine Ev.c_not ?_ | with_reducible refine Ev.c_t ?_ | with_reducible refine Ev.c_f ?_ | with_reducible refine Ev.c_br (fun _ => ?_) (fun _ => ?_) | ((with_reducible refine Ev.br_not ?_); conv => whnf) | with_reducible refine Ev.br_dec (fun _ => ?_) (fun _ => ?_) | with_reducible refine Ev.br (fun _ => ?_) (fun _ => ?_) | with_reducible refine Ev.eo_ret ?_ | with_reducible refine Ev.eo_norm ?_ | with_reducible refine Ev.t_norm ?_ | with_reducible refine Ev.k_seq ?_ | ((with_reducible refine Ev.k_reg (hs := []) (tabOK' _ _) (fun Q hQ => ?_)); (simp only [Ev.runE_cons, Ev.runE_nil]); conv => whnf) | (with_reducible refine hQ _ ?_; clear hQ Q) | with_reducible refine Ev.k_cond rfl ?_ | with_reducible refine Ev.k_skip ?_ | with_reducible refine Ev.k_block ?_ | with_reducible refine Ev.k_exit ?_ | with_reducible refine Ev.k_ret ?_ | with_reducible refine Ev.t_ret ?_ | with_reducible refine Ev.t_exit ?_ | with_reducible refine Ev.b_norm ?_ | with_reducible refine Ev.b_ret ?_ | with_reducible refine Ev.b_here ?_ | with_reducible refine Ev.b_off rfl ?_ | with_reducible refine Ev.k_label ?_ | with_reducible refine Ev.k_goto ?_ | with_reducible refine Ev.t_goto ?_ | with_reducible refine Ev.b_goto ?_ | with_reducible refine Ev.j_goto ?_ | with_reducible refine Ev.j_norm ?_ | with_reducible refine Ev.j_ret ?_ | with_reducible refine Ev.j_exit ?_ | with_reducible refine Ev.n_norm ?_ | with_reducible refine Ev.n_ret ?_ | with_reducible refine Ev.n_exit ?_ | ((with_reducible refine Ev.e_ret (fun F hF => ?_)); conv => whnf) | ((with_reducible refine Ev.e_norm (fun F hF => ?_)); conv => whnf) | ((with_reducible refine Ev.eh_ret (fun F hF => ?_)); conv => whnf) | ((with_reducible refine Ev.eh_norm (fun F hF => ?_)); conv => whnf) | ((with_reducible refine Ev.go_k (fun c' => ?_)); conv => whnf) | ((with_reducible refine Ev.byt_cut ?_); conv => whnf) | ((with_reducible refine Ev.byt_all ?_); conv => whnf) | ((with_reducible refine Ev.run_cut ?_); conv => whnf) | ((with_reducible refine Ev.run_all ?_); conv => whnf) | (with_reducible refine hF _ ?_; clear hF F) | (with_reducible refine Ev.u_step ?_) | ((refine Ev.call_det (utf8_call t ht) rfl rfl ?_); conv => whnf) | (refine Ev.Side.of ?_; exact Nat.le_of_ble_eq_true rfl))
  exact ⟨rfl, rfl⟩
theorem unscal {f : FuncId} {x y : Value} (h : CallW env f [.v x] (fun r hs => r = .v y ∧ hs = [])) (w : World) (h1 : ∀ g cs j z, env.G g = some cs → cs[j]? = some (.v z) → w.cell? ⟨g, j, none⟩ = some z ∧ z.oneCell' = true)
    (h2 : ∀ g cs c, env.G g = some cs → c ∈ cs → ∃ z, c = .v z) : Calls env.P f #[x] w fun e w' => e = .returned y ∧ Below w.heap.size w w' := by
  have hA : ∀ (b o : Nat) (u : Value), (match env.G b with | some cs => (match cs[o]? with | some (AV.v z) => some z | _ => none) | none => none) = some u → w.cell? ⟨b, o, none⟩ = some u ∧ u.oneCell' = true := by
    intro b o u hu
    split at hu
    · rename_i cs hcs
      split at hu
      · rename_i z hz
        obtain rfl := Option.some.inj hu
        exact h1 _ _ _ _ hcs hz
      · cases hu
    · cases hu
  have hB : ∀ g cs, env.G g = some cs → PRel (fun (b o : Nat) => match env.G b with | some cs => (match cs[o]? with | some (AV.v z) => some z | _ => none) | none => none) (.rptr cs) (.pointer (some ⟨g, 0, none⟩)) := by
    intro g cs hg
    refine .rptr (fun j => match cs[j]? with | some (.v z) => z | _ => x) (fun j c hc => ?_) (fun j c hc => ?_)
    · obtain ⟨z, rfl⟩ := h2 g cs c hg (List.mem_of_getElem? hc)
      simp only [hg, Nat.zero_add, hc]
    · obtain ⟨z, rfl⟩ := h2 g cs c hg (List.mem_of_getElem? hc)
      simp only [hc]; exact .v _
  have hC : ∀ (i : Nat) (a : AV) (v : Value), [AV.v x][i]? = some a → #[x][i]? = some v → PRel (fun (b o : Nat) => match env.G b with | some cs => (match cs[o]? with | some (AV.v z) => some z | _ => none) | none => none) a v := by
    intro i a v ha hv
    cases i with
    | zero => simp at ha hv; subst ha; subst hv; exact .v _
    | succ i => simp at ha
  obtain ⟨_, b⟩ := h _ w #[x] hA hB rfl hC
  refine b.mono ?_
  rintro e w' ⟨v, r, hs, M', J', rfl, ⟨rfl, rfl⟩, inv, hr⟩
  have := hr.v_inv
  subst this
  exact ⟨rfl, inv.below⟩
theorem glob_v (g : Nat) (cs : List AV) (c : AV) (h : env.G g = some cs) (hc : c ∈ cs) : ∃ z, c = .v z ∧ z.oneCell' = true := by
  have h : envG g = some cs := h
  unfold envG at h
  split at h <;> first | (cases h; done) | skip
  all_goals (obtain rfl := Option.some.inj h)
  · simp [glob2] at hc; rcases hc with rfl | rfl | rfl | rfl | rfl <;> exact ⟨_, rfl, rfl⟩
  · simp only [glob0, List.mem_map] at hc; obtain ⟨a, _, rfl⟩ := hc; exact ⟨_, rfl, rfl⟩
  · simp only [glob1, List.mem_flatMap] at hc; obtain ⟨a, _, hc⟩ := hc; simp at hc; rcases hc with rfl | rfl <;> exact ⟨_, rfl, rfl⟩
set_option maxRecDepth 1000000 in
theorem count_walk (t : ByteArray) (ht : t.size ≤ 1000000000) (w : World) (hw : ∀ g cs j z, env.G g = some cs → cs[j]? = some (.v z) → w.cell? ⟨g, j, none⟩ = some z) :
    Calls Tryd.prog 36 #[.string t] w fun e w' => e = .returned (.int .i64 (countD t.data.toList)) ∧ Below w.heap.size w w' := by
  have cV : Calls Tryd.prog 38 #[.string t] w fun e w' => e = .returned (.bool (validD t.data.toList)) ∧ Below w.heap.size w w' :=
    unscal (pvalid_call t ht) w (fun g cs j z a b => ⟨hw g cs j z a b, by obtain ⟨z', e, h⟩ := glob_v g cs _ a (List.mem_of_getElem? b); cases e; exact h⟩) (fun g cs c a b => let ⟨z, e, _⟩ := glob_v g cs c a b; ⟨z, e⟩)
  by_cases hv : validD t.data.toList = true
  · rw [hv] at cV
    have hcd : countD t.data.toList = (posD t.data.toList 0).length := by unfold countD; rw [if_pos hv]
    rw [hcd]
    go_enter Tryd.func36, Tryd.ntmps36
    go_wp2_with (go_at_call 38; refine cV.mono ?_; rintro e w1 ⟨rfl, hb⟩)
    go_loopw [3] (fun n w' => ∃ (pos : Nat) (acc : Nat), w' = w1.iter t pos ∧ n = .int .i64 (acc : Int) ∧ acc + (posD (t.data.toList.drop pos) pos).length = (posD t.data.toList 0).length ∧ acc ≤ pos) (fun _ w' => t.size - w'.iterPos w1.heap.size)
    case atStart => exact ⟨0, 0, rfl, rfl, by simp, by omega⟩
    case round =>
      obtain ⟨pos, acc, rfl, rfl, hc, hb'⟩ := hrel
      by_cases hp : pos < t.size
      · have hnx : ∀ ty, (Instr.next (.pointer (some ⟨w1.heap.size, 0, none⟩)) true ty).run Tryd.prog (w1.iter t pos) = _ := fun ty => run_next_any w1 t pos ty hp
        go_wp2
        have hne : t.data.toList.drop pos ≠ [] := by intro e; have := congrArg List.length e; rw [List.length_drop, len_list] at this; simp at this; omega
        have hwd := decodeL_width (t.data.toList.drop pos)
        rw [posD_step hne, List.drop_drop, decodeL_drop] at hc
        rw [decodeL_drop] at hwd
        refine ⟨⟨pos + (Utf8.decode t pos).2, acc + 1, rfl, rfl, ?_, by omega⟩, ?_⟩
        · rw [← hc, List.length_cons]
          simp only [Int.natCast_add]
          omega
        · simp
          omega
      · have hnx : ∀ ty, (Instr.next (.pointer (some ⟨w1.heap.size, 0, none⟩)) true ty).run Tryd.prog (w1.iter t pos) = _ := fun ty => run_next_end w1 t pos ty hp
        go_wp2
        go_ret
        have en : t.data.toList.drop pos = [] := by apply List.drop_of_length_le; rw [len_list]; omega
        rw [en, posD_nil, List.length_nil, Nat.add_zero] at hc
        rw [hc]
        exact ⟨rfl, hb.alloc hb.size _⟩
  · rw [Bool.eq_false_iff.2 hv] at cV
    have hcd : countD t.data.toList = -1 := by unfold countD; rw [if_neg hv]
    rw [hcd]
    go_enter Tryd.func36, Tryd.ntmps36
    go_wp2_with (go_at_call 38; refine cV.mono ?_; rintro e w1 ⟨rfl, hb⟩)
    go_ret
    exact ⟨rfl, hb⟩
theorem pcount_call (t : ByteArray) (ht : t.size ≤ 1000000000) : CallW env 36 [.v (.string t)] (fun r hs => r = .v (.int .i64 (countD t.data.toList)) ∧ hs = []) :=
  scal fun w hw => ⟨run_callFunc Tryd.func36 rfl rfl w, count_walk t ht w hw⟩
end Go.Proofs.YthdjbgbfboppcaaDoor.Abs
