/- A part of the proof: a calculus over values, and contracts of functions. No condition. -/
import Derived.Test.YtdgpilapblipbaaDoorZ1
import Derived.Test.YtdgpilapblipbaaDoorProg
import Derived.Lib.DecodeN
import Derived.Lib.ValidU
import Derived.Lib.MapLaws
import Derived.Shelf.Unicode.ValidAny
import Derived.WalkKit
import Derived.Laws.RangeString
import Derived.Laws.Strings
import Derived.Laws.RangeAny
/- The types' facts, as the calculus asks for them. -/
namespace Go.Proofs.YtdgpilapblipbaaDoor.Abs
open Go
theorem ti_0 : ti Tryd.prog 0 = some (some (Value.tuple #[]), 1, 0) := by rfl
theorem tsz_0 : tsz Tryd.prog 0 = some (false, 1) := by rfl
theorem kindOf_0 : kindOf Tryd.prog 0 = some TK.other := by rfl
theorem ti_1 : ti Tryd.prog 1 = some (some Value.nilFunc, 1, 8) := by rfl
theorem tsz_1 : tsz Tryd.prog 1 = some (false, 1) := by rfl
theorem kindOf_1 : kindOf Tryd.prog 1 = some TK.other := by rfl
theorem ti_2 : ti Tryd.prog 2 = some (some (Value.int IntKind.i64 0), 1, 8) := by rfl
theorem tsz_2 : tsz Tryd.prog 2 = some (false, 1) := by rfl
theorem kindOf_2 : kindOf Tryd.prog 2 = some (TK.int IntKind.i64) := by rfl
theorem ti_3 : ti Tryd.prog 3 = some (some (Value.int IntKind.i64 0), 1, 8) := by rfl
theorem tsz_3 : tsz Tryd.prog 3 = some (false, 1) := by rfl
theorem kindOf_3 : kindOf Tryd.prog 3 = some (TK.int IntKind.i64) := by rfl
theorem ti_4 : ti Tryd.prog 4 = some (some (Value.bool false), 1, 1) := by rfl
theorem tsz_4 : tsz Tryd.prog 4 = some (false, 1) := by rfl
theorem kindOf_4 : kindOf Tryd.prog 4 = some TK.bool := by rfl
theorem ti_5 : ti Tryd.prog 5 = some (some (Value.int IntKind.u8 0), 1, 1) := by rfl
theorem tsz_5 : tsz Tryd.prog 5 = some (false, 1) := by rfl
theorem kindOf_5 : kindOf Tryd.prog 5 = some (TK.int IntKind.u8) := by rfl
theorem ti_6 : ti Tryd.prog 6 = some (some (Value.int IntKind.u8 0), 1, 1) := by rfl
theorem tsz_6 : tsz Tryd.prog 6 = some (false, 1) := by rfl
theorem kindOf_6 : kindOf Tryd.prog 6 = some (TK.int IntKind.u8) := by rfl
theorem ti_7 : ti Tryd.prog 7 = some (some (Value.agg #[Value.int IntKind.i64 0, Value.int IntKind.i64 0, Value.bool false, Value.int IntKind.u8 0]), 4, 24) := by rfl
theorem tsz_7 : tsz Tryd.prog 7 = some (true, 4) := by rfl
theorem lay_7 : lay Tryd.prog 7 = some ([AV.v (Value.int IntKind.i64 0), AV.v (Value.int IntKind.i64 0), AV.v (Value.bool false), AV.v (Value.int IntKind.u8 0)], [(0, 1), (1, 1), (2, 1), (3, 1)]) := by rfl
theorem kindOf_7 : kindOf Tryd.prog 7 = some TK.other := by rfl
theorem fld_7_0 : fld Tryd.prog 7 0 = some (0, 2, 1) := by rfl
theorem fld_7_1 : fld Tryd.prog 7 1 = some (1, 3, 1) := by rfl
theorem fld_7_2 : fld Tryd.prog 7 2 = some (2, 4, 1) := by rfl
theorem fld_7_3 : fld Tryd.prog 7 3 = some (3, 6, 1) := by rfl
theorem ti_8 : ti Tryd.prog 8 = some (some (Value.agg #[Value.int IntKind.i64 0, Value.int IntKind.i64 0, Value.bool false, Value.int IntKind.u8 0]), 4, 24) := by rfl
theorem tsz_8 : tsz Tryd.prog 8 = some (true, 4) := by rfl
theorem lay_8 : lay Tryd.prog 8 = some ([AV.v (Value.int IntKind.i64 0), AV.v (Value.int IntKind.i64 0), AV.v (Value.bool false), AV.v (Value.int IntKind.u8 0)], [(0, 1), (1, 1), (2, 1), (3, 1)]) := by rfl
theorem kindOf_8 : kindOf Tryd.prog 8 = some TK.other := by rfl
theorem fld_8_0 : fld Tryd.prog 8 0 = some (0, 2, 1) := by rfl
theorem fld_8_1 : fld Tryd.prog 8 1 = some (1, 3, 1) := by rfl
theorem fld_8_2 : fld Tryd.prog 8 2 = some (2, 4, 1) := by rfl
theorem fld_8_3 : fld Tryd.prog 8 3 = some (3, 6, 1) := by rfl
theorem ti_9 : ti Tryd.prog 9 = some (some (Value.string (⟨#[]⟩ : ByteArray)), 1, 16) := by rfl
theorem tsz_9 : tsz Tryd.prog 9 = some (false, 1) := by rfl
theorem kindOf_9 : kindOf Tryd.prog 9 = some TK.str := by rfl
theorem ti_10 : ti Tryd.prog 10 = some (some (Value.string (⟨#[]⟩ : ByteArray)), 1, 16) := by rfl
theorem tsz_10 : tsz Tryd.prog 10 = some (false, 1) := by rfl
theorem kindOf_10 : kindOf Tryd.prog 10 = some TK.str := by rfl
theorem ti_11 : ti Tryd.prog 11 = some (some (Value.string (⟨#[]⟩ : ByteArray)), 1, 16) := by rfl
theorem tsz_11 : tsz Tryd.prog 11 = some (false, 1) := by rfl
theorem kindOf_11 : kindOf Tryd.prog 11 = some TK.str := by rfl
theorem ti_12 : ti Tryd.prog 12 = some (some (Value.int IntKind.u64 0), 1, 8) := by rfl
theorem tsz_12 : tsz Tryd.prog 12 = some (false, 1) := by rfl
theorem kindOf_12 : kindOf Tryd.prog 12 = some (TK.int IntKind.u64) := by rfl
theorem ti_13 : ti Tryd.prog 13 = some (some (Value.agg #[Value.string (⟨#[]⟩ : ByteArray), Value.int IntKind.u64 0]), 2, 24) := by rfl
theorem tsz_13 : tsz Tryd.prog 13 = some (true, 2) := by rfl
theorem lay_13 : lay Tryd.prog 13 = some ([AV.v (Value.string (⟨#[]⟩ : ByteArray)), AV.v (Value.int IntKind.u64 0)], [(0, 1), (1, 1)]) := by rfl
theorem kindOf_13 : kindOf Tryd.prog 13 = some TK.other := by rfl
theorem fld_13_0 : fld Tryd.prog 13 0 = some (0, 9, 1) := by rfl
theorem fld_13_1 : fld Tryd.prog 13 1 = some (1, 12, 1) := by rfl
theorem ti_14 : ti Tryd.prog 14 = some (some (Value.agg #[Value.string (⟨#[]⟩ : ByteArray), Value.int IntKind.u64 0]), 2, 24) := by rfl
theorem tsz_14 : tsz Tryd.prog 14 = some (true, 2) := by rfl
theorem lay_14 : lay Tryd.prog 14 = some ([AV.v (Value.string (⟨#[]⟩ : ByteArray)), AV.v (Value.int IntKind.u64 0)], [(0, 1), (1, 1)]) := by rfl
theorem kindOf_14 : kindOf Tryd.prog 14 = some TK.other := by rfl
theorem fld_14_0 : fld Tryd.prog 14 0 = some (0, 9, 1) := by rfl
theorem fld_14_1 : fld Tryd.prog 14 1 = some (1, 12, 1) := by rfl
theorem ti_15 : ti Tryd.prog 15 = some (some (Value.pointer none), 1, 8) := by rfl
theorem tsz_15 : tsz Tryd.prog 15 = some (false, 1) := by rfl
theorem kindOf_15 : kindOf Tryd.prog 15 = some TK.ptr := by rfl
theorem ti_16 : ti Tryd.prog 16 = some (some (Value.pointer none), 1, 8) := by rfl
theorem tsz_16 : tsz Tryd.prog 16 = some (false, 1) := by rfl
theorem kindOf_16 : kindOf Tryd.prog 16 = some TK.ptr := by rfl
theorem ti_17 : ti Tryd.prog 17 = some (some (Value.pointer none), 1, 8) := by rfl
theorem tsz_17 : tsz Tryd.prog 17 = some (false, 1) := by rfl
theorem kindOf_17 : kindOf Tryd.prog 17 = some TK.ptr := by rfl
theorem ti_18 : ti Tryd.prog 18 = some (some (Value.agg #[Value.pointer none]), 1, 8) := by rfl
theorem tsz_18 : tsz Tryd.prog 18 = some (true, 1) := by rfl
theorem lay_18 : lay Tryd.prog 18 = some ([AV.v (Value.pointer none)], [(0, 1)]) := by rfl
theorem kindOf_18 : kindOf Tryd.prog 18 = some TK.other := by rfl
theorem fld_18_0 : fld Tryd.prog 18 0 = some (0, 17, 1) := by rfl
theorem ti_19 : ti Tryd.prog 19 = some (some (Value.agg #[Value.pointer none]), 1, 8) := by rfl
theorem tsz_19 : tsz Tryd.prog 19 = some (true, 1) := by rfl
theorem lay_19 : lay Tryd.prog 19 = some ([AV.v (Value.pointer none)], [(0, 1)]) := by rfl
theorem kindOf_19 : kindOf Tryd.prog 19 = some TK.other := by rfl
theorem fld_19_0 : fld Tryd.prog 19 0 = some (0, 17, 1) := by rfl
theorem ti_20 : ti Tryd.prog 20 = some (some Value.nilIface, 1, 16) := by rfl
theorem tsz_20 : tsz Tryd.prog 20 = some (false, 1) := by rfl
theorem kindOf_20 : kindOf Tryd.prog 20 = some TK.other := by rfl
theorem ti_21 : ti Tryd.prog 21 = some (some (Value.int IntKind.i32 0), 1, 4) := by rfl
theorem tsz_21 : tsz Tryd.prog 21 = some (false, 1) := by rfl
theorem kindOf_21 : kindOf Tryd.prog 21 = some (TK.int IntKind.i32) := by rfl
theorem ti_22 : ti Tryd.prog 22 = some (some (Value.agg #[Value.int IntKind.i64 0, Value.int IntKind.i64 0, Value.string (⟨#[]⟩ : ByteArray)]), 3, 32) := by rfl
theorem tsz_22 : tsz Tryd.prog 22 = some (true, 3) := by rfl
theorem lay_22 : lay Tryd.prog 22 = some ([AV.v (Value.int IntKind.i64 0), AV.v (Value.int IntKind.i64 0), AV.v (Value.string (⟨#[]⟩ : ByteArray))], [(0, 1), (1, 1), (2, 1)]) := by rfl
theorem kindOf_22 : kindOf Tryd.prog 22 = some TK.other := by rfl
theorem fld_22_0 : fld Tryd.prog 22 0 = some (0, 3, 1) := by rfl
theorem fld_22_1 : fld Tryd.prog 22 1 = some (1, 3, 1) := by rfl
theorem fld_22_2 : fld Tryd.prog 22 2 = some (2, 9, 1) := by rfl
theorem ti_23 : ti Tryd.prog 23 = some (some (Value.agg #[Value.int IntKind.i64 0, Value.int IntKind.i64 0, Value.string (⟨#[]⟩ : ByteArray)]), 3, 32) := by rfl
theorem tsz_23 : tsz Tryd.prog 23 = some (true, 3) := by rfl
theorem lay_23 : lay Tryd.prog 23 = some ([AV.v (Value.int IntKind.i64 0), AV.v (Value.int IntKind.i64 0), AV.v (Value.string (⟨#[]⟩ : ByteArray))], [(0, 1), (1, 1), (2, 1)]) := by rfl
theorem kindOf_23 : kindOf Tryd.prog 23 = some TK.other := by rfl
theorem fld_23_0 : fld Tryd.prog 23 0 = some (0, 3, 1) := by rfl
theorem fld_23_1 : fld Tryd.prog 23 1 = some (1, 3, 1) := by rfl
theorem fld_23_2 : fld Tryd.prog 23 2 = some (2, 9, 1) := by rfl
theorem ti_24 : ti Tryd.prog 24 = some (some Value.nilFunc, 1, 8) := by rfl
theorem tsz_24 : tsz Tryd.prog 24 = some (false, 1) := by rfl
theorem kindOf_24 : kindOf Tryd.prog 24 = some TK.other := by rfl
theorem ti_25 : ti Tryd.prog 25 = some (some Value.nilFunc, 1, 8) := by rfl
theorem tsz_25 : tsz Tryd.prog 25 = some (false, 1) := by rfl
theorem kindOf_25 : kindOf Tryd.prog 25 = some TK.other := by rfl
theorem ti_26 : ti Tryd.prog 26 = some (some (Value.int IntKind.i64 0), 1, 8) := by rfl
theorem tsz_26 : tsz Tryd.prog 26 = some (false, 1) := by rfl
theorem kindOf_26 : kindOf Tryd.prog 26 = some (TK.int IntKind.i64) := by rfl
theorem ti_27 : ti Tryd.prog 27 = some (some Value.nilFunc, 1, 8) := by rfl
theorem tsz_27 : tsz Tryd.prog 27 = some (false, 1) := by rfl
theorem kindOf_27 : kindOf Tryd.prog 27 = some TK.other := by rfl
theorem ti_28 : ti Tryd.prog 28 = some (some Value.nilFunc, 1, 8) := by rfl
theorem tsz_28 : tsz Tryd.prog 28 = some (false, 1) := by rfl
theorem kindOf_28 : kindOf Tryd.prog 28 = some TK.other := by rfl
theorem ti_29 : ti Tryd.prog 29 = some (some Value.nilFunc, 1, 8) := by rfl
theorem tsz_29 : tsz Tryd.prog 29 = some (false, 1) := by rfl
theorem kindOf_29 : kindOf Tryd.prog 29 = some TK.other := by rfl
theorem ti_30 : ti Tryd.prog 30 = some (some Value.nilFunc, 1, 8) := by rfl
theorem tsz_30 : tsz Tryd.prog 30 = some (false, 1) := by rfl
theorem kindOf_30 : kindOf Tryd.prog 30 = some TK.other := by rfl
theorem ti_31 : ti Tryd.prog 31 = some (some Value.nilFunc, 1, 8) := by rfl
theorem tsz_31 : tsz Tryd.prog 31 = some (false, 1) := by rfl
theorem kindOf_31 : kindOf Tryd.prog 31 = some TK.other := by rfl
theorem ti_32 : ti Tryd.prog 32 = some (some Value.nilFunc, 1, 8) := by rfl
theorem tsz_32 : tsz Tryd.prog 32 = some (false, 1) := by rfl
theorem kindOf_32 : kindOf Tryd.prog 32 = some TK.other := by rfl
theorem ti_33 : ti Tryd.prog 33 = some (some (Value.slice none 0 0), 1, 24) := by rfl
theorem tsz_33 : tsz Tryd.prog 33 = some (false, 1) := by rfl
theorem sle_33 : sle Tryd.prog 33 = some (5, some (Value.int IntKind.u8 0), 1, 1) := by rfl
theorem arr_33 : arr Tryd.prog 33 = none := by rfl
theorem kindOf_33 : kindOf Tryd.prog 33 = some (TK.sl 5) := by rfl
theorem ti_34 : ti Tryd.prog 34 = some (some Value.nilFunc, 1, 8) := by rfl
theorem tsz_34 : tsz Tryd.prog 34 = some (false, 1) := by rfl
theorem kindOf_34 : kindOf Tryd.prog 34 = some TK.other := by rfl
theorem ti_35 : ti Tryd.prog 35 = some (some (Value.slice none 0 0), 1, 24) := by rfl
theorem tsz_35 : tsz Tryd.prog 35 = some (false, 1) := by rfl
theorem sle_35 : sle Tryd.prog 35 = some (23, some (Value.agg #[Value.int IntKind.i64 0, Value.int IntKind.i64 0, Value.string (⟨#[]⟩ : ByteArray)]), 3, 32) := by rfl
theorem arr_35 : arr Tryd.prog 35 = none := by rfl
theorem kindOf_35 : kindOf Tryd.prog 35 = some (TK.sl 23) := by rfl
theorem ti_36 : ti Tryd.prog 36 = some (some Value.nilFunc, 1, 8) := by rfl
theorem tsz_36 : tsz Tryd.prog 36 = some (false, 1) := by rfl
theorem kindOf_36 : kindOf Tryd.prog 36 = some TK.other := by rfl
theorem ti_37 : ti Tryd.prog 37 = some (some (Value.tuple #[Value.slice none 0 0, Value.int IntKind.i64 0]), 1, 0) := by rfl
theorem tsz_37 : tsz Tryd.prog 37 = some (false, 1) := by rfl
theorem kindOf_37 : kindOf Tryd.prog 37 = some TK.other := by rfl
theorem ti_38 : ti Tryd.prog 38 = some (some Value.nilFunc, 1, 8) := by rfl
theorem tsz_38 : tsz Tryd.prog 38 = some (false, 1) := by rfl
theorem kindOf_38 : kindOf Tryd.prog 38 = some TK.other := by rfl
theorem ti_39 : ti Tryd.prog 39 = some (some Value.nilFunc, 1, 8) := by rfl
theorem tsz_39 : tsz Tryd.prog 39 = some (false, 1) := by rfl
theorem kindOf_39 : kindOf Tryd.prog 39 = some TK.other := by rfl
theorem ti_40 : ti Tryd.prog 40 = some (some Value.nilFunc, 1, 8) := by rfl
theorem tsz_40 : tsz Tryd.prog 40 = some (false, 1) := by rfl
theorem kindOf_40 : kindOf Tryd.prog 40 = some TK.other := by rfl
theorem ti_41 : ti Tryd.prog 41 = some (some Value.nilFunc, 1, 8) := by rfl
theorem tsz_41 : tsz Tryd.prog 41 = some (false, 1) := by rfl
theorem kindOf_41 : kindOf Tryd.prog 41 = some TK.other := by rfl
theorem ti_42 : ti Tryd.prog 42 = some (some Value.nilFunc, 1, 8) := by rfl
theorem tsz_42 : tsz Tryd.prog 42 = some (false, 1) := by rfl
theorem kindOf_42 : kindOf Tryd.prog 42 = some TK.other := by rfl
theorem ti_43 : ti Tryd.prog 43 = some (some Value.nilFunc, 1, 8) := by rfl
theorem tsz_43 : tsz Tryd.prog 43 = some (false, 1) := by rfl
theorem kindOf_43 : kindOf Tryd.prog 43 = some TK.other := by rfl
theorem ti_44 : ti Tryd.prog 44 = some (some Value.nilFunc, 1, 8) := by rfl
theorem tsz_44 : tsz Tryd.prog 44 = some (false, 1) := by rfl
theorem kindOf_44 : kindOf Tryd.prog 44 = some TK.other := by rfl
theorem ti_45 : ti Tryd.prog 45 = some (some (Value.int IntKind.u32 0), 1, 4) := by rfl
theorem tsz_45 : tsz Tryd.prog 45 = some (false, 1) := by rfl
theorem kindOf_45 : kindOf Tryd.prog 45 = some (TK.int IntKind.u32) := by rfl
theorem ti_46 : ti Tryd.prog 46 = some (some Value.nilFunc, 1, 8) := by rfl
theorem tsz_46 : tsz Tryd.prog 46 = some (false, 1) := by rfl
theorem kindOf_46 : kindOf Tryd.prog 46 = some TK.other := by rfl
theorem ti_47 : ti Tryd.prog 47 = some (some Value.nilFunc, 1, 8) := by rfl
theorem tsz_47 : tsz Tryd.prog 47 = some (false, 1) := by rfl
theorem kindOf_47 : kindOf Tryd.prog 47 = some TK.other := by rfl
theorem ti_48 : ti Tryd.prog 48 = some (some (Value.agg #[Value.bool false, Value.bool false]), 2, 2) := by rfl
theorem tsz_48 : tsz Tryd.prog 48 = some (true, 2) := by rfl
theorem lay_48 : lay Tryd.prog 48 = some ([AV.v (Value.bool false), AV.v (Value.bool false)], [(0, 1), (1, 1)]) := by rfl
theorem kindOf_48 : kindOf Tryd.prog 48 = some TK.other := by rfl
theorem fld_48_0 : fld Tryd.prog 48 0 = some (0, 4, 1) := by rfl
theorem fld_48_1 : fld Tryd.prog 48 1 = some (1, 4, 1) := by rfl
theorem ti_49 : ti Tryd.prog 49 = some (some (Value.agg #[Value.bool false, Value.bool false]), 2, 2) := by rfl
theorem tsz_49 : tsz Tryd.prog 49 = some (true, 2) := by rfl
theorem lay_49 : lay Tryd.prog 49 = some ([AV.v (Value.bool false), AV.v (Value.bool false)], [(0, 1), (1, 1)]) := by rfl
theorem kindOf_49 : kindOf Tryd.prog 49 = some TK.other := by rfl
theorem fld_49_0 : fld Tryd.prog 49 0 = some (0, 4, 1) := by rfl
theorem fld_49_1 : fld Tryd.prog 49 1 = some (1, 4, 1) := by rfl
theorem ti_50 : ti Tryd.prog 50 = some (some (Value.tuple #[Value.agg #[Value.bool false, Value.bool false], Value.bool false]), 1, 0) := by rfl
theorem tsz_50 : tsz Tryd.prog 50 = some (false, 1) := by rfl
theorem kindOf_50 : kindOf Tryd.prog 50 = some TK.other := by rfl
theorem ti_51 : ti Tryd.prog 51 = some (some Value.nilFunc, 1, 8) := by rfl
theorem tsz_51 : tsz Tryd.prog 51 = some (false, 1) := by rfl
theorem kindOf_51 : kindOf Tryd.prog 51 = some TK.other := by rfl
theorem ti_52 : ti Tryd.prog 52 = some (some Value.nilFunc, 1, 8) := by rfl
theorem tsz_52 : tsz Tryd.prog 52 = some (false, 1) := by rfl
theorem kindOf_52 : kindOf Tryd.prog 52 = some TK.other := by rfl
theorem ti_53 : ti Tryd.prog 53 = some (some (Value.agg #[Value.int IntKind.i32 0, Value.int IntKind.i32 0, Value.int IntKind.i32 0, Value.int IntKind.i32 0, Value.int IntKind.i32 0, Value.int IntKind.i32 0, Value.int IntKind.i32 0, Value.int IntKind.i32 0]), 8, 32) := by rfl
theorem tsz_53 : tsz Tryd.prog 53 = some (true, 8) := by rfl
theorem sle_53 : sle Tryd.prog 53 = none := by rfl
theorem arr_53 : arr Tryd.prog 53 = some (8, 21, 1) := by rfl
theorem lay_53 : lay Tryd.prog 53 = some ([AV.v (Value.int IntKind.i32 0), AV.v (Value.int IntKind.i32 0), AV.v (Value.int IntKind.i32 0), AV.v (Value.int IntKind.i32 0), AV.v (Value.int IntKind.i32 0), AV.v (Value.int IntKind.i32 0), AV.v (Value.int IntKind.i32 0), AV.v (Value.int IntKind.i32 0)], [(0, 1), (1, 1), (2, 1), (3, 1), (4, 1), (5, 1), (6, 1), (7, 1)]) := by rfl
theorem kindOf_53 : kindOf Tryd.prog 53 = some TK.other := by rfl
theorem ti_54 : ti Tryd.prog 54 = some (some (Value.slice none 0 0), 1, 24) := by rfl
theorem tsz_54 : tsz Tryd.prog 54 = some (false, 1) := by rfl
theorem sle_54 : sle Tryd.prog 54 = some (21, some (Value.int IntKind.i32 0), 1, 4) := by rfl
theorem arr_54 : arr Tryd.prog 54 = none := by rfl
theorem kindOf_54 : kindOf Tryd.prog 54 = some (TK.sl 21) := by rfl
theorem ti_55 : ti Tryd.prog 55 = some (some Value.nilFunc, 1, 8) := by rfl
theorem tsz_55 : tsz Tryd.prog 55 = some (false, 1) := by rfl
theorem kindOf_55 : kindOf Tryd.prog 55 = some TK.other := by rfl
theorem ti_56 : ti Tryd.prog 56 = some (some Value.nilFunc, 1, 8) := by rfl
theorem tsz_56 : tsz Tryd.prog 56 = some (false, 1) := by rfl
theorem kindOf_56 : kindOf Tryd.prog 56 = some TK.other := by rfl
theorem ti_57 : ti Tryd.prog 57 = some (some Value.nilFunc, 1, 8) := by rfl
theorem tsz_57 : tsz Tryd.prog 57 = some (false, 1) := by rfl
theorem kindOf_57 : kindOf Tryd.prog 57 = some TK.other := by rfl
theorem ti_58 : ti Tryd.prog 58 = some (some (Value.slice none 0 0), 1, 24) := by rfl
theorem tsz_58 : tsz Tryd.prog 58 = some (false, 1) := by rfl
theorem sle_58 : sle Tryd.prog 58 = some (23, some (Value.agg #[Value.int IntKind.i64 0, Value.int IntKind.i64 0, Value.string (⟨#[]⟩ : ByteArray)]), 3, 32) := by rfl
theorem arr_58 : arr Tryd.prog 58 = none := by rfl
theorem kindOf_58 : kindOf Tryd.prog 58 = some (TK.sl 23) := by rfl
theorem ti_59 : ti Tryd.prog 59 = some (some (Value.agg #[Value.bool false, Value.bool false, Value.bool false, Value.bool false, Value.bool false, Value.bool false, Value.bool false, Value.bool false]), 8, 8) := by rfl
theorem tsz_59 : tsz Tryd.prog 59 = some (true, 8) := by rfl
theorem sle_59 : sle Tryd.prog 59 = none := by rfl
theorem arr_59 : arr Tryd.prog 59 = some (4, 49, 2) := by rfl
theorem lay_59 : lay Tryd.prog 59 = some ([AV.v (Value.bool false), AV.v (Value.bool false), AV.v (Value.bool false), AV.v (Value.bool false), AV.v (Value.bool false), AV.v (Value.bool false), AV.v (Value.bool false), AV.v (Value.bool false)], [(0, 2), (2, 2), (4, 2), (6, 2)]) := by rfl
theorem kindOf_59 : kindOf Tryd.prog 59 = some TK.other := by rfl
theorem ti_60 : ti Tryd.prog 60 = some (some (Value.slice none 0 0), 1, 24) := by rfl
theorem tsz_60 : tsz Tryd.prog 60 = some (false, 1) := by rfl
theorem sle_60 : sle Tryd.prog 60 = some (3, some (Value.int IntKind.i64 0), 1, 8) := by rfl
theorem arr_60 : arr Tryd.prog 60 = none := by rfl
theorem kindOf_60 : kindOf Tryd.prog 60 = some (TK.sl 3) := by rfl
theorem ti_61 : ti Tryd.prog 61 = some (some (Value.tuple #[Value.slice none 0 0, Value.bool false]), 1, 0) := by rfl
theorem tsz_61 : tsz Tryd.prog 61 = some (false, 1) := by rfl
theorem kindOf_61 : kindOf Tryd.prog 61 = some TK.other := by rfl
theorem ti_62 : ti Tryd.prog 62 = some (some Value.nilFunc, 1, 8) := by rfl
theorem tsz_62 : tsz Tryd.prog 62 = some (false, 1) := by rfl
theorem kindOf_62 : kindOf Tryd.prog 62 = some TK.other := by rfl
theorem ti_63 : ti Tryd.prog 63 = some (some Value.nilFunc, 1, 8) := by rfl
theorem tsz_63 : tsz Tryd.prog 63 = some (false, 1) := by rfl
theorem kindOf_63 : kindOf Tryd.prog 63 = some TK.other := by rfl
theorem ti_64 : ti Tryd.prog 64 = some (some Value.nilFunc, 1, 8) := by rfl
theorem tsz_64 : tsz Tryd.prog 64 = some (false, 1) := by rfl
theorem kindOf_64 : kindOf Tryd.prog 64 = some TK.other := by rfl
theorem tsz_65 : tsz Tryd.prog 65 = some (true, 256) := by rfl
theorem sle_65 : sle Tryd.prog 65 = none := by rfl
theorem arr_65 : arr Tryd.prog 65 = some (256, 5, 1) := by rfl
theorem kindOf_65 : kindOf Tryd.prog 65 = some TK.other := by rfl
theorem ti_66 : ti Tryd.prog 66 = some (some (Value.agg #[Value.int IntKind.u8 0, Value.int IntKind.u8 0]), 2, 2) := by rfl
theorem tsz_66 : tsz Tryd.prog 66 = some (true, 2) := by rfl
theorem lay_66 : lay Tryd.prog 66 = some ([AV.v (Value.int IntKind.u8 0), AV.v (Value.int IntKind.u8 0)], [(0, 1), (1, 1)]) := by rfl
theorem kindOf_66 : kindOf Tryd.prog 66 = some TK.other := by rfl
theorem fld_66_0 : fld Tryd.prog 66 0 = some (0, 5, 1) := by rfl
theorem fld_66_1 : fld Tryd.prog 66 1 = some (1, 5, 1) := by rfl
theorem ti_67 : ti Tryd.prog 67 = some (some (Value.agg #[Value.int IntKind.u8 0, Value.int IntKind.u8 0]), 2, 2) := by rfl
theorem tsz_67 : tsz Tryd.prog 67 = some (true, 2) := by rfl
theorem lay_67 : lay Tryd.prog 67 = some ([AV.v (Value.int IntKind.u8 0), AV.v (Value.int IntKind.u8 0)], [(0, 1), (1, 1)]) := by rfl
theorem kindOf_67 : kindOf Tryd.prog 67 = some TK.other := by rfl
theorem fld_67_0 : fld Tryd.prog 67 0 = some (0, 5, 1) := by rfl
theorem fld_67_1 : fld Tryd.prog 67 1 = some (1, 5, 1) := by rfl
theorem ti_68 : ti Tryd.prog 68 = some (some (Value.agg #[Value.int IntKind.u8 0, Value.int IntKind.u8 0, Value.int IntKind.u8 0, Value.int IntKind.u8 0, Value.int IntKind.u8 0, Value.int IntKind.u8 0, Value.int IntKind.u8 0, Value.int IntKind.u8 0, Value.int IntKind.u8 0, Value.int IntKind.u8 0, Value.int IntKind.u8 0, Value.int IntKind.u8 0, Value.int IntKind.u8 0, Value.int IntKind.u8 0, Value.int IntKind.u8 0, Value.int IntKind.u8 0, Value.int IntKind.u8 0, Value.int IntKind.u8 0, Value.int IntKind.u8 0, Value.int IntKind.u8 0, Value.int IntKind.u8 0, Value.int IntKind.u8 0, Value.int IntKind.u8 0, Value.int IntKind.u8 0, Value.int IntKind.u8 0, Value.int IntKind.u8 0, Value.int IntKind.u8 0, Value.int IntKind.u8 0, Value.int IntKind.u8 0, Value.int IntKind.u8 0, Value.int IntKind.u8 0, Value.int IntKind.u8 0]), 32, 32) := by rfl
theorem tsz_68 : tsz Tryd.prog 68 = some (true, 32) := by rfl
theorem sle_68 : sle Tryd.prog 68 = none := by rfl
theorem arr_68 : arr Tryd.prog 68 = some (16, 67, 2) := by rfl
theorem lay_68 : lay Tryd.prog 68 = some ([AV.v (Value.int IntKind.u8 0), AV.v (Value.int IntKind.u8 0), AV.v (Value.int IntKind.u8 0), AV.v (Value.int IntKind.u8 0), AV.v (Value.int IntKind.u8 0), AV.v (Value.int IntKind.u8 0), AV.v (Value.int IntKind.u8 0), AV.v (Value.int IntKind.u8 0), AV.v (Value.int IntKind.u8 0), AV.v (Value.int IntKind.u8 0), AV.v (Value.int IntKind.u8 0), AV.v (Value.int IntKind.u8 0), AV.v (Value.int IntKind.u8 0), AV.v (Value.int IntKind.u8 0), AV.v (Value.int IntKind.u8 0), AV.v (Value.int IntKind.u8 0), AV.v (Value.int IntKind.u8 0), AV.v (Value.int IntKind.u8 0), AV.v (Value.int IntKind.u8 0), AV.v (Value.int IntKind.u8 0), AV.v (Value.int IntKind.u8 0), AV.v (Value.int IntKind.u8 0), AV.v (Value.int IntKind.u8 0), AV.v (Value.int IntKind.u8 0), AV.v (Value.int IntKind.u8 0), AV.v (Value.int IntKind.u8 0), AV.v (Value.int IntKind.u8 0), AV.v (Value.int IntKind.u8 0), AV.v (Value.int IntKind.u8 0), AV.v (Value.int IntKind.u8 0), AV.v (Value.int IntKind.u8 0), AV.v (Value.int IntKind.u8 0)], [(0, 2), (2, 2), (4, 2), (6, 2), (8, 2), (10, 2), (12, 2), (14, 2), (16, 2), (18, 2), (20, 2), (22, 2), (24, 2), (26, 2), (28, 2), (30, 2)]) := by rfl
theorem kindOf_68 : kindOf Tryd.prog 68 = some TK.other := by rfl
theorem ti_69 : ti Tryd.prog 69 = some (some (Value.int IntKind.u64 0), 1, 8) := by rfl
theorem tsz_69 : tsz Tryd.prog 69 = some (false, 1) := by rfl
theorem kindOf_69 : kindOf Tryd.prog 69 = some (TK.int IntKind.u64) := by rfl
theorem ti_70 : ti Tryd.prog 70 = some (some (Value.tuple #[Value.int IntKind.i64 0, Value.int IntKind.i64 0]), 1, 0) := by rfl
theorem tsz_70 : tsz Tryd.prog 70 = some (false, 1) := by rfl
theorem kindOf_70 : kindOf Tryd.prog 70 = some TK.other := by rfl
theorem ti_71 : ti Tryd.prog 71 = some (some Value.nilFunc, 1, 8) := by rfl
theorem tsz_71 : tsz Tryd.prog 71 = some (false, 1) := by rfl
theorem kindOf_71 : kindOf Tryd.prog 71 = some TK.other := by rfl
theorem ti_72 : ti Tryd.prog 72 = some (some (Value.int IntKind.u64 0), 1, 8) := by rfl
theorem tsz_72 : tsz Tryd.prog 72 = some (false, 1) := by rfl
theorem kindOf_72 : kindOf Tryd.prog 72 = some (TK.int IntKind.u64) := by rfl
theorem ti_73 : ti Tryd.prog 73 = some (some Value.nilFunc, 1, 8) := by rfl
theorem tsz_73 : tsz Tryd.prog 73 = some (false, 1) := by rfl
theorem kindOf_73 : kindOf Tryd.prog 73 = some TK.other := by rfl
theorem ti_74 : ti Tryd.prog 74 = some (some (Value.agg #[Value.pointer none, Value.pointer none, Value.pointer none, Value.string (⟨#[]⟩ : ByteArray)]), 4, 40) := by rfl
theorem tsz_74 : tsz Tryd.prog 74 = some (true, 4) := by rfl
theorem lay_74 : lay Tryd.prog 74 = some ([AV.v (Value.pointer none), AV.v (Value.pointer none), AV.v (Value.pointer none), AV.v (Value.string (⟨#[]⟩ : ByteArray))], [(0, 1), (1, 1), (2, 1), (3, 1)]) := by rfl
theorem kindOf_74 : kindOf Tryd.prog 74 = some TK.other := by rfl
theorem fld_74_0 : fld Tryd.prog 74 0 = some (0, 17, 1) := by rfl
theorem fld_74_1 : fld Tryd.prog 74 1 = some (1, 17, 1) := by rfl
theorem fld_74_2 : fld Tryd.prog 74 2 = some (2, 17, 1) := by rfl
theorem fld_74_3 : fld Tryd.prog 74 3 = some (3, 9, 1) := by rfl
theorem ti_75 : ti Tryd.prog 75 = some (some (Value.agg #[Value.pointer none, Value.pointer none, Value.pointer none, Value.string (⟨#[]⟩ : ByteArray)]), 4, 40) := by rfl
theorem tsz_75 : tsz Tryd.prog 75 = some (true, 4) := by rfl
theorem lay_75 : lay Tryd.prog 75 = some ([AV.v (Value.pointer none), AV.v (Value.pointer none), AV.v (Value.pointer none), AV.v (Value.string (⟨#[]⟩ : ByteArray))], [(0, 1), (1, 1), (2, 1), (3, 1)]) := by rfl
theorem kindOf_75 : kindOf Tryd.prog 75 = some TK.other := by rfl
theorem fld_75_0 : fld Tryd.prog 75 0 = some (0, 17, 1) := by rfl
theorem fld_75_1 : fld Tryd.prog 75 1 = some (1, 17, 1) := by rfl
theorem fld_75_2 : fld Tryd.prog 75 2 = some (2, 17, 1) := by rfl
theorem fld_75_3 : fld Tryd.prog 75 3 = some (3, 9, 1) := by rfl
theorem ti_76 : ti Tryd.prog 76 = some (some (Value.agg #[]), 0, 0) := by rfl
theorem tsz_76 : tsz Tryd.prog 76 = some (true, 0) := by rfl
theorem sle_76 : sle Tryd.prog 76 = none := by rfl
theorem arr_76 : arr Tryd.prog 76 = some (0, 16, 1) := by rfl
theorem lay_76 : lay Tryd.prog 76 = some ([], []) := by rfl
theorem kindOf_76 : kindOf Tryd.prog 76 = some TK.other := by rfl
theorem ti_77 : ti Tryd.prog 77 = some (some (Value.agg #[]), 0, 0) := by rfl
theorem tsz_77 : tsz Tryd.prog 77 = some (true, 0) := by rfl
theorem lay_77 : lay Tryd.prog 77 = some ([], [(0, 0)]) := by rfl
theorem kindOf_77 : kindOf Tryd.prog 77 = some TK.other := by rfl
theorem fld_77_0 : fld Tryd.prog 77 0 = some (0, 76, 0) := by rfl
theorem ti_78 : ti Tryd.prog 78 = some (some (Value.agg #[]), 0, 0) := by rfl
theorem tsz_78 : tsz Tryd.prog 78 = some (true, 0) := by rfl
theorem lay_78 : lay Tryd.prog 78 = some ([], [(0, 0)]) := by rfl
theorem kindOf_78 : kindOf Tryd.prog 78 = some TK.other := by rfl
theorem fld_78_0 : fld Tryd.prog 78 0 = some (0, 76, 0) := by rfl
theorem ti_79 : ti Tryd.prog 79 = some (some Value.nilFunc, 1, 8) := by rfl
theorem tsz_79 : tsz Tryd.prog 79 = some (false, 1) := by rfl
theorem kindOf_79 : kindOf Tryd.prog 79 = some TK.other := by rfl
theorem ti_80 : ti Tryd.prog 80 = some (some (Value.int IntKind.u8 0), 1, 1) := by rfl
theorem tsz_80 : tsz Tryd.prog 80 = some (false, 1) := by rfl
theorem kindOf_80 : kindOf Tryd.prog 80 = some (TK.int IntKind.u8) := by rfl
theorem ti_81 : ti Tryd.prog 81 = some (some (Value.int IntKind.u8 0), 1, 1) := by rfl
theorem tsz_81 : tsz Tryd.prog 81 = some (false, 1) := by rfl
theorem kindOf_81 : kindOf Tryd.prog 81 = some (TK.int IntKind.u8) := by rfl
theorem ti_82 : ti Tryd.prog 82 = some (some Value.nilFunc, 1, 8) := by rfl
theorem tsz_82 : tsz Tryd.prog 82 = some (false, 1) := by rfl
theorem kindOf_82 : kindOf Tryd.prog 82 = some TK.other := by rfl
theorem ti_83 : ti Tryd.prog 83 = some (some (Value.pointer none), 1, 8) := by rfl
theorem tsz_83 : tsz Tryd.prog 83 = some (false, 1) := by rfl
theorem kindOf_83 : kindOf Tryd.prog 83 = some TK.ptr := by rfl
theorem ti_84 : ti Tryd.prog 84 = some (some (Value.int IntKind.i32 0), 1, 4) := by rfl
theorem tsz_84 : tsz Tryd.prog 84 = some (false, 1) := by rfl
theorem kindOf_84 : kindOf Tryd.prog 84 = some (TK.int IntKind.i32) := by rfl
theorem ti_85 : ti Tryd.prog 85 = some (some (Value.int IntKind.i32 0), 1, 4) := by rfl
theorem tsz_85 : tsz Tryd.prog 85 = some (false, 1) := by rfl
theorem kindOf_85 : kindOf Tryd.prog 85 = some (TK.int IntKind.i32) := by rfl
theorem ti_86 : ti Tryd.prog 86 = some (some (Value.agg #[Value.int IntKind.u64 0, Value.int IntKind.u64 0, Value.int IntKind.u32 0, Value.int IntKind.u8 0, Value.int IntKind.u8 0, Value.int IntKind.u8 0, Value.int IntKind.u8 0, Value.nilFunc, Value.pointer none, Value.int IntKind.i32 0, Value.int IntKind.i32 0]), 11, 48) := by rfl
theorem tsz_86 : tsz Tryd.prog 86 = some (true, 11) := by rfl
theorem lay_86 : lay Tryd.prog 86 = some ([AV.v (Value.int IntKind.u64 0), AV.v (Value.int IntKind.u64 0), AV.v (Value.int IntKind.u32 0), AV.v (Value.int IntKind.u8 0), AV.v (Value.int IntKind.u8 0), AV.v (Value.int IntKind.u8 0), AV.v (Value.int IntKind.u8 0), AV.v Value.nilFunc, AV.v (Value.pointer none), AV.v (Value.int IntKind.i32 0), AV.v (Value.int IntKind.i32 0)], [(0, 1), (1, 1), (2, 1), (3, 1), (4, 1), (5, 1), (6, 1), (7, 1), (8, 1), (9, 1), (10, 1)]) := by rfl
theorem kindOf_86 : kindOf Tryd.prog 86 = some TK.other := by rfl
theorem fld_86_0 : fld Tryd.prog 86 0 = some (0, 12, 1) := by rfl
theorem fld_86_1 : fld Tryd.prog 86 1 = some (1, 12, 1) := by rfl
theorem fld_86_2 : fld Tryd.prog 86 2 = some (2, 45, 1) := by rfl
theorem fld_86_3 : fld Tryd.prog 86 3 = some (3, 80, 1) := by rfl
theorem fld_86_4 : fld Tryd.prog 86 4 = some (4, 5, 1) := by rfl
theorem fld_86_5 : fld Tryd.prog 86 5 = some (5, 5, 1) := by rfl
theorem fld_86_6 : fld Tryd.prog 86 6 = some (6, 81, 1) := by rfl
theorem fld_86_7 : fld Tryd.prog 86 7 = some (7, 82, 1) := by rfl
theorem fld_86_8 : fld Tryd.prog 86 8 = some (8, 83, 1) := by rfl
theorem fld_86_9 : fld Tryd.prog 86 9 = some (9, 84, 1) := by rfl
theorem fld_86_10 : fld Tryd.prog 86 10 = some (10, 85, 1) := by rfl
theorem ti_87 : ti Tryd.prog 87 = some (some (Value.agg #[Value.int IntKind.u64 0, Value.int IntKind.u64 0, Value.int IntKind.u32 0, Value.int IntKind.u8 0, Value.int IntKind.u8 0, Value.int IntKind.u8 0, Value.int IntKind.u8 0, Value.nilFunc, Value.pointer none, Value.int IntKind.i32 0, Value.int IntKind.i32 0]), 11, 48) := by rfl
theorem tsz_87 : tsz Tryd.prog 87 = some (true, 11) := by rfl
theorem lay_87 : lay Tryd.prog 87 = some ([AV.v (Value.int IntKind.u64 0), AV.v (Value.int IntKind.u64 0), AV.v (Value.int IntKind.u32 0), AV.v (Value.int IntKind.u8 0), AV.v (Value.int IntKind.u8 0), AV.v (Value.int IntKind.u8 0), AV.v (Value.int IntKind.u8 0), AV.v Value.nilFunc, AV.v (Value.pointer none), AV.v (Value.int IntKind.i32 0), AV.v (Value.int IntKind.i32 0)], [(0, 1), (1, 1), (2, 1), (3, 1), (4, 1), (5, 1), (6, 1), (7, 1), (8, 1), (9, 1), (10, 1)]) := by rfl
theorem kindOf_87 : kindOf Tryd.prog 87 = some TK.other := by rfl
theorem fld_87_0 : fld Tryd.prog 87 0 = some (0, 12, 1) := by rfl
theorem fld_87_1 : fld Tryd.prog 87 1 = some (1, 12, 1) := by rfl
theorem fld_87_2 : fld Tryd.prog 87 2 = some (2, 45, 1) := by rfl
theorem fld_87_3 : fld Tryd.prog 87 3 = some (3, 80, 1) := by rfl
theorem fld_87_4 : fld Tryd.prog 87 4 = some (4, 5, 1) := by rfl
theorem fld_87_5 : fld Tryd.prog 87 5 = some (5, 5, 1) := by rfl
theorem fld_87_6 : fld Tryd.prog 87 6 = some (6, 81, 1) := by rfl
theorem fld_87_7 : fld Tryd.prog 87 7 = some (7, 82, 1) := by rfl
theorem fld_87_8 : fld Tryd.prog 87 8 = some (8, 83, 1) := by rfl
theorem fld_87_9 : fld Tryd.prog 87 9 = some (9, 84, 1) := by rfl
theorem fld_87_10 : fld Tryd.prog 87 10 = some (10, 85, 1) := by rfl
theorem ti_88 : ti Tryd.prog 88 = some (some (Value.pointer none), 1, 8) := by rfl
theorem tsz_88 : tsz Tryd.prog 88 = some (false, 1) := by rfl
theorem kindOf_88 : kindOf Tryd.prog 88 = some TK.other := by rfl
def glob0 : List AV := [.v (.bool false), .v (.bool false), .v (.bool true), .v (.bool true), .v (.bool false), .v (.bool false), .v (.bool true), .v (.bool false)]
def glob1 : List AV := (List.range 256).map fun c => AV.v (Value.int IntKind.u8 (Lib.firstT c))
def glob2 : List AV := (List.range 16).flatMap fun i => [AV.v (Value.int IntKind.u8 (Lib.accLo i)), AV.v (Value.int IntKind.u8 (Lib.accHi i))]
def envG : Nat → Option (List AV)
  | 0 => some glob0
  | 1 => some glob1
  | 2 => some glob2
  | _ => none
noncomputable def env : Env := ⟨Tryd.prog, envG, [], 0⟩
theorem env_P : env.P = Tryd.prog := rfl
theorem env_G : env.G = envG := rfl
def tab : Tab where
  knd := [(0, TK.other), (1, TK.other), (2, TK.int IntKind.i64), (3, TK.int IntKind.i64), (4, TK.bool), (5, TK.int IntKind.u8), (6, TK.int IntKind.u8), (7, TK.other), (8, TK.other), (9, TK.str), (10, TK.str), (11, TK.str), (12, TK.int IntKind.u64), (13, TK.other), (14, TK.other), (15, TK.ptr), (16, TK.ptr), (17, TK.ptr), (18, TK.other), (19, TK.other), (20, TK.other), (21, TK.int IntKind.i32), (22, TK.other), (23, TK.other), (24, TK.other), (25, TK.other), (26, TK.int IntKind.i64), (27, TK.other), (28, TK.other), (29, TK.other), (30, TK.other), (31, TK.other), (32, TK.other), (33, TK.sl 5), (34, TK.other), (35, TK.sl 23), (36, TK.other), (37, TK.other), (38, TK.other), (39, TK.other), (40, TK.other), (41, TK.other), (42, TK.other), (43, TK.other), (44, TK.other), (45, TK.int IntKind.u32), (46, TK.other), (47, TK.other), (48, TK.other), (49, TK.other), (50, TK.other), (51, TK.other), (52, TK.other), (53, TK.other), (54, TK.sl 21), (55, TK.other), (56, TK.other), (57, TK.other), (58, TK.sl 23), (59, TK.other), (60, TK.sl 3), (61, TK.other), (62, TK.other), (63, TK.other), (64, TK.other), (65, TK.other), (66, TK.other), (67, TK.other), (68, TK.other), (69, TK.int IntKind.u64), (70, TK.other), (71, TK.other), (72, TK.int IntKind.u64), (73, TK.other), (74, TK.other), (75, TK.other), (76, TK.other), (77, TK.other), (78, TK.other), (79, TK.other), (80, TK.int IntKind.u8), (81, TK.int IntKind.u8), (82, TK.other), (83, TK.ptr), (84, TK.int IntKind.i32), (85, TK.int IntKind.i32), (86, TK.other), (87, TK.other), (88, TK.other)]
  tz := [(0, (false, 1)), (1, (false, 1)), (2, (false, 1)), (3, (false, 1)), (4, (false, 1)), (5, (false, 1)), (6, (false, 1)), (7, (true, 4)), (8, (true, 4)), (9, (false, 1)), (10, (false, 1)), (11, (false, 1)), (12, (false, 1)), (13, (true, 2)), (14, (true, 2)), (15, (false, 1)), (16, (false, 1)), (17, (false, 1)), (18, (true, 1)), (19, (true, 1)), (20, (false, 1)), (21, (false, 1)), (22, (true, 3)), (23, (true, 3)), (24, (false, 1)), (25, (false, 1)), (26, (false, 1)), (27, (false, 1)), (28, (false, 1)), (29, (false, 1)), (30, (false, 1)), (31, (false, 1)), (32, (false, 1)), (33, (false, 1)), (34, (false, 1)), (35, (false, 1)), (36, (false, 1)), (37, (false, 1)), (38, (false, 1)), (39, (false, 1)), (40, (false, 1)), (41, (false, 1)), (42, (false, 1)), (43, (false, 1)), (44, (false, 1)), (45, (false, 1)), (46, (false, 1)), (47, (false, 1)), (48, (true, 2)), (49, (true, 2)), (50, (false, 1)), (51, (false, 1)), (52, (false, 1)), (53, (true, 8)), (54, (false, 1)), (55, (false, 1)), (56, (false, 1)), (57, (false, 1)), (58, (false, 1)), (59, (true, 8)), (60, (false, 1)), (61, (false, 1)), (62, (false, 1)), (63, (false, 1)), (64, (false, 1)), (65, (true, 256)), (66, (true, 2)), (67, (true, 2)), (68, (true, 32)), (69, (false, 1)), (70, (false, 1)), (71, (false, 1)), (72, (false, 1)), (73, (false, 1)), (74, (true, 4)), (75, (true, 4)), (76, (true, 0)), (77, (true, 0)), (78, (true, 0)), (79, (false, 1)), (80, (false, 1)), (81, (false, 1)), (82, (false, 1)), (83, (false, 1)), (84, (false, 1)), (85, (false, 1)), (86, (true, 11)), (87, (true, 11)), (88, (false, 1))]
  zc := [(1, [AV.v (Value.nilFunc)]), (2, [AV.v (Value.int IntKind.i64 0)]), (3, [AV.v (Value.int IntKind.i64 0)]), (4, [AV.v (Value.bool false)]), (5, [AV.v (Value.int IntKind.u8 0)]), (6, [AV.v (Value.int IntKind.u8 0)]), (7, ([Value.int IntKind.i64 0, Value.int IntKind.i64 0, Value.bool false, Value.int IntKind.u8 0].map AV.v)), (8, ([Value.int IntKind.i64 0, Value.int IntKind.i64 0, Value.bool false, Value.int IntKind.u8 0].map AV.v)), (9, [AV.v (Value.string (⟨#[]⟩ : ByteArray))]), (10, [AV.v (Value.string (⟨#[]⟩ : ByteArray))]), (11, [AV.v (Value.string (⟨#[]⟩ : ByteArray))]), (12, [AV.v (Value.int IntKind.u64 0)]), (13, ([Value.string (⟨#[]⟩ : ByteArray), Value.int IntKind.u64 0].map AV.v)), (14, ([Value.string (⟨#[]⟩ : ByteArray), Value.int IntKind.u64 0].map AV.v)), (15, [AV.v (Value.pointer none)]), (16, [AV.v (Value.pointer none)]), (17, [AV.v (Value.pointer none)]), (18, ([Value.pointer none].map AV.v)), (19, ([Value.pointer none].map AV.v)), (20, [AV.v (Value.nilIface)]), (21, [AV.v (Value.int IntKind.i32 0)]), (22, ([Value.int IntKind.i64 0, Value.int IntKind.i64 0, Value.string (⟨#[]⟩ : ByteArray)].map AV.v)), (23, ([Value.int IntKind.i64 0, Value.int IntKind.i64 0, Value.string (⟨#[]⟩ : ByteArray)].map AV.v)), (24, [AV.v (Value.nilFunc)]), (25, [AV.v (Value.nilFunc)]), (26, [AV.v (Value.int IntKind.i64 0)]), (27, [AV.v (Value.nilFunc)]), (28, [AV.v (Value.nilFunc)]), (29, [AV.v (Value.nilFunc)]), (30, [AV.v (Value.nilFunc)]), (31, [AV.v (Value.nilFunc)]), (32, [AV.v (Value.nilFunc)]), (33, [AV.v (Value.slice none 0 0)]), (34, [AV.v (Value.nilFunc)]), (35, [AV.v (Value.slice none 0 0)]), (36, [AV.v (Value.nilFunc)]), (38, [AV.v (Value.nilFunc)]), (39, [AV.v (Value.nilFunc)]), (40, [AV.v (Value.nilFunc)]), (41, [AV.v (Value.nilFunc)]), (42, [AV.v (Value.nilFunc)]), (43, [AV.v (Value.nilFunc)]), (44, [AV.v (Value.nilFunc)]), (45, [AV.v (Value.int IntKind.u32 0)]), (46, [AV.v (Value.nilFunc)]), (47, [AV.v (Value.nilFunc)]), (48, ([Value.bool false, Value.bool false].map AV.v)), (49, ([Value.bool false, Value.bool false].map AV.v)), (51, [AV.v (Value.nilFunc)]), (52, [AV.v (Value.nilFunc)]), (53, ([Value.int IntKind.i32 0, Value.int IntKind.i32 0, Value.int IntKind.i32 0, Value.int IntKind.i32 0, Value.int IntKind.i32 0, Value.int IntKind.i32 0, Value.int IntKind.i32 0, Value.int IntKind.i32 0].map AV.v)), (54, [AV.v (Value.slice none 0 0)]), (55, [AV.v (Value.nilFunc)]), (56, [AV.v (Value.nilFunc)]), (57, [AV.v (Value.nilFunc)]), (58, [AV.v (Value.slice none 0 0)]), (59, ([Value.bool false, Value.bool false, Value.bool false, Value.bool false, Value.bool false, Value.bool false, Value.bool false, Value.bool false].map AV.v)), (60, [AV.v (Value.slice none 0 0)]), (62, [AV.v (Value.nilFunc)]), (63, [AV.v (Value.nilFunc)]), (64, [AV.v (Value.nilFunc)]), (66, ([Value.int IntKind.u8 0, Value.int IntKind.u8 0].map AV.v)), (67, ([Value.int IntKind.u8 0, Value.int IntKind.u8 0].map AV.v)), (68, ([Value.int IntKind.u8 0, Value.int IntKind.u8 0, Value.int IntKind.u8 0, Value.int IntKind.u8 0, Value.int IntKind.u8 0, Value.int IntKind.u8 0, Value.int IntKind.u8 0, Value.int IntKind.u8 0, Value.int IntKind.u8 0, Value.int IntKind.u8 0, Value.int IntKind.u8 0, Value.int IntKind.u8 0, Value.int IntKind.u8 0, Value.int IntKind.u8 0, Value.int IntKind.u8 0, Value.int IntKind.u8 0, Value.int IntKind.u8 0, Value.int IntKind.u8 0, Value.int IntKind.u8 0, Value.int IntKind.u8 0, Value.int IntKind.u8 0, Value.int IntKind.u8 0, Value.int IntKind.u8 0, Value.int IntKind.u8 0, Value.int IntKind.u8 0, Value.int IntKind.u8 0, Value.int IntKind.u8 0, Value.int IntKind.u8 0, Value.int IntKind.u8 0, Value.int IntKind.u8 0, Value.int IntKind.u8 0, Value.int IntKind.u8 0].map AV.v)), (69, [AV.v (Value.int IntKind.u64 0)]), (71, [AV.v (Value.nilFunc)]), (72, [AV.v (Value.int IntKind.u64 0)]), (73, [AV.v (Value.nilFunc)]), (74, ([Value.pointer none, Value.pointer none, Value.pointer none, Value.string (⟨#[]⟩ : ByteArray)].map AV.v)), (75, ([Value.pointer none, Value.pointer none, Value.pointer none, Value.string (⟨#[]⟩ : ByteArray)].map AV.v)), (76, ([].map AV.v)), (77, ([].map AV.v)), (78, ([].map AV.v)), (79, [AV.v (Value.nilFunc)]), (80, [AV.v (Value.int IntKind.u8 0)]), (81, [AV.v (Value.int IntKind.u8 0)]), (82, [AV.v (Value.nilFunc)]), (83, [AV.v (Value.pointer none)]), (84, [AV.v (Value.int IntKind.i32 0)]), (85, [AV.v (Value.int IntKind.i32 0)]), (86, ([Value.int IntKind.u64 0, Value.int IntKind.u64 0, Value.int IntKind.u32 0, Value.int IntKind.u8 0, Value.int IntKind.u8 0, Value.int IntKind.u8 0, Value.int IntKind.u8 0, Value.nilFunc, Value.pointer none, Value.int IntKind.i32 0, Value.int IntKind.i32 0].map AV.v)), (87, ([Value.int IntKind.u64 0, Value.int IntKind.u64 0, Value.int IntKind.u32 0, Value.int IntKind.u8 0, Value.int IntKind.u8 0, Value.int IntKind.u8 0, Value.int IntKind.u8 0, Value.nilFunc, Value.pointer none, Value.int IntKind.i32 0, Value.int IntKind.i32 0].map AV.v)), (88, [AV.v (Value.pointer none)])]
  sl := [(33, (5, 1, 1, [AV.v (Value.int IntKind.u8 0)])), (35, (23, 3, 32, ([Value.int IntKind.i64 0, Value.int IntKind.i64 0, Value.string (⟨#[]⟩ : ByteArray)].map AV.v))), (54, (21, 1, 4, [AV.v (Value.int IntKind.i32 0)])), (58, (23, 3, 32, ([Value.int IntKind.i64 0, Value.int IntKind.i64 0, Value.string (⟨#[]⟩ : ByteArray)].map AV.v))), (60, (3, 1, 8, [AV.v (Value.int IntKind.i64 0)]))]
  ar := [(53, (8, 21, 1)), (59, (4, 49, 2)), (65, (256, 5, 1)), (68, (16, 67, 2)), (76, (0, 16, 1))]
  ly := [(7, ([AV.v (Value.int IntKind.i64 0), AV.v (Value.int IntKind.i64 0), AV.v (Value.bool false), AV.v (Value.int IntKind.u8 0)], [(0, 1), (1, 1), (2, 1), (3, 1)])), (8, ([AV.v (Value.int IntKind.i64 0), AV.v (Value.int IntKind.i64 0), AV.v (Value.bool false), AV.v (Value.int IntKind.u8 0)], [(0, 1), (1, 1), (2, 1), (3, 1)])), (13, ([AV.v (Value.string (⟨#[]⟩ : ByteArray)), AV.v (Value.int IntKind.u64 0)], [(0, 1), (1, 1)])), (14, ([AV.v (Value.string (⟨#[]⟩ : ByteArray)), AV.v (Value.int IntKind.u64 0)], [(0, 1), (1, 1)])), (18, ([AV.v (Value.pointer none)], [(0, 1)])), (19, ([AV.v (Value.pointer none)], [(0, 1)])), (22, ([AV.v (Value.int IntKind.i64 0), AV.v (Value.int IntKind.i64 0), AV.v (Value.string (⟨#[]⟩ : ByteArray))], [(0, 1), (1, 1), (2, 1)])), (23, ([AV.v (Value.int IntKind.i64 0), AV.v (Value.int IntKind.i64 0), AV.v (Value.string (⟨#[]⟩ : ByteArray))], [(0, 1), (1, 1), (2, 1)])), (48, ([AV.v (Value.bool false), AV.v (Value.bool false)], [(0, 1), (1, 1)])), (49, ([AV.v (Value.bool false), AV.v (Value.bool false)], [(0, 1), (1, 1)])), (53, ([AV.v (Value.int IntKind.i32 0), AV.v (Value.int IntKind.i32 0), AV.v (Value.int IntKind.i32 0), AV.v (Value.int IntKind.i32 0), AV.v (Value.int IntKind.i32 0), AV.v (Value.int IntKind.i32 0), AV.v (Value.int IntKind.i32 0), AV.v (Value.int IntKind.i32 0)], [(0, 1), (1, 1), (2, 1), (3, 1), (4, 1), (5, 1), (6, 1), (7, 1)])), (59, ([AV.v (Value.bool false), AV.v (Value.bool false), AV.v (Value.bool false), AV.v (Value.bool false), AV.v (Value.bool false), AV.v (Value.bool false), AV.v (Value.bool false), AV.v (Value.bool false)], [(0, 2), (2, 2), (4, 2), (6, 2)])), (66, ([AV.v (Value.int IntKind.u8 0), AV.v (Value.int IntKind.u8 0)], [(0, 1), (1, 1)])), (67, ([AV.v (Value.int IntKind.u8 0), AV.v (Value.int IntKind.u8 0)], [(0, 1), (1, 1)])), (68, ([AV.v (Value.int IntKind.u8 0), AV.v (Value.int IntKind.u8 0), AV.v (Value.int IntKind.u8 0), AV.v (Value.int IntKind.u8 0), AV.v (Value.int IntKind.u8 0), AV.v (Value.int IntKind.u8 0), AV.v (Value.int IntKind.u8 0), AV.v (Value.int IntKind.u8 0), AV.v (Value.int IntKind.u8 0), AV.v (Value.int IntKind.u8 0), AV.v (Value.int IntKind.u8 0), AV.v (Value.int IntKind.u8 0), AV.v (Value.int IntKind.u8 0), AV.v (Value.int IntKind.u8 0), AV.v (Value.int IntKind.u8 0), AV.v (Value.int IntKind.u8 0), AV.v (Value.int IntKind.u8 0), AV.v (Value.int IntKind.u8 0), AV.v (Value.int IntKind.u8 0), AV.v (Value.int IntKind.u8 0), AV.v (Value.int IntKind.u8 0), AV.v (Value.int IntKind.u8 0), AV.v (Value.int IntKind.u8 0), AV.v (Value.int IntKind.u8 0), AV.v (Value.int IntKind.u8 0), AV.v (Value.int IntKind.u8 0), AV.v (Value.int IntKind.u8 0), AV.v (Value.int IntKind.u8 0), AV.v (Value.int IntKind.u8 0), AV.v (Value.int IntKind.u8 0), AV.v (Value.int IntKind.u8 0), AV.v (Value.int IntKind.u8 0)], [(0, 2), (2, 2), (4, 2), (6, 2), (8, 2), (10, 2), (12, 2), (14, 2), (16, 2), (18, 2), (20, 2), (22, 2), (24, 2), (26, 2), (28, 2), (30, 2)])), (74, ([AV.v (Value.pointer none), AV.v (Value.pointer none), AV.v (Value.pointer none), AV.v (Value.string (⟨#[]⟩ : ByteArray))], [(0, 1), (1, 1), (2, 1), (3, 1)])), (75, ([AV.v (Value.pointer none), AV.v (Value.pointer none), AV.v (Value.pointer none), AV.v (Value.string (⟨#[]⟩ : ByteArray))], [(0, 1), (1, 1), (2, 1), (3, 1)])), (76, ([], [])), (77, ([], [(0, 0)])), (78, ([], [(0, 0)])), (86, ([AV.v (Value.int IntKind.u64 0), AV.v (Value.int IntKind.u64 0), AV.v (Value.int IntKind.u32 0), AV.v (Value.int IntKind.u8 0), AV.v (Value.int IntKind.u8 0), AV.v (Value.int IntKind.u8 0), AV.v (Value.int IntKind.u8 0), AV.v Value.nilFunc, AV.v (Value.pointer none), AV.v (Value.int IntKind.i32 0), AV.v (Value.int IntKind.i32 0)], [(0, 1), (1, 1), (2, 1), (3, 1), (4, 1), (5, 1), (6, 1), (7, 1), (8, 1), (9, 1), (10, 1)])), (87, ([AV.v (Value.int IntKind.u64 0), AV.v (Value.int IntKind.u64 0), AV.v (Value.int IntKind.u32 0), AV.v (Value.int IntKind.u8 0), AV.v (Value.int IntKind.u8 0), AV.v (Value.int IntKind.u8 0), AV.v (Value.int IntKind.u8 0), AV.v Value.nilFunc, AV.v (Value.pointer none), AV.v (Value.int IntKind.i32 0), AV.v (Value.int IntKind.i32 0)], [(0, 1), (1, 1), (2, 1), (3, 1), (4, 1), (5, 1), (6, 1), (7, 1), (8, 1), (9, 1), (10, 1)]))]
  fd := [(7, [(0, 2, 1), (1, 3, 1), (2, 4, 1), (3, 6, 1)]), (8, [(0, 2, 1), (1, 3, 1), (2, 4, 1), (3, 6, 1)]), (13, [(0, 9, 1), (1, 12, 1)]), (14, [(0, 9, 1), (1, 12, 1)]), (18, [(0, 17, 1)]), (19, [(0, 17, 1)]), (22, [(0, 3, 1), (1, 3, 1), (2, 9, 1)]), (23, [(0, 3, 1), (1, 3, 1), (2, 9, 1)]), (48, [(0, 4, 1), (1, 4, 1)]), (49, [(0, 4, 1), (1, 4, 1)]), (66, [(0, 5, 1), (1, 5, 1)]), (67, [(0, 5, 1), (1, 5, 1)]), (74, [(0, 17, 1), (1, 17, 1), (2, 17, 1), (3, 9, 1)]), (75, [(0, 17, 1), (1, 17, 1), (2, 17, 1), (3, 9, 1)]), (77, [(0, 76, 0)]), (78, [(0, 76, 0)]), (86, [(0, 12, 1), (1, 12, 1), (2, 45, 1), (3, 80, 1), (4, 5, 1), (5, 5, 1), (6, 81, 1), (7, 82, 1), (8, 83, 1), (9, 84, 1), (10, 85, 1)]), (87, [(0, 12, 1), (1, 12, 1), (2, 45, 1), (3, 80, 1), (4, 5, 1), (5, 5, 1), (6, 81, 1), (7, 82, 1), (8, 83, 1), (9, 84, 1), (10, 85, 1)])]
  eq := [22, 23]
theorem tabOK : TabOK env.P tab where
  knd := get_all (p := fun t x => kindOf Tryd.prog t = some x) (List.forall_mem_cons.2 ⟨kindOf_0, (List.forall_mem_cons.2 ⟨kindOf_1, (List.forall_mem_cons.2 ⟨kindOf_2, (List.forall_mem_cons.2 ⟨kindOf_3, (List.forall_mem_cons.2 ⟨kindOf_4, (List.forall_mem_cons.2 ⟨kindOf_5, (List.forall_mem_cons.2 ⟨kindOf_6, (List.forall_mem_cons.2 ⟨kindOf_7, (List.forall_mem_cons.2 ⟨kindOf_8, (List.forall_mem_cons.2 ⟨kindOf_9, (List.forall_mem_cons.2 ⟨kindOf_10, (List.forall_mem_cons.2 ⟨kindOf_11, (List.forall_mem_cons.2 ⟨kindOf_12, (List.forall_mem_cons.2 ⟨kindOf_13, (List.forall_mem_cons.2 ⟨kindOf_14, (List.forall_mem_cons.2 ⟨kindOf_15, (List.forall_mem_cons.2 ⟨kindOf_16, (List.forall_mem_cons.2 ⟨kindOf_17, (List.forall_mem_cons.2 ⟨kindOf_18, (List.forall_mem_cons.2 ⟨kindOf_19, (List.forall_mem_cons.2 ⟨kindOf_20, (List.forall_mem_cons.2 ⟨kindOf_21, (List.forall_mem_cons.2 ⟨kindOf_22, (List.forall_mem_cons.2 ⟨kindOf_23, (List.forall_mem_cons.2 ⟨kindOf_24, (List.forall_mem_cons.2 ⟨kindOf_25, (List.forall_mem_cons.2 ⟨kindOf_26, (List.forall_mem_cons.2 ⟨kindOf_27, (List.forall_mem_cons.2 ⟨kindOf_28, (List.forall_mem_cons.2 ⟨kindOf_29, (List.forall_mem_cons.2 ⟨kindOf_30, (List.forall_mem_cons.2 ⟨kindOf_31, (List.forall_mem_cons.2 ⟨kindOf_32, (List.forall_mem_cons.2 ⟨kindOf_33, (List.forall_mem_cons.2 ⟨kindOf_34, (List.forall_mem_cons.2 ⟨kindOf_35, (List.forall_mem_cons.2 ⟨kindOf_36, (List.forall_mem_cons.2 ⟨kindOf_37, (List.forall_mem_cons.2 ⟨kindOf_38, (List.forall_mem_cons.2 ⟨kindOf_39, (List.forall_mem_cons.2 ⟨kindOf_40, (List.forall_mem_cons.2 ⟨kindOf_41, (List.forall_mem_cons.2 ⟨kindOf_42, (List.forall_mem_cons.2 ⟨kindOf_43, (List.forall_mem_cons.2 ⟨kindOf_44, (List.forall_mem_cons.2 ⟨kindOf_45, (List.forall_mem_cons.2 ⟨kindOf_46, (List.forall_mem_cons.2 ⟨kindOf_47, (List.forall_mem_cons.2 ⟨kindOf_48, (List.forall_mem_cons.2 ⟨kindOf_49, (List.forall_mem_cons.2 ⟨kindOf_50, (List.forall_mem_cons.2 ⟨kindOf_51, (List.forall_mem_cons.2 ⟨kindOf_52, (List.forall_mem_cons.2 ⟨kindOf_53, (List.forall_mem_cons.2 ⟨kindOf_54, (List.forall_mem_cons.2 ⟨kindOf_55, (List.forall_mem_cons.2 ⟨kindOf_56, (List.forall_mem_cons.2 ⟨kindOf_57, (List.forall_mem_cons.2 ⟨kindOf_58, (List.forall_mem_cons.2 ⟨kindOf_59, (List.forall_mem_cons.2 ⟨kindOf_60, (List.forall_mem_cons.2 ⟨kindOf_61, (List.forall_mem_cons.2 ⟨kindOf_62, (List.forall_mem_cons.2 ⟨kindOf_63, (List.forall_mem_cons.2 ⟨kindOf_64, (List.forall_mem_cons.2 ⟨kindOf_65, (List.forall_mem_cons.2 ⟨kindOf_66, (List.forall_mem_cons.2 ⟨kindOf_67, (List.forall_mem_cons.2 ⟨kindOf_68, (List.forall_mem_cons.2 ⟨kindOf_69, (List.forall_mem_cons.2 ⟨kindOf_70, (List.forall_mem_cons.2 ⟨kindOf_71, (List.forall_mem_cons.2 ⟨kindOf_72, (List.forall_mem_cons.2 ⟨kindOf_73, (List.forall_mem_cons.2 ⟨kindOf_74, (List.forall_mem_cons.2 ⟨kindOf_75, (List.forall_mem_cons.2 ⟨kindOf_76, (List.forall_mem_cons.2 ⟨kindOf_77, (List.forall_mem_cons.2 ⟨kindOf_78, (List.forall_mem_cons.2 ⟨kindOf_79, (List.forall_mem_cons.2 ⟨kindOf_80, (List.forall_mem_cons.2 ⟨kindOf_81, (List.forall_mem_cons.2 ⟨kindOf_82, (List.forall_mem_cons.2 ⟨kindOf_83, (List.forall_mem_cons.2 ⟨kindOf_84, (List.forall_mem_cons.2 ⟨kindOf_85, (List.forall_mem_cons.2 ⟨kindOf_86, (List.forall_mem_cons.2 ⟨kindOf_87, (List.forall_mem_cons.2 ⟨kindOf_88, (fun _ h => nomatch h)⟩)⟩)⟩)⟩)⟩)⟩)⟩)⟩)⟩)⟩)⟩)⟩)⟩)⟩)⟩)⟩)⟩)⟩)⟩)⟩)⟩)⟩)⟩)⟩)⟩)⟩)⟩)⟩)⟩)⟩)⟩)⟩)⟩)⟩)⟩)⟩)⟩)⟩)⟩)⟩)⟩)⟩)⟩)⟩)⟩)⟩)⟩)⟩)⟩)⟩)⟩)⟩)⟩)⟩)⟩)⟩)⟩)⟩)⟩)⟩)⟩)⟩)⟩)⟩)⟩)⟩)⟩)⟩)⟩)⟩)⟩)⟩)⟩)⟩)⟩)⟩)⟩)⟩)⟩)⟩)⟩)⟩)⟩)⟩)⟩)⟩)⟩)⟩)⟩)
  tz := get_all (p := fun t x => tsz Tryd.prog t = some x) (List.forall_mem_cons.2 ⟨tsz_0, (List.forall_mem_cons.2 ⟨tsz_1, (List.forall_mem_cons.2 ⟨tsz_2, (List.forall_mem_cons.2 ⟨tsz_3, (List.forall_mem_cons.2 ⟨tsz_4, (List.forall_mem_cons.2 ⟨tsz_5, (List.forall_mem_cons.2 ⟨tsz_6, (List.forall_mem_cons.2 ⟨tsz_7, (List.forall_mem_cons.2 ⟨tsz_8, (List.forall_mem_cons.2 ⟨tsz_9, (List.forall_mem_cons.2 ⟨tsz_10, (List.forall_mem_cons.2 ⟨tsz_11, (List.forall_mem_cons.2 ⟨tsz_12, (List.forall_mem_cons.2 ⟨tsz_13, (List.forall_mem_cons.2 ⟨tsz_14, (List.forall_mem_cons.2 ⟨tsz_15, (List.forall_mem_cons.2 ⟨tsz_16, (List.forall_mem_cons.2 ⟨tsz_17, (List.forall_mem_cons.2 ⟨tsz_18, (List.forall_mem_cons.2 ⟨tsz_19, (List.forall_mem_cons.2 ⟨tsz_20, (List.forall_mem_cons.2 ⟨tsz_21, (List.forall_mem_cons.2 ⟨tsz_22, (List.forall_mem_cons.2 ⟨tsz_23, (List.forall_mem_cons.2 ⟨tsz_24, (List.forall_mem_cons.2 ⟨tsz_25, (List.forall_mem_cons.2 ⟨tsz_26, (List.forall_mem_cons.2 ⟨tsz_27, (List.forall_mem_cons.2 ⟨tsz_28, (List.forall_mem_cons.2 ⟨tsz_29, (List.forall_mem_cons.2 ⟨tsz_30, (List.forall_mem_cons.2 ⟨tsz_31, (List.forall_mem_cons.2 ⟨tsz_32, (List.forall_mem_cons.2 ⟨tsz_33, (List.forall_mem_cons.2 ⟨tsz_34, (List.forall_mem_cons.2 ⟨tsz_35, (List.forall_mem_cons.2 ⟨tsz_36, (List.forall_mem_cons.2 ⟨tsz_37, (List.forall_mem_cons.2 ⟨tsz_38, (List.forall_mem_cons.2 ⟨tsz_39, (List.forall_mem_cons.2 ⟨tsz_40, (List.forall_mem_cons.2 ⟨tsz_41, (List.forall_mem_cons.2 ⟨tsz_42, (List.forall_mem_cons.2 ⟨tsz_43, (List.forall_mem_cons.2 ⟨tsz_44, (List.forall_mem_cons.2 ⟨tsz_45, (List.forall_mem_cons.2 ⟨tsz_46, (List.forall_mem_cons.2 ⟨tsz_47, (List.forall_mem_cons.2 ⟨tsz_48, (List.forall_mem_cons.2 ⟨tsz_49, (List.forall_mem_cons.2 ⟨tsz_50, (List.forall_mem_cons.2 ⟨tsz_51, (List.forall_mem_cons.2 ⟨tsz_52, (List.forall_mem_cons.2 ⟨tsz_53, (List.forall_mem_cons.2 ⟨tsz_54, (List.forall_mem_cons.2 ⟨tsz_55, (List.forall_mem_cons.2 ⟨tsz_56, (List.forall_mem_cons.2 ⟨tsz_57, (List.forall_mem_cons.2 ⟨tsz_58, (List.forall_mem_cons.2 ⟨tsz_59, (List.forall_mem_cons.2 ⟨tsz_60, (List.forall_mem_cons.2 ⟨tsz_61, (List.forall_mem_cons.2 ⟨tsz_62, (List.forall_mem_cons.2 ⟨tsz_63, (List.forall_mem_cons.2 ⟨tsz_64, (List.forall_mem_cons.2 ⟨tsz_65, (List.forall_mem_cons.2 ⟨tsz_66, (List.forall_mem_cons.2 ⟨tsz_67, (List.forall_mem_cons.2 ⟨tsz_68, (List.forall_mem_cons.2 ⟨tsz_69, (List.forall_mem_cons.2 ⟨tsz_70, (List.forall_mem_cons.2 ⟨tsz_71, (List.forall_mem_cons.2 ⟨tsz_72, (List.forall_mem_cons.2 ⟨tsz_73, (List.forall_mem_cons.2 ⟨tsz_74, (List.forall_mem_cons.2 ⟨tsz_75, (List.forall_mem_cons.2 ⟨tsz_76, (List.forall_mem_cons.2 ⟨tsz_77, (List.forall_mem_cons.2 ⟨tsz_78, (List.forall_mem_cons.2 ⟨tsz_79, (List.forall_mem_cons.2 ⟨tsz_80, (List.forall_mem_cons.2 ⟨tsz_81, (List.forall_mem_cons.2 ⟨tsz_82, (List.forall_mem_cons.2 ⟨tsz_83, (List.forall_mem_cons.2 ⟨tsz_84, (List.forall_mem_cons.2 ⟨tsz_85, (List.forall_mem_cons.2 ⟨tsz_86, (List.forall_mem_cons.2 ⟨tsz_87, (List.forall_mem_cons.2 ⟨tsz_88, (fun _ h => nomatch h)⟩)⟩)⟩)⟩)⟩)⟩)⟩)⟩)⟩)⟩)⟩)⟩)⟩)⟩)⟩)⟩)⟩)⟩)⟩)⟩)⟩)⟩)⟩)⟩)⟩)⟩)⟩)⟩)⟩)⟩)⟩)⟩)⟩)⟩)⟩)⟩)⟩)⟩)⟩)⟩)⟩)⟩)⟩)⟩)⟩)⟩)⟩)⟩)⟩)⟩)⟩)⟩)⟩)⟩)⟩)⟩)⟩)⟩)⟩)⟩)⟩)⟩)⟩)⟩)⟩)⟩)⟩)⟩)⟩)⟩)⟩)⟩)⟩)⟩)⟩)⟩)⟩)⟩)⟩)⟩)⟩)⟩)⟩)⟩)⟩)⟩)⟩)⟩)⟩)
  zc := get_all (p := fun t cs => ∃ z n b, ti Tryd.prog t = some (some z, n, b) ∧ cellsOf (ofV z) = some cs) (List.forall_mem_cons.2 ⟨⟨_, _, _, ti_1, rfl⟩, (List.forall_mem_cons.2 ⟨⟨_, _, _, ti_2, rfl⟩, (List.forall_mem_cons.2 ⟨⟨_, _, _, ti_3, rfl⟩, (List.forall_mem_cons.2 ⟨⟨_, _, _, ti_4, rfl⟩, (List.forall_mem_cons.2 ⟨⟨_, _, _, ti_5, rfl⟩, (List.forall_mem_cons.2 ⟨⟨_, _, _, ti_6, rfl⟩, (List.forall_mem_cons.2 ⟨⟨_, _, _, ti_7, rfl⟩, (List.forall_mem_cons.2 ⟨⟨_, _, _, ti_8, rfl⟩, (List.forall_mem_cons.2 ⟨⟨_, _, _, ti_9, rfl⟩, (List.forall_mem_cons.2 ⟨⟨_, _, _, ti_10, rfl⟩, (List.forall_mem_cons.2 ⟨⟨_, _, _, ti_11, rfl⟩, (List.forall_mem_cons.2 ⟨⟨_, _, _, ti_12, rfl⟩, (List.forall_mem_cons.2 ⟨⟨_, _, _, ti_13, rfl⟩, (List.forall_mem_cons.2 ⟨⟨_, _, _, ti_14, rfl⟩, (List.forall_mem_cons.2 ⟨⟨_, _, _, ti_15, rfl⟩, (List.forall_mem_cons.2 ⟨⟨_, _, _, ti_16, rfl⟩, (List.forall_mem_cons.2 ⟨⟨_, _, _, ti_17, rfl⟩, (List.forall_mem_cons.2 ⟨⟨_, _, _, ti_18, rfl⟩, (List.forall_mem_cons.2 ⟨⟨_, _, _, ti_19, rfl⟩, (List.forall_mem_cons.2 ⟨⟨_, _, _, ti_20, rfl⟩, (List.forall_mem_cons.2 ⟨⟨_, _, _, ti_21, rfl⟩, (List.forall_mem_cons.2 ⟨⟨_, _, _, ti_22, rfl⟩, (List.forall_mem_cons.2 ⟨⟨_, _, _, ti_23, rfl⟩, (List.forall_mem_cons.2 ⟨⟨_, _, _, ti_24, rfl⟩, (List.forall_mem_cons.2 ⟨⟨_, _, _, ti_25, rfl⟩, (List.forall_mem_cons.2 ⟨⟨_, _, _, ti_26, rfl⟩, (List.forall_mem_cons.2 ⟨⟨_, _, _, ti_27, rfl⟩, (List.forall_mem_cons.2 ⟨⟨_, _, _, ti_28, rfl⟩, (List.forall_mem_cons.2 ⟨⟨_, _, _, ti_29, rfl⟩, (List.forall_mem_cons.2 ⟨⟨_, _, _, ti_30, rfl⟩, (List.forall_mem_cons.2 ⟨⟨_, _, _, ti_31, rfl⟩, (List.forall_mem_cons.2 ⟨⟨_, _, _, ti_32, rfl⟩, (List.forall_mem_cons.2 ⟨⟨_, _, _, ti_33, rfl⟩, (List.forall_mem_cons.2 ⟨⟨_, _, _, ti_34, rfl⟩, (List.forall_mem_cons.2 ⟨⟨_, _, _, ti_35, rfl⟩, (List.forall_mem_cons.2 ⟨⟨_, _, _, ti_36, rfl⟩, (List.forall_mem_cons.2 ⟨⟨_, _, _, ti_38, rfl⟩, (List.forall_mem_cons.2 ⟨⟨_, _, _, ti_39, rfl⟩, (List.forall_mem_cons.2 ⟨⟨_, _, _, ti_40, rfl⟩, (List.forall_mem_cons.2 ⟨⟨_, _, _, ti_41, rfl⟩, (List.forall_mem_cons.2 ⟨⟨_, _, _, ti_42, rfl⟩, (List.forall_mem_cons.2 ⟨⟨_, _, _, ti_43, rfl⟩, (List.forall_mem_cons.2 ⟨⟨_, _, _, ti_44, rfl⟩, (List.forall_mem_cons.2 ⟨⟨_, _, _, ti_45, rfl⟩, (List.forall_mem_cons.2 ⟨⟨_, _, _, ti_46, rfl⟩, (List.forall_mem_cons.2 ⟨⟨_, _, _, ti_47, rfl⟩, (List.forall_mem_cons.2 ⟨⟨_, _, _, ti_48, rfl⟩, (List.forall_mem_cons.2 ⟨⟨_, _, _, ti_49, rfl⟩, (List.forall_mem_cons.2 ⟨⟨_, _, _, ti_51, rfl⟩, (List.forall_mem_cons.2 ⟨⟨_, _, _, ti_52, rfl⟩, (List.forall_mem_cons.2 ⟨⟨_, _, _, ti_53, rfl⟩, (List.forall_mem_cons.2 ⟨⟨_, _, _, ti_54, rfl⟩, (List.forall_mem_cons.2 ⟨⟨_, _, _, ti_55, rfl⟩, (List.forall_mem_cons.2 ⟨⟨_, _, _, ti_56, rfl⟩, (List.forall_mem_cons.2 ⟨⟨_, _, _, ti_57, rfl⟩, (List.forall_mem_cons.2 ⟨⟨_, _, _, ti_58, rfl⟩, (List.forall_mem_cons.2 ⟨⟨_, _, _, ti_59, rfl⟩, (List.forall_mem_cons.2 ⟨⟨_, _, _, ti_60, rfl⟩, (List.forall_mem_cons.2 ⟨⟨_, _, _, ti_62, rfl⟩, (List.forall_mem_cons.2 ⟨⟨_, _, _, ti_63, rfl⟩, (List.forall_mem_cons.2 ⟨⟨_, _, _, ti_64, rfl⟩, (List.forall_mem_cons.2 ⟨⟨_, _, _, ti_66, rfl⟩, (List.forall_mem_cons.2 ⟨⟨_, _, _, ti_67, rfl⟩, (List.forall_mem_cons.2 ⟨⟨_, _, _, ti_68, rfl⟩, (List.forall_mem_cons.2 ⟨⟨_, _, _, ti_69, rfl⟩, (List.forall_mem_cons.2 ⟨⟨_, _, _, ti_71, rfl⟩, (List.forall_mem_cons.2 ⟨⟨_, _, _, ti_72, rfl⟩, (List.forall_mem_cons.2 ⟨⟨_, _, _, ti_73, rfl⟩, (List.forall_mem_cons.2 ⟨⟨_, _, _, ti_74, rfl⟩, (List.forall_mem_cons.2 ⟨⟨_, _, _, ti_75, rfl⟩, (List.forall_mem_cons.2 ⟨⟨_, _, _, ti_76, rfl⟩, (List.forall_mem_cons.2 ⟨⟨_, _, _, ti_77, rfl⟩, (List.forall_mem_cons.2 ⟨⟨_, _, _, ti_78, rfl⟩, (List.forall_mem_cons.2 ⟨⟨_, _, _, ti_79, rfl⟩, (List.forall_mem_cons.2 ⟨⟨_, _, _, ti_80, rfl⟩, (List.forall_mem_cons.2 ⟨⟨_, _, _, ti_81, rfl⟩, (List.forall_mem_cons.2 ⟨⟨_, _, _, ti_82, rfl⟩, (List.forall_mem_cons.2 ⟨⟨_, _, _, ti_83, rfl⟩, (List.forall_mem_cons.2 ⟨⟨_, _, _, ti_84, rfl⟩, (List.forall_mem_cons.2 ⟨⟨_, _, _, ti_85, rfl⟩, (List.forall_mem_cons.2 ⟨⟨_, _, _, ti_86, rfl⟩, (List.forall_mem_cons.2 ⟨⟨_, _, _, ti_87, rfl⟩, (List.forall_mem_cons.2 ⟨⟨_, _, _, ti_88, rfl⟩, (fun _ h => nomatch h)⟩)⟩)⟩)⟩)⟩)⟩)⟩)⟩)⟩)⟩)⟩)⟩)⟩)⟩)⟩)⟩)⟩)⟩)⟩)⟩)⟩)⟩)⟩)⟩)⟩)⟩)⟩)⟩)⟩)⟩)⟩)⟩)⟩)⟩)⟩)⟩)⟩)⟩)⟩)⟩)⟩)⟩)⟩)⟩)⟩)⟩)⟩)⟩)⟩)⟩)⟩)⟩)⟩)⟩)⟩)⟩)⟩)⟩)⟩)⟩)⟩)⟩)⟩)⟩)⟩)⟩)⟩)⟩)⟩)⟩)⟩)⟩)⟩)⟩)⟩)⟩)⟩)⟩)⟩)⟩)⟩)⟩)⟩)
  sl := fun t e n b cs => get_all (l := tab.sl) (p := fun t (x : TypeId × Nat × Nat × List AV) => ∃ z, sle Tryd.prog t = some (x.1, some z, x.2.1, x.2.2.1) ∧ cellsOf (ofV z) = some x.2.2.2 ∧ z.cells.size = x.2.1 ∧ 0 < x.2.1 ∧ x.2.2.2.length = x.2.1) (List.forall_mem_cons.2 ⟨⟨_, sle_33, rfl, rfl, Nat.succ_pos _, rfl⟩, (List.forall_mem_cons.2 ⟨⟨_, sle_35, rfl, rfl, Nat.succ_pos _, rfl⟩, (List.forall_mem_cons.2 ⟨⟨_, sle_54, rfl, rfl, Nat.succ_pos _, rfl⟩, (List.forall_mem_cons.2 ⟨⟨_, sle_58, rfl, rfl, Nat.succ_pos _, rfl⟩, (List.forall_mem_cons.2 ⟨⟨_, sle_60, rfl, rfl, Nat.succ_pos _, rfl⟩, (fun _ h => nomatch h)⟩)⟩)⟩)⟩)⟩) t (e, n, b, cs)
  ar := get_all (p := fun t x => arr Tryd.prog t = some x) (List.forall_mem_cons.2 ⟨arr_53, (List.forall_mem_cons.2 ⟨arr_59, (List.forall_mem_cons.2 ⟨arr_65, (List.forall_mem_cons.2 ⟨arr_68, (List.forall_mem_cons.2 ⟨arr_76, (fun _ h => nomatch h)⟩)⟩)⟩)⟩)⟩)
  ly := get_all (p := fun t x => lay Tryd.prog t = some x) (List.forall_mem_cons.2 ⟨lay_7, (List.forall_mem_cons.2 ⟨lay_8, (List.forall_mem_cons.2 ⟨lay_13, (List.forall_mem_cons.2 ⟨lay_14, (List.forall_mem_cons.2 ⟨lay_18, (List.forall_mem_cons.2 ⟨lay_19, (List.forall_mem_cons.2 ⟨lay_22, (List.forall_mem_cons.2 ⟨lay_23, (List.forall_mem_cons.2 ⟨lay_48, (List.forall_mem_cons.2 ⟨lay_49, (List.forall_mem_cons.2 ⟨lay_53, (List.forall_mem_cons.2 ⟨lay_59, (List.forall_mem_cons.2 ⟨lay_66, (List.forall_mem_cons.2 ⟨lay_67, (List.forall_mem_cons.2 ⟨lay_68, (List.forall_mem_cons.2 ⟨lay_74, (List.forall_mem_cons.2 ⟨lay_75, (List.forall_mem_cons.2 ⟨lay_76, (List.forall_mem_cons.2 ⟨lay_77, (List.forall_mem_cons.2 ⟨lay_78, (List.forall_mem_cons.2 ⟨lay_86, (List.forall_mem_cons.2 ⟨lay_87, (fun _ h => nomatch h)⟩)⟩)⟩)⟩)⟩)⟩)⟩)⟩)⟩)⟩)⟩)⟩)⟩)⟩)⟩)⟩)⟩)⟩)⟩)⟩)⟩)⟩)
  fd := fun t l h f x hx => by
    have := get_all (l := tab.fd) (p := fun t l => Ev.fdAll Tryd.prog t 0 l) (List.forall_mem_cons.2 ⟨⟨fld_7_0, fld_7_1, fld_7_2, fld_7_3, trivial⟩, (List.forall_mem_cons.2 ⟨⟨fld_8_0, fld_8_1, fld_8_2, fld_8_3, trivial⟩, (List.forall_mem_cons.2 ⟨⟨fld_13_0, fld_13_1, trivial⟩, (List.forall_mem_cons.2 ⟨⟨fld_14_0, fld_14_1, trivial⟩, (List.forall_mem_cons.2 ⟨⟨fld_18_0, trivial⟩, (List.forall_mem_cons.2 ⟨⟨fld_19_0, trivial⟩, (List.forall_mem_cons.2 ⟨⟨fld_22_0, fld_22_1, fld_22_2, trivial⟩, (List.forall_mem_cons.2 ⟨⟨fld_23_0, fld_23_1, fld_23_2, trivial⟩, (List.forall_mem_cons.2 ⟨⟨fld_48_0, fld_48_1, trivial⟩, (List.forall_mem_cons.2 ⟨⟨fld_49_0, fld_49_1, trivial⟩, (List.forall_mem_cons.2 ⟨⟨fld_66_0, fld_66_1, trivial⟩, (List.forall_mem_cons.2 ⟨⟨fld_67_0, fld_67_1, trivial⟩, (List.forall_mem_cons.2 ⟨⟨fld_74_0, fld_74_1, fld_74_2, fld_74_3, trivial⟩, (List.forall_mem_cons.2 ⟨⟨fld_75_0, fld_75_1, fld_75_2, fld_75_3, trivial⟩, (List.forall_mem_cons.2 ⟨⟨fld_77_0, trivial⟩, (List.forall_mem_cons.2 ⟨⟨fld_78_0, trivial⟩, (List.forall_mem_cons.2 ⟨⟨fld_86_0, fld_86_1, fld_86_2, fld_86_3, fld_86_4, fld_86_5, fld_86_6, fld_86_7, fld_86_8, fld_86_9, fld_86_10, trivial⟩, (List.forall_mem_cons.2 ⟨⟨fld_87_0, fld_87_1, fld_87_2, fld_87_3, fld_87_4, fld_87_5, fld_87_6, fld_87_7, fld_87_8, fld_87_9, fld_87_10, trivial⟩, (fun _ h => nomatch h)⟩)⟩)⟩)⟩)⟩)⟩)⟩)⟩)⟩)⟩)⟩)⟩)⟩)⟩)⟩)⟩)⟩)⟩) t l h
    have := Ev.fdAll_get this f x hx
    rwa [Nat.zero_add] at this
  eq := fun t h => by
    have h' := List.contains_iff_mem.1 h
    simp only [tab, List.mem_cons, List.not_mem_nil, or_false] at h'
    rcases h' with rfl | rfl
    · exact spanEq_of Tryd.underlying22 (by decide) (by decide) ⟨rfl, rfl, rfl⟩ Tryd.underlying3 Tryd.underlying9 (by kernel_rfl) (by kernel_rfl) (by kernel_rfl) (by kernel_rfl)
    · exact spanEq_of Tryd.underlying23 (by decide) (by decide) ⟨rfl, rfl, rfl⟩ Tryd.underlying3 Tryd.underlying9 (by kernel_rfl) (by kernel_rfl) (by kernel_rfl) (by kernel_rfl)
theorem mixed' (keep : List Nat) (N : Nat) : (Env.P ⟨env.P, env.G, keep, N⟩).follows .mixedOrders = true := by rfl
theorem tabOK' (keep : List Nat) (N : Nat) : TabOK (Env.P ⟨env.P, env.G, keep, N⟩) tab := tabOK
end Go.Proofs.YtdgpilapblipbaaDoor.Abs

/- The reference's texts: sizes, and the first code point. -/
namespace Go.Proofs.YtdgpilapblipbaaDoor.Abs
open Go
set_option maxRecDepth 100000
set_option linter.unusedSimpArgs false
set_option linter.unusedVariables false
attribute [local irreducible] Ev.FinL Ev.brC Ev.Side Ev.Wp Ev.Again Ev.To Ev.Fin
def sizeF (n : Int) : Int := if n < 0 ∨ 1114111 < n ∨ (55296 ≤ n ∧ n ≤ 57343) then 0 else if n < 128 then 1 else if n < 2048 then 2 else if n < 65536 then 3 else 4
def cc40 : CC := (.seq (.reg 0 [⟨0, some 2, (.assign (.const (Value.int .i64 0))), none⟩]) (.seq (.seq (.reg 1 [⟨0, some 3, (.move (.tmp 0)), none⟩, ⟨1, some 4, (.binOp .lss 3 (.tmp 3) (.const (Value.int .i64 0)) 3), none⟩, ⟨2, some 5, (.move (.tmp 4)), none⟩, ⟨3, some 6, (.move (.tmp 0)), (some (5, false))⟩, ⟨4, some 7, (.binOp .gtr 3 (.tmp 6) (.const (Value.int .i64 1114111)) 3), (some (5, false))⟩, ⟨5, some 8, (.pick (.tmp 5) (.const (Value.bool true)) (.tmp 7)), none⟩, ⟨6, some 9, (.move (.tmp 8)), none⟩, ⟨7, some 10, (.move (.tmp 0)), (some (9, false))⟩, ⟨8, some 11, (.binOp .geq 3 (.tmp 10) (.const (Value.int .i64 55296)) 3), (some (9, false))⟩, ⟨9, some 12, (.move (.tmp 11)), (some (9, false))⟩, ⟨10, some 13, (.move (.tmp 0)), (some (12, true))⟩, ⟨11, some 14, (.binOp .leq 3 (.tmp 13) (.const (Value.int .i64 57343)) 3), (some (12, true))⟩, ⟨12, some 15, (.pick (.tmp 12) (.tmp 14) (.const (Value.bool false))), (some (9, false))⟩, ⟨13, some 16, (.pick (.tmp 9) (.const (Value.bool true)) (.tmp 15)), none⟩]) (.cond (.tmp 16) (.seq (.reg 2 [⟨0, some 2, (.assign (.const (Value.int .i64 0))), none⟩]) .ret) .skip)) (.seq (.seq (.reg 3 [⟨0, some 17, (.move (.tmp 0)), none⟩, ⟨1, some 18, (.binOp .lss 3 (.tmp 17) (.const (Value.int .i64 128)) 3), none⟩]) (.cond (.tmp 18) (.seq (.reg 4 [⟨0, some 2, (.assign (.const (Value.int .i64 1))), none⟩]) .ret) .skip)) (.seq (.seq (.reg 5 [⟨0, some 19, (.move (.tmp 0)), none⟩, ⟨1, some 20, (.binOp .lss 3 (.tmp 19) (.const (Value.int .i64 2048)) 3), none⟩]) (.cond (.tmp 20) (.seq (.reg 6 [⟨0, some 2, (.assign (.const (Value.int .i64 2))), none⟩]) .ret) .skip)) (.seq (.seq (.reg 7 [⟨0, some 21, (.move (.tmp 0)), none⟩, ⟨1, some 22, (.binOp .lss 3 (.tmp 21) (.const (Value.int .i64 65536)) 3), none⟩]) (.cond (.tmp 22) (.seq (.reg 8 [⟨0, some 2, (.assign (.const (Value.int .i64 3))), none⟩]) .ret) .skip)) (.seq (.reg 9 [⟨0, some 2, (.assign (.const (Value.int .i64 4))), none⟩]) .ret))))))
theorem comp40 : ∀ c, Tryd.f40.body = some c → comp c = cc40 := by
  intro c h
  have : c = Tryd.f40.body.get rfl := by rw [← Option.some_inj, ← h]; rfl
  rw [this]; rfl
theorem size_call (n : Int) : CallW env 40 [.v (.int .i64 n)] (fun r hs => r = .v (.int .i64 (sizeF n)) ∧ hs = []) := by
  refine Ev.func tabOK [0, 2, 16, 18, 20, 22] 0 Tryd.func40 rfl rfl (by simp [Tryd.ntmps40]) (by rfl) (comp40 _ rfl) (rs := [.tmp 2]) rfl ?_; rw [cc40]; show Ev.Wp _ _ _ _ ⟨[(0, _)], [], 0⟩
  repeat' (first | ((with_reducible refine Ev.sided ?_ ?_); (conv => whnf)) | ((with_reducible refine Ev.w_put ?_); (conv => whnf)) | ((with_reducible refine Ev.w_step ?_); (conv => whnf)) | ((with_reducible refine Ev.w_opt ?_); (conv => whnf)) | ((with_reducible refine Ev.chk_k ?_ ?_); rotate_left; (focus first | rfl | (simp only [Ev.nbeq, Bool.and_true, Bool.true_and, Bool.not_false]; done) | ((repeat' (first | exact Ev.nbeq _ | rfl | refine Bool.and_eq_true_iff.2 ⟨?_, ?_⟩)); done)); conv => whnf) | with_reducible refine Ev.c_dec (fun _ => ?_) (fun _ => ?_) | with_reducible refine Ev.c_not ?_ | with_reducible refine Ev.c_t ?_ | with_reducible refine Ev.c_f ?_ | with_reducible refine Ev.c_br (fun _ => ?_) (fun _ => ?_) | ((with_reducible refine Ev.br_not ?_); conv => whnf) | with_reducible refine Ev.br_dec (fun _ => ?_) (fun _ => ?_) | with_reducible refine Ev.br (fun _ => ?_) (fun _ => ?_) | with_reducible refine Ev.eo_ret ?_ | with_reducible refine Ev.eo_norm ?_ | with_reducible refine Ev.t_norm ?_ | with_reducible refine Ev.k_seq ?_ | ((with_reducible refine Ev.k_reg (hs := []) (tabOK' _ _) (fun Q hQ => ?_)); (simp only [Ev.runE_cons, Ev.runE_nil]); conv => whnf) | (with_reducible refine hQ _ ?_; clear hQ Q) | with_reducible refine Ev.k_cond rfl ?_ | with_reducible refine Ev.k_skip ?_ | with_reducible refine Ev.k_block ?_ | with_reducible refine Ev.k_exit ?_ | with_reducible refine Ev.k_ret ?_ | with_reducible refine Ev.t_ret ?_ | with_reducible refine Ev.t_exit ?_ | with_reducible refine Ev.b_norm ?_ | with_reducible refine Ev.b_ret ?_ | with_reducible refine Ev.b_here ?_ | with_reducible refine Ev.b_off rfl ?_ | ((with_reducible refine Ev.e_ret (fun F hF => ?_)); conv => whnf) | ((with_reducible refine Ev.e_norm (fun F hF => ?_)); conv => whnf) | (with_reducible refine hF _ ?_; clear hF F) | (refine Ev.Side.of ?_; exact Nat.le_of_ble_eq_true rfl))
  all_goals (refine ⟨congrArg (fun z => AV.v (Value.int IntKind.i64 z)) ?_, rfl⟩; unfold sizeF; omega)
def leadP (b m n : Int) : Prop := (240 ≤ b ∧ b < 248 ∧ m = 3 ∧ n = b - 240) ∨ (224 ≤ b ∧ b < 240 ∧ m = 2 ∧ n = b - 224) ∨ (192 ≤ b ∧ b < 224 ∧ m = 1 ∧ n = b - 192) ∨ (b < 128 ∧ m = 0 ∧ n = b)
def accF (s : ByteArray) (n0 : Int) : Nat → Option Int
  | 0 => some n0
  | i + 1 => match accF s n0 i with
    | some n => if 128 ≤ Ev.byt s (i + 1) ∧ Ev.byt s (i + 1) ≤ 191 then some (n * 64 + Ev.byt s (i + 1) - 128) else none
    | none => none
def firstP (t : ByteArray) (n k : Int) : Prop :=
  (n = 0 ∧ k = 0 ∧ (t.size = 0 ∨ (128 ≤ Ev.byt t 0 ∧ (Ev.byt t 0 < 192 ∨ 248 ≤ Ev.byt t 0)) ∨ ∃ m n0, leadP (Ev.byt t 0) m n0 ∧ (t.size < m + 1 ∨ (∃ i : Nat, i ≤ m ∧ accF t n0 i = none) ∨ ∃ n', accF t n0 m.toNat = some n' ∧ sizeF n' ≠ m + 1))) ∨
  (0 < t.size ∧ ∃ m n0, leadP (Ev.byt t 0) m n0 ∧ m + 1 ≤ t.size ∧ accF t n0 m.toNat = some n ∧ sizeF n = m + 1 ∧ k = m + 1)
def cc42 : CC := (.seq (.reg 0 [⟨0, some 2, (.assign (.const (Value.int .i64 0))), none⟩, ⟨1, some 3, (.assign (.const (Value.int .i64 0))), none⟩]) (.seq (.seq (.reg 1 [⟨0, some 9, (.move (.tmp 0)), none⟩, ⟨1, some 10, (.call { callee := .builtin .len, args := #[.tmp 9], argTypes := #[9] }), none⟩, ⟨2, some 11, (.binOp .eql 3 (.tmp 10) (.const (Value.int .i64 0)) 3), none⟩]) (.cond (.tmp 11) (.seq (.reg 2 [⟨0, some 2, (.assign (.const (Value.int .i64 0))), none⟩, ⟨1, some 3, (.assign (.const (Value.int .i64 0))), none⟩]) .ret) .skip)) (.seq (.reg 3 [⟨0, some 12, (.move (.tmp 0)), none⟩, ⟨1, some 13, (.index 9 (.tmp 12) (.const (Value.int .i64 0))), none⟩, ⟨2, some 14, (.convert 5 3 (.tmp 13)), none⟩, ⟨3, some 4, (.assign (.tmp 14)), none⟩]) (.seq (.reg 4 [⟨0, some 5, (.assign (.const (Value.int .i64 0))), none⟩]) (.seq (.reg 5 [⟨0, some 15, (.move (.tmp 4)), none⟩, ⟨1, some 6, (.assign (.tmp 15)), none⟩]) (.seq (.seq (.reg 6 [⟨0, some 16, (.move (.tmp 4)), none⟩, ⟨1, some 17, (.binOp .geq 3 (.tmp 16) (.const (Value.int .i64 240)) 3), none⟩, ⟨2, some 18, (.move (.tmp 17)), none⟩, ⟨3, some 19, (.move (.tmp 4)), (some (18, true))⟩, ⟨4, some 20, (.binOp .lss 3 (.tmp 19) (.const (Value.int .i64 248)) 3), (some (18, true))⟩, ⟨5, some 21, (.pick (.tmp 18) (.tmp 20) (.const (Value.bool false))), none⟩]) (.cond (.tmp 21) (.seq (.reg 7 [⟨0, some 5, (.assign (.const (Value.int .i64 3))), none⟩]) (.reg 8 [⟨0, some 22, (.move (.tmp 4)), none⟩, ⟨1, some 23, (.binOp .sub 3 (.tmp 22) (.const (Value.int .i64 240)) 3), none⟩, ⟨2, some 6, (.assign (.tmp 23)), none⟩])) (.seq (.reg 9 [⟨0, some 24, (.move (.tmp 4)), none⟩, ⟨1, some 25, (.binOp .geq 3 (.tmp 24) (.const (Value.int .i64 224)) 3), none⟩, ⟨2, some 26, (.move (.tmp 25)), none⟩, ⟨3, some 27, (.move (.tmp 4)), (some (26, true))⟩, ⟨4, some 28, (.binOp .lss 3 (.tmp 27) (.const (Value.int .i64 240)) 3), (some (26, true))⟩, ⟨5, some 29, (.pick (.tmp 26) (.tmp 28) (.const (Value.bool false))), none⟩]) (.cond (.tmp 29) (.seq (.reg 10 [⟨0, some 5, (.assign (.const (Value.int .i64 2))), none⟩]) (.reg 11 [⟨0, some 30, (.move (.tmp 4)), none⟩, ⟨1, some 31, (.binOp .sub 3 (.tmp 30) (.const (Value.int .i64 224)) 3), none⟩, ⟨2, some 6, (.assign (.tmp 31)), none⟩])) (.seq (.reg 12 [⟨0, some 32, (.move (.tmp 4)), none⟩, ⟨1, some 33, (.binOp .geq 3 (.tmp 32) (.const (Value.int .i64 192)) 3), none⟩, ⟨2, some 34, (.move (.tmp 33)), none⟩, ⟨3, some 35, (.move (.tmp 4)), (some (34, true))⟩, ⟨4, some 36, (.binOp .lss 3 (.tmp 35) (.const (Value.int .i64 224)) 3), (some (34, true))⟩, ⟨5, some 37, (.pick (.tmp 34) (.tmp 36) (.const (Value.bool false))), none⟩]) (.cond (.tmp 37) (.seq (.reg 13 [⟨0, some 5, (.assign (.const (Value.int .i64 1))), none⟩]) (.reg 14 [⟨0, some 38, (.move (.tmp 4)), none⟩, ⟨1, some 39, (.binOp .sub 3 (.tmp 38) (.const (Value.int .i64 192)) 3), none⟩, ⟨2, some 6, (.assign (.tmp 39)), none⟩])) (.seq (.reg 15 [⟨0, some 40, (.move (.tmp 4)), none⟩, ⟨1, some 41, (.binOp .geq 3 (.tmp 40) (.const (Value.int .i64 128)) 3), none⟩]) (.cond (.tmp 41) (.seq (.reg 16 [⟨0, some 2, (.assign (.const (Value.int .i64 0))), none⟩, ⟨1, some 3, (.assign (.const (Value.int .i64 0))), none⟩]) .ret) .skip)))))))) (.seq (.seq (.reg 17 [⟨0, some 42, (.move (.tmp 0)), none⟩, ⟨1, some 43, (.call { callee := .builtin .len, args := #[.tmp 42], argTypes := #[9] }), none⟩, ⟨2, some 44, (.move (.tmp 5)), none⟩, ⟨3, some 45, (.binOp .add 3 (.tmp 44) (.const (Value.int .i64 1)) 3), none⟩, ⟨4, some 46, (.binOp .lss 3 (.tmp 43) (.tmp 45) 3), none⟩]) (.cond (.tmp 46) (.seq (.reg 18 [⟨0, some 2, (.assign (.const (Value.int .i64 0))), none⟩, ⟨1, some 3, (.assign (.const (Value.int .i64 0))), none⟩]) .ret) .skip)) (.seq (.seq (.reg 19 [⟨0, some 7, (.assign (.const (Value.int .i64 1))), none⟩]) (.block 0 (.loop (.seq (.seq (.reg 20 [⟨0, some 47, (.move (.tmp 7)), none⟩, ⟨1, some 48, (.move (.tmp 5)), none⟩, ⟨2, some 49, (.binOp .leq 3 (.tmp 47) (.tmp 48) 3), none⟩]) (.cond (.tmp 49) .skip (.exit 0))) (.seq (.block 1 (.seq (.reg 22 [⟨0, some 52, (.move (.tmp 0)), none⟩, ⟨1, some 53, (.move (.tmp 7)), none⟩, ⟨2, some 54, (.index 9 (.tmp 52) (.tmp 53)), none⟩, ⟨3, some 55, (.convert 5 3 (.tmp 54)), none⟩, ⟨4, some 8, (.assign (.tmp 55)), none⟩]) (.seq (.seq (.reg 23 [⟨0, some 56, (.move (.tmp 8)), none⟩, ⟨1, some 57, (.binOp .lss 3 (.tmp 56) (.const (Value.int .i64 128)) 3), none⟩, ⟨2, some 58, (.move (.tmp 57)), none⟩, ⟨3, some 59, (.move (.tmp 8)), (some (58, false))⟩, ⟨4, some 60, (.binOp .gtr 3 (.tmp 59) (.const (Value.int .i64 191)) 3), (some (58, false))⟩, ⟨5, some 61, (.pick (.tmp 58) (.const (Value.bool true)) (.tmp 60)), none⟩]) (.cond (.tmp 61) (.seq (.reg 24 [⟨0, some 2, (.assign (.const (Value.int .i64 0))), none⟩, ⟨1, some 3, (.assign (.const (Value.int .i64 0))), none⟩]) .ret) .skip)) (.reg 25 [⟨0, some 62, (.move (.tmp 6)), none⟩, ⟨1, some 63, (.binOp .mul 3 (.tmp 62) (.const (Value.int .i64 64)) 3), none⟩, ⟨2, some 64, (.move (.tmp 8)), none⟩, ⟨3, some 65, (.binOp .add 3 (.tmp 63) (.tmp 64) 3), none⟩, ⟨4, some 66, (.binOp .sub 3 (.tmp 65) (.const (Value.int .i64 128)) 3), none⟩, ⟨5, some 6, (.assign (.tmp 66)), none⟩])))) (.reg 21 [⟨0, some 50, (.move (.tmp 7)), none⟩, ⟨1, some 51, (.binOp .add 3 (.tmp 50) (.const (Value.int .i64 1)) 3), none⟩, ⟨2, some 7, (.assign (.tmp 51)), none⟩])))))) (.seq (.seq (.reg 26 [⟨0, some 67, (.move (.tmp 6)), none⟩, ⟨1, some 68, (.call { callee := .value (.func 40), args := #[.tmp 67], argTypes := #[3] }), none⟩, ⟨2, some 69, (.move (.tmp 5)), none⟩, ⟨3, some 70, (.binOp .add 3 (.tmp 69) (.const (Value.int .i64 1)) 3), none⟩, ⟨4, some 71, (.binOp .neq 3 (.tmp 68) (.tmp 70) 3), none⟩]) (.cond (.tmp 71) (.seq (.reg 27 [⟨0, some 2, (.assign (.const (Value.int .i64 0))), none⟩, ⟨1, some 3, (.assign (.const (Value.int .i64 0))), none⟩]) .ret) .skip)) (.seq (.reg 28 [⟨0, some 72, (.move (.tmp 6)), none⟩, ⟨1, some 73, (.move (.tmp 5)), none⟩, ⟨2, some 74, (.binOp .add 3 (.tmp 73) (.const (Value.int .i64 1)) 3), none⟩, ⟨3, some 2, (.assign (.tmp 72)), none⟩, ⟨4, some 3, (.assign (.tmp 74)), none⟩]) .ret))))))))))
theorem comp42 : ∀ c, Tryd.f42.body = some c → comp c = cc42 := by
  intro c h
  have : c = Tryd.f42.body.get rfl := by rw [← Option.some_inj, ← h]; rfl
  rw [this]; rfl
theorem first_call (t : ByteArray) : CallW env 42 [.v (.string t)] (fun r hs => ∃ n k, r = .tup [.v (.int .i64 n), .v (.int .i64 k)] ∧ firstP t n k ∧ hs = []) := by
  have hb := Ev.byt_lt t 0
  refine Ev.func tabOK [0, 2, 3, 4, 5, 6, 7, 8, 11, 21, 29, 37, 41, 46, 49, 61, 71] 0 Tryd.func42 rfl rfl (by simp [Tryd.ntmps42]) (by rfl) (comp42 _ rfl) (rs := [.tmp 2, .tmp 3]) rfl ?_; rw [cc42]; show Ev.Wp _ _ _ _ ⟨[(0, _)], [], 0⟩
  repeat' (first | (with_reducible refine Ev.join (a := .seq (.reg 6 _) _) (fun s => ∃ m n, s = ⟨[(0, .v (.string t)), (2, .v (.int .i64 0)), (3, .v (.int .i64 0)), (5, .v (.int .i64 m)), (6, .v (.int .i64 n))], [], 0⟩ ∧ leadP (Ev.byt t 0) m n) ?_ ?_) | ((with_reducible refine Ev.sided ?_ ?_); (conv => whnf)) | ((with_reducible refine Ev.w_put ?_); (conv => whnf)) | ((with_reducible refine Ev.w_step ?_); (conv => whnf)) | ((with_reducible refine Ev.w_opt ?_); (conv => whnf)) | ((with_reducible refine Ev.chk_k ?_ ?_); rotate_left; (focus first | rfl | (simp only [Ev.nbeq, Bool.and_true, Bool.true_and, Bool.not_false]; done) | ((repeat' (first | exact Ev.nbeq _ | rfl | refine Bool.and_eq_true_iff.2 ⟨?_, ?_⟩)); done)); conv => whnf) | with_reducible refine Ev.c_dec (fun _ => ?_) (fun _ => ?_) | with_reducible refine Ev.c_not ?_ | with_reducible refine Ev.c_t ?_ | with_reducible refine Ev.c_f ?_ | with_reducible refine Ev.c_br (fun _ => ?_) (fun _ => ?_) | ((with_reducible refine Ev.br_not ?_); conv => whnf) | with_reducible refine Ev.br_dec (fun _ => ?_) (fun _ => ?_) | with_reducible refine Ev.br (fun _ => ?_) (fun _ => ?_) | with_reducible refine Ev.eo_ret ?_ | with_reducible refine Ev.eo_norm ?_ | with_reducible refine Ev.t_norm ?_ | with_reducible refine Ev.k_seq ?_ | ((with_reducible refine Ev.k_reg (hs := []) (tabOK' _ _) (fun Q hQ => ?_)); (simp only [Ev.runE_cons, Ev.runE_nil]); conv => whnf) | (with_reducible refine hQ _ ?_; clear hQ Q) | with_reducible refine Ev.k_cond rfl ?_ | with_reducible refine Ev.k_skip ?_ | with_reducible refine Ev.k_block ?_ | with_reducible refine Ev.k_exit ?_ | with_reducible refine Ev.k_ret ?_ | with_reducible refine Ev.t_ret ?_ | with_reducible refine Ev.t_exit ?_ | with_reducible refine Ev.b_norm ?_ | with_reducible refine Ev.b_ret ?_ | with_reducible refine Ev.b_here ?_ | with_reducible refine Ev.b_off rfl ?_ | ((with_reducible refine Ev.e_ret (fun F hF => ?_)); conv => whnf) | ((with_reducible refine Ev.e_norm (fun F hF => ?_)); conv => whnf) | (with_reducible refine hF _ ?_; clear hF F) | (refine Ev.Side.of ?_; exact Nat.le_of_ble_eq_true rfl))
  all_goals first
    | (refine Ev.to ⟨[(0, _), (2, _), (3, _), (5, _), (6, _)], [], 0⟩ ⟨rfl, rfl, rfl, rfl, rfl, trivial⟩ trivial (Nat.le_refl _) ⟨_, _, rfl, ?_⟩; (try simp only [Ev.wrap64, Int.reduceToNat] at *); unfold leadP; omega)
    | (refine ⟨_, _, rfl, Or.inl ⟨rfl, rfl, ?_⟩, rfl⟩; (try simp only [Ev.wrap64, Int.reduceToNat] at *); first | exact Or.inl (by omega) | exact Or.inr (Or.inl (by omega)))
    | skip
  rintro s ⟨m, n0, rfl, hl⟩
  have hm : 0 ≤ m ∧ m ≤ 3 ∧ 0 ≤ n0 ∧ n0 < 256 := by unfold leadP at hl; omega
  repeat' (first | ((with_reducible refine Ev.sided ?_ ?_); (conv => whnf)) | ((with_reducible refine Ev.w_put ?_); (conv => whnf)) | ((with_reducible refine Ev.w_step ?_); (conv => whnf)) | ((with_reducible refine Ev.w_opt ?_); (conv => whnf)) | ((with_reducible refine Ev.chk_k ?_ ?_); rotate_left; (focus first | rfl | (simp only [Ev.nbeq, Bool.and_true, Bool.true_and, Bool.not_false]; done) | ((repeat' (first | exact Ev.nbeq _ | rfl | refine Bool.and_eq_true_iff.2 ⟨?_, ?_⟩)); done)); conv => whnf) | with_reducible refine Ev.c_dec (fun _ => ?_) (fun _ => ?_) | with_reducible refine Ev.c_not ?_ | with_reducible refine Ev.c_t ?_ | with_reducible refine Ev.c_f ?_ | with_reducible refine Ev.c_br (fun _ => ?_) (fun _ => ?_) | ((with_reducible refine Ev.br_not ?_); conv => whnf) | with_reducible refine Ev.br_dec (fun _ => ?_) (fun _ => ?_) | with_reducible refine Ev.br (fun _ => ?_) (fun _ => ?_) | with_reducible refine Ev.eo_ret ?_ | with_reducible refine Ev.eo_norm ?_ | with_reducible refine Ev.t_norm ?_ | with_reducible refine Ev.k_seq ?_ | ((with_reducible refine Ev.k_reg (hs := []) (tabOK' _ _) (fun Q hQ => ?_)); (simp only [Ev.runE_cons, Ev.runE_nil]); conv => whnf) | (with_reducible refine hQ _ ?_; clear hQ Q) | with_reducible refine Ev.k_cond rfl ?_ | with_reducible refine Ev.k_skip ?_ | with_reducible refine Ev.k_block ?_ | with_reducible refine Ev.k_exit ?_ | with_reducible refine Ev.k_ret ?_ | with_reducible refine Ev.t_ret ?_ | with_reducible refine Ev.t_exit ?_ | with_reducible refine Ev.b_norm ?_ | with_reducible refine Ev.b_ret ?_ | with_reducible refine Ev.b_here ?_ | with_reducible refine Ev.b_off rfl ?_ | ((with_reducible refine Ev.e_ret (fun F hF => ?_)); conv => whnf) | ((with_reducible refine Ev.e_norm (fun F hF => ?_)); conv => whnf) | (with_reducible refine hF _ ?_; clear hF F) | (refine Ev.Side.of ?_; exact Nat.le_of_ble_eq_true rfl))
  · refine ⟨_, _, rfl, Or.inl ⟨rfl, rfl, Or.inr (Or.inr ⟨m, n0, hl, Or.inl ?_⟩)⟩, rfl⟩
    simp only [Ev.wrap64] at *; omega
  rename_i hsz
  simp only [Ev.wrap64] at hsz
  refine Ev.loop (fun k s => ∃ (i : Nat) (n : Int), s = ⟨[(0, .v (.string t)), (2, .v (.int .i64 0)), (3, .v (.int .i64 0)), (5, .v (.int .i64 m)), (6, .v (.int .i64 n)), (7, .v (.int .i64 i))], [], 0⟩ ∧ (k : Int) + i = m + 1 ∧ 1 ≤ i ∧ accF t n0 (i - 1) = some n ∧ 0 ≤ n ∧ (i = 1 → n < 256) ∧ (i = 2 → n < 20000) ∧ (i = 3 → n < 2000000) ∧ (i = 4 → n < 200000000)) ?_ ?_
  · refine Ev.to ⟨[(0, _), (2, _), (3, _), (5, _), (6, _), (7, _)], [], 0⟩ ⟨rfl, rfl, rfl, rfl, rfl, rfl, trivial⟩ trivial (Nat.le_refl _) ⟨m.toNat, 1, n0, rfl, ?_⟩
    exact ⟨by omega, by omega, rfl, by omega, by omega, by omega, by omega, by omega⟩
  rintro k s1 ⟨i, n, rfl, hk, hi, ha, hn, h1, h2, h3, h4⟩
  repeat' (first | ((with_reducible refine Ev.sided ?_ ?_); (conv => whnf)) | ((with_reducible refine Ev.w_put ?_); (conv => whnf)) | ((with_reducible refine Ev.w_step ?_); (conv => whnf)) | ((with_reducible refine Ev.w_opt ?_); (conv => whnf)) | ((with_reducible refine Ev.chk_k ?_ ?_); rotate_left; (focus first | rfl | (simp only [Ev.nbeq, Bool.and_true, Bool.true_and, Bool.not_false]; done) | ((repeat' (first | exact Ev.nbeq _ | rfl | refine Bool.and_eq_true_iff.2 ⟨?_, ?_⟩)); done)); conv => whnf) | with_reducible refine Ev.c_dec (fun _ => ?_) (fun _ => ?_) | with_reducible refine Ev.c_not ?_ | with_reducible refine Ev.c_t ?_ | with_reducible refine Ev.c_f ?_ | with_reducible refine Ev.c_br (fun _ => ?_) (fun _ => ?_) | ((with_reducible refine Ev.br_not ?_); conv => whnf) | with_reducible refine Ev.br_dec (fun _ => ?_) (fun _ => ?_) | with_reducible refine Ev.br (fun _ => ?_) (fun _ => ?_) | with_reducible refine Ev.eo_ret ?_ | with_reducible refine Ev.eo_norm ?_ | with_reducible refine Ev.t_norm ?_ | with_reducible refine Ev.k_seq ?_ | ((with_reducible refine Ev.k_reg (hs := []) (tabOK' _ _) (fun Q hQ => ?_)); (simp only [Ev.runE_cons, Ev.runE_nil]); conv => whnf) | (with_reducible refine hQ _ ?_; clear hQ Q) | with_reducible refine Ev.k_cond rfl ?_ | with_reducible refine Ev.k_skip ?_ | with_reducible refine Ev.k_block ?_ | with_reducible refine Ev.k_exit ?_ | with_reducible refine Ev.k_ret ?_ | with_reducible refine Ev.t_ret ?_ | with_reducible refine Ev.t_exit ?_ | with_reducible refine Ev.b_norm ?_ | with_reducible refine Ev.b_ret ?_ | with_reducible refine Ev.b_here ?_ | with_reducible refine Ev.b_off rfl ?_ | ((with_reducible refine Ev.e_ret (fun F hF => ?_)); conv => whnf) | ((with_reducible refine Ev.e_norm (fun F hF => ?_)); conv => whnf) | (with_reducible refine hF _ ?_; clear hF F) | ((refine Ev.call_det (size_call _) rfl rfl ?_); conv => whnf) | (refine Ev.Side.of ?_; exact Nat.le_of_ble_eq_true rfl))
  · rename_i _ hc
    have hbi := Ev.byt_lt t i
    simp only [Ev.wrap64, Int.toNat_natCast] at hc
    refine ⟨_, _, rfl, Or.inl ⟨rfl, rfl, Or.inr (Or.inr ⟨m, n0, hl, Or.inr (Or.inl ⟨i, by omega, ?_⟩)⟩)⟩, rfl⟩
    obtain ⟨j, rfl⟩ : ∃ j, i = j + 1 := ⟨i - 1, by omega⟩
    simp only [Nat.add_sub_cancel] at ha
    simp only [accF, ha]; rw [if_neg (by omega)]
  · rename_i _ _ hc
    have hbi := Ev.byt_lt t i
    simp only [Ev.wrap64, Int.toNat_natCast] at hc
    refine ⟨_, _, rfl, Or.inl ⟨rfl, rfl, Or.inr (Or.inr ⟨m, n0, hl, Or.inr (Or.inl ⟨i, by omega, ?_⟩)⟩)⟩, rfl⟩
    obtain ⟨j, rfl⟩ : ∃ j, i = j + 1 := ⟨i - 1, by omega⟩
    simp only [Nat.add_sub_cancel] at ha
    simp only [accF, ha]; rw [if_neg (by omega)]
  · rename_i hm1 hc1 hc2
    have hbi := Ev.byt_lt t i
    simp only [Ev.wrap64, Int.toNat_natCast] at hc1 hc2
    have hi4 : i = 1 ∨ i = 2 ∨ i = 3 := by omega
    refine Ev.again (k - 1) ⟨[(0, _), (2, _), (3, _), (5, _), (6, .v (.int .i64 (n * 64 + Ev.byt t i - 128))), (7, .v (.int .i64 ((i + 1 : Nat) : Int)))], [], 0⟩ (by omega)
      ⟨rfl, rfl, rfl, rfl, Ev.slot_int rfl (by simp only [Ev.wrap64, Int.toNat_natCast]; omega), Ev.slot_int rfl (by simp only [Ev.wrap64]; omega), trivial⟩ trivial (Nat.le_refl _) ⟨i + 1, _, rfl, by omega, by omega, ?_, by omega, by omega, by omega, by omega, by omega⟩
    obtain ⟨j, rfl⟩ : ∃ j, i = j + 1 := ⟨i - 1, by omega⟩
    simp only [Nat.add_sub_cancel] at ha
    simp only [Nat.add_sub_cancel, accF, ha]; rw [if_pos (by omega)]
  · refine Ev.Side.of ?_; omega
  · rename_i hm1 hs
    refine ⟨_, _, rfl, Or.inr ⟨by omega, m, n0, hl, by omega, ?_, ?_, ?_⟩, rfl⟩
    · rw [← ha, show i - 1 = m.toNat by omega]
    · simp only [Ev.wrap64] at hs; omega
    · simp only [Ev.wrap64]; omega
  · rename_i hm1 hs
    refine ⟨_, _, rfl, Or.inl ⟨rfl, rfl, Or.inr (Or.inr ⟨m, n0, hl, Or.inr (Or.inr ⟨n, ?_, ?_⟩)⟩)⟩, rfl⟩
    · rw [← ha, show i - 1 = m.toNat by omega]
    · simp only [Ev.wrap64] at hs; omega
  · refine Ev.Side.of ?_; omega
end Go.Proofs.YtdgpilapblipbaaDoor.Abs

/- The reference's first code point is the model's decoder's. -/
namespace Go.Proofs.YtdgpilapblipbaaDoor.Abs
open Go
set_option linter.unusedSimpArgs false
set_option linter.unusedVariables false
def firstF (t : ByteArray) : Int × Int := if t.size = 0 ∨ Utf8.decode t 0 = (65533, 1) then (0, 0) else (((Utf8.decode t 0).1 : Int), ((Utf8.decode t 0).2 : Int))
theorem byt_get {t : ByteArray} {i : Nat} (h : i < t.size) : Ev.byt t i = ((t.get! i).toNat : Int) := by
  rw [Ev.byt_eq h]
  have : t.get! i = t[i]'h := by
    show t.data[i]! = t.data[i]
    rw [getElem!_pos t.data i h]
  rw [this]
theorem decN (t : ByteArray) : Utf8.decode t 0 =
    if (t.get! 0).toNat < 128 then ((t.get! 0).toNat, 1)
    else if (t.get! 0).toNat / 32 = 6 ∧ 1 < t.size ∧ (t.get! 1).toNat / 64 = 2 then
      (if (t.get! 0).toNat % 32 * 64 + (t.get! 1).toNat % 64 ≥ 128 then ((t.get! 0).toNat % 32 * 64 + (t.get! 1).toNat % 64, 2) else (65533, 1))
    else if (t.get! 0).toNat / 16 = 14 ∧ (1 < t.size ∧ (t.get! 1).toNat / 64 = 2) ∧ 2 < t.size ∧ (t.get! 2).toNat / 64 = 2 then
      (if (t.get! 0).toNat % 16 * 4096 + (t.get! 1).toNat % 64 * 64 + (t.get! 2).toNat % 64 ≥ 2048 ∧ Utf8.valid ((t.get! 0).toNat % 16 * 4096 + (t.get! 1).toNat % 64 * 64 + (t.get! 2).toNat % 64 : Nat) = true then ((t.get! 0).toNat % 16 * 4096 + (t.get! 1).toNat % 64 * 64 + (t.get! 2).toNat % 64, 3) else (65533, 1))
    else if (t.get! 0).toNat / 8 = 30 ∧ (1 < t.size ∧ (t.get! 1).toNat / 64 = 2) ∧ (2 < t.size ∧ (t.get! 2).toNat / 64 = 2) ∧ 3 < t.size ∧ (t.get! 3).toNat / 64 = 2 then
      (if (t.get! 0).toNat % 8 * 262144 + (t.get! 1).toNat % 64 * 4096 + (t.get! 2).toNat % 64 * 64 + (t.get! 3).toNat % 64 ≥ 65536 ∧ Utf8.valid ((t.get! 0).toNat % 8 * 262144 + (t.get! 1).toNat % 64 * 4096 + (t.get! 2).toNat % 64 * 64 + (t.get! 3).toNat % 64 : Nat) = true then ((t.get! 0).toNat % 8 * 262144 + (t.get! 1).toNat % 64 * 4096 + (t.get! 2).toNat % 64 * 64 + (t.get! 3).toNat % 64, 4) else (65533, 1))
    else (65533, 1) := by
  simp only [Utf8.decode, Utf8.runeError, Nat.zero_add, Bool.and_eq_true, decide_eq_true_eq, beq_iff_eq, and_assoc]
theorem valid_iff (n : Nat) : Utf8.valid (n : Int) = true ↔ (n < 55296 ∨ (57344 ≤ n ∧ n ≤ 1114111)) := by
  simp only [Utf8.valid, Bool.or_eq_true, Bool.and_eq_true, decide_eq_true_eq]; omega
theorem acc_ok {t : ByteArray} {n0 n : Int} {i : Nat} (h : accF t n0 i = some n) (h1 : 128 ≤ Ev.byt t (i + 1)) (h2 : Ev.byt t (i + 1) ≤ 191) : accF t n0 (i + 1) = some (n * 64 + Ev.byt t (i + 1) - 128) := by
  simp only [accF, h]; rw [if_pos ⟨h1, h2⟩]
theorem acc_inv {t : ByteArray} {n0 n : Int} {i : Nat} (h : accF t n0 (i + 1) = some n) : ∃ n', accF t n0 i = some n' ∧ 128 ≤ Ev.byt t (i + 1) ∧ Ev.byt t (i + 1) ≤ 191 ∧ n = n' * 64 + Ev.byt t (i + 1) - 128 := by
  simp only [accF] at h
  split at h
  · rename_i n' hn'
    split at h
    · rename_i hc; exact ⟨n', hn', hc.1, hc.2, (Option.some.inj h).symm⟩
    · cases h
  · cases h
theorem firstP_eq {t : ByteArray} {n k : Int} (h : firstP t n k) : (n, k) = firstF t := by
  unfold firstF
  by_cases hz : t.size = 0
  · rw [if_pos (Or.inl hz)]
    rcases h with ⟨rfl, rfl, _⟩ | ⟨h, _⟩
    · rfl
    · omega
  have e0 := byt_get (t := t) (i := 0) (by omega)
  have l0 := (t.get! 0).toNat_lt
  have l1 := (t.get! 1).toNat_lt
  have l2 := (t.get! 2).toNat_lt
  have l3 := (t.get! 3).toNat_lt
  have e1 : 1 < t.size → Ev.byt t 1 = ((t.get! 1).toNat : Int) := fun h => byt_get h
  have e2 : 2 < t.size → Ev.byt t 2 = ((t.get! 2).toNat : Int) := fun h => byt_get h
  have e3 : 3 < t.size → Ev.byt t 3 = ((t.get! 3).toNat : Int) := fun h => byt_get h
  have D := decN t
  generalize (t.get! 0).toNat = b0 at *
  generalize (t.get! 1).toNat = b1 at *
  generalize (t.get! 2).toNat = b2 at *
  generalize (t.get! 3).toNat = b3 at *
  simp only [valid_iff] at D
  rcases h with ⟨rfl, rfl, h⟩ | ⟨hs, m, n0, hl, hsz, ha, hn, rfl⟩
  · have goal : Utf8.decode t 0 = (65533, 1) := by
      rw [D]
      rcases h with h | h | ⟨m, n0, hl, h⟩
      · exact absurd h hz
      · rw [if_neg (by omega), if_neg (by omega), if_neg (by omega), if_neg (by omega)]
      · rcases hl with ⟨a1, a2, rfl, rfl⟩ | ⟨a1, a2, rfl, rfl⟩ | ⟨a1, a2, rfl, rfl⟩ | ⟨a1, rfl, rfl⟩
        · rw [if_neg (by omega), if_neg (by omega), if_neg (by omega)]
          by_cases hc : b0 / 8 = 30 ∧ (1 < t.size ∧ b1 / 64 = 2) ∧ (2 < t.size ∧ b2 / 64 = 2) ∧ 3 < t.size ∧ b3 / 64 = 2
          · rw [if_pos hc, if_neg]
            obtain ⟨c0, ⟨c1, c1'⟩, ⟨c2, c2'⟩, c3, c3'⟩ := hc
            have q1 : accF t (Ev.byt t 0 - 240) 1 = some ((Ev.byt t 0 - 240) * 64 + Ev.byt t 1 - 128) := acc_ok (i := 0) rfl (by have := e1 c1; show 128 ≤ Ev.byt t 1; omega) (by have := e1 c1; show Ev.byt t 1 ≤ 191; omega)
            have q2 : accF t (Ev.byt t 0 - 240) 2 = some (((Ev.byt t 0 - 240) * 64 + Ev.byt t 1 - 128) * 64 + Ev.byt t 2 - 128) := acc_ok (i := 1) q1 (by have := e2 c2; show 128 ≤ Ev.byt t 2; omega) (by have := e2 c2; show Ev.byt t 2 ≤ 191; omega)
            have q3 : accF t (Ev.byt t 0 - 240) 3 = some ((((Ev.byt t 0 - 240) * 64 + Ev.byt t 1 - 128) * 64 + Ev.byt t 2 - 128) * 64 + Ev.byt t 3 - 128) := acc_ok (i := 2) q2 (by have := e3 c3; show 128 ≤ Ev.byt t 3; omega) (by have := e3 c3; show Ev.byt t 3 ≤ 191; omega)
            have := e1 c1; have := e2 c2; have := e3 c3
            rcases h with h | ⟨i, hi, h⟩ | ⟨n', h, h'⟩
            · omega
            · have : i = 0 ∨ i = 1 ∨ i = 2 ∨ i = 3 := by omega
              rcases this with rfl | rfl | rfl | rfl
              · simp [accF] at h
              · rw [q1] at h; cases h
              · rw [q2] at h; cases h
              · rw [q3] at h; cases h
            · rw [show (3 : Int).toNat = 3 from rfl, q3] at h
              obtain rfl := Option.some.inj h
              unfold sizeF at h'
              split at h' <;> omega
          · rw [if_neg hc]
        · rw [if_neg (by omega), if_neg (by omega)]
          by_cases hc : b0 / 16 = 14 ∧ (1 < t.size ∧ b1 / 64 = 2) ∧ 2 < t.size ∧ b2 / 64 = 2
          · rw [if_pos hc, if_neg]
            obtain ⟨c0, ⟨c1, c1'⟩, c2, c2'⟩ := hc
            have q1 : accF t (Ev.byt t 0 - 224) 1 = some ((Ev.byt t 0 - 224) * 64 + Ev.byt t 1 - 128) := acc_ok (i := 0) rfl (by have := e1 c1; show 128 ≤ Ev.byt t 1; omega) (by have := e1 c1; show Ev.byt t 1 ≤ 191; omega)
            have q2 : accF t (Ev.byt t 0 - 224) 2 = some (((Ev.byt t 0 - 224) * 64 + Ev.byt t 1 - 128) * 64 + Ev.byt t 2 - 128) := acc_ok (i := 1) q1 (by have := e2 c2; show 128 ≤ Ev.byt t 2; omega) (by have := e2 c2; show Ev.byt t 2 ≤ 191; omega)
            have := e1 c1; have := e2 c2
            rcases h with h | ⟨i, hi, h⟩ | ⟨n', h, h'⟩
            · omega
            · have : i = 0 ∨ i = 1 ∨ i = 2 := by omega
              rcases this with rfl | rfl | rfl
              · simp [accF] at h
              · rw [q1] at h; cases h
              · rw [q2] at h; cases h
            · rw [show (2 : Int).toNat = 2 from rfl, q2] at h
              obtain rfl := Option.some.inj h
              unfold sizeF at h'
              split at h' <;> omega
          · rw [if_neg hc, if_neg (by omega)]
        · rw [if_neg (by omega)]
          by_cases hc : b0 / 32 = 6 ∧ 1 < t.size ∧ b1 / 64 = 2
          · rw [if_pos hc, if_neg]
            obtain ⟨c0, c1, c1'⟩ := hc
            have q1 : accF t (Ev.byt t 0 - 192) 1 = some ((Ev.byt t 0 - 192) * 64 + Ev.byt t 1 - 128) := acc_ok (i := 0) rfl (by have := e1 c1; show 128 ≤ Ev.byt t 1; omega) (by have := e1 c1; show Ev.byt t 1 ≤ 191; omega)
            have := e1 c1
            rcases h with h | ⟨i, hi, h⟩ | ⟨n', h, h'⟩
            · omega
            · have : i = 0 ∨ i = 1 := by omega
              rcases this with rfl | rfl
              · simp [accF] at h
              · rw [q1] at h; cases h
            · rw [show (1 : Int).toNat = 1 from rfl, q1] at h
              obtain rfl := Option.some.inj h
              unfold sizeF at h'
              split at h' <;> omega
          · rw [if_neg hc, if_neg (by omega), if_neg (by omega)]
        · exfalso
          rcases h with h | ⟨i, hi, h⟩ | ⟨n', h, h'⟩
          · omega
          · have : i = 0 := by omega
            subst this; simp [accF] at h
          · simp only [Int.toNat_zero, accF, Option.some.injEq] at h
            unfold sizeF at h'
            split at h' <;> omega
    rw [if_pos (Or.inr goal)]
  · have goal : Utf8.decode t 0 = (n.toNat, (m + 1).toNat) ∧ 0 ≤ n ∧ 0 ≤ m ∧ ¬ (n = 65533 ∧ m = 0) := by
      rw [D]
      rcases hl with ⟨a1, a2, rfl, rfl⟩ | ⟨a1, a2, rfl, rfl⟩ | ⟨a1, a2, rfl, rfl⟩ | ⟨a1, rfl, rfl⟩
      · have := e1 (by omega); have := e2 (by omega); have := e3 (by omega)
        obtain ⟨n1, ha2, c1, c1', rfl⟩ := acc_inv (i := 2) ha
        obtain ⟨n2, ha1, c2, c2', rfl⟩ := acc_inv (i := 1) ha2
        obtain ⟨n3, ha0, c3, c3', rfl⟩ := acc_inv (i := 0) ha1
        simp only [accF, Option.some.injEq] at ha0
        subst ha0
        simp only [Nat.zero_add, Nat.reduceAdd] at *
        unfold sizeF at hn
        split at hn
        · omega
        rw [if_neg (by omega), if_neg (by omega), if_neg (by omega), if_pos (by omega), if_pos (by omega)]
        refine ⟨?_, by omega, by omega, by omega⟩
        simp only [Prod.mk.injEq]; omega
      · have := e1 (by omega); have := e2 (by omega)
        obtain ⟨n2, ha1, c2, c2', rfl⟩ := acc_inv (i := 1) ha
        obtain ⟨n3, ha0, c3, c3', rfl⟩ := acc_inv (i := 0) ha1
        simp only [accF, Option.some.injEq] at ha0
        subst ha0
        simp only [Nat.zero_add, Nat.reduceAdd] at *
        unfold sizeF at hn
        split at hn
        · omega
        rw [if_neg (by omega), if_neg (by omega), if_pos (by omega), if_pos (by omega)]
        refine ⟨?_, by omega, by omega, by omega⟩
        simp only [Prod.mk.injEq]; omega
      · have := e1 (by omega)
        obtain ⟨n3, ha0, c3, c3', rfl⟩ := acc_inv (i := 0) ha
        simp only [accF, Option.some.injEq] at ha0
        subst ha0
        simp only [Nat.zero_add, Nat.reduceAdd] at *
        unfold sizeF at hn
        split at hn
        · omega
        rw [if_neg (by omega), if_pos (by omega), if_pos (by omega)]
        refine ⟨?_, by omega, by omega, by omega⟩
        simp only [Prod.mk.injEq]; omega
      · simp only [Int.toNat_zero, accF, Option.some.injEq] at ha
        subst ha
        rw [if_pos (by omega)]
        refine ⟨?_, by omega, by omega, by omega⟩
        simp only [Prod.mk.injEq]; omega
    rw [if_neg]
    · rw [goal.1]; simp only [Prod.mk.injEq]; omega
    · rw [goal.1]; simp only [Prod.mk.injEq]; omega
end Go.Proofs.YtdgpilapblipbaaDoor.Abs

/- The reference's texts: where the code points begin. -/
namespace Go.Proofs.YtdgpilapblipbaaDoor.Abs
open Go
set_option maxRecDepth 100000
set_option linter.unusedSimpArgs false
set_option linter.unusedVariables false
attribute [local irreducible] Ev.FinL Ev.brC Ev.Side Ev.Wp Ev.Again Ev.To Ev.Fin
open Go.Lib
def ints (l : List Int) : List (List AV) := l.map fun n => [.v (.int .i64 n)]
def posGo : Nat → List UInt8 → Int → List Int
  | 0, _, _ => []
  | n + 1, l, at' => if l = [] then [] else (at' + (decodeL l).2) :: posGo n (l.drop (decodeL l).2) (at' + (decodeL l).2)
def posD (l : List UInt8) (at' : Int) : List Int := posGo l.length l at'
theorem posGo_fuel : ∀ (n m : Nat) (l : List UInt8) (a : Int), l.length ≤ n → l.length ≤ m → posGo n l a = posGo m l a
  | 0, 0, l, a, _, _ => rfl
  | 0, m + 1, l, a, h, _ => by
    have : l = [] := List.length_eq_zero_iff.1 (by omega)
    subst this; simp [posGo]
  | n + 1, 0, l, a, _, h => by
    have : l = [] := List.length_eq_zero_iff.1 (by omega)
    subst this; simp [posGo]
  | n + 1, m + 1, l, a, h1, h2 => by
    simp only [posGo]
    by_cases he : l = []
    · rw [if_pos he, if_pos he]
    · rw [if_neg he, if_neg he]
      have := decodeL_width l
      rw [posGo_fuel n m _ _ (by rw [List.length_drop]; omega) (by rw [List.length_drop]; omega)]
theorem posD_nil (a : Int) : posD [] a = [] := rfl
theorem posD_step {l : List UInt8} (h : l ≠ []) (a : Int) : posD l a = (a + (decodeL l).2) :: posD (l.drop (decodeL l).2) (a + (decodeL l).2) := by
  unfold posD
  obtain ⟨n, hn⟩ : ∃ n, l.length = n + 1 := ⟨l.length - 1, by have := List.length_pos_iff.2 h; omega⟩
  rw [hn, posGo, if_neg h]
  have := decodeL_width l
  rw [posGo_fuel n _ _ _ (by rw [List.length_drop]; omega) (Nat.le_refl _)]
theorem validGo_fuel : ∀ (n m : Nat) (l : List UInt8), l.length ≤ n → l.length ≤ m → validGoD n l = validGoD m l
  | 0, 0, l, _, _ => rfl
  | 0, m + 1, l, h, _ => by
    have : l = [] := List.length_eq_zero_iff.1 (by omega)
    subst this; simp [validGoD]
  | n + 1, 0, l, _, h => by
    have : l = [] := List.length_eq_zero_iff.1 (by omega)
    subst this; simp [validGoD]
  | n + 1, m + 1, l, h1, h2 => by
    simp only [validGoD]
    by_cases he : l = []
    · rw [if_pos he, if_pos he]
    · rw [if_neg he, if_neg he]
      have := decodeL_width l
      rw [validGo_fuel n m _ (by rw [List.length_drop]; omega) (by rw [List.length_drop]; omega)]
theorem validD_nil' : validD [] = true := rfl
theorem validD_step {l : List UInt8} (h : l ≠ []) : validD l = if decodeL l = (65533, 1) then false else validD (l.drop (decodeL l).2) := by
  unfold validD
  obtain ⟨n, hn⟩ : ∃ n, l.length = n + 1 := ⟨l.length - 1, by have := List.length_pos_iff.2 h; omega⟩
  rw [hn, validGoD, if_neg h]
  have := decodeL_width l
  rw [validGo_fuel n _ _ (by rw [List.length_drop]; omega) (Nat.le_refl _)]
  have e : (decodeL l = (65533, 1)) ↔ ((decodeL l).1 = 65533 ∧ (decodeL l).2 = 1) := by rw [Prod.ext_iff]
  simp only [e]
theorem extract_list (t : ByteArray) (i : Nat) : (t.extract i t.size).data.toList = t.data.toList.drop i := by
  simp only [ByteArray.data_extract, Array.toList_extract, List.extract_eq_take_drop]
  apply List.take_of_length_le
  simp
theorem firstF_drop (t : ByteArray) (i : Nat) (hi : i < t.size) : firstF (t.extract i t.size) = if decodeL (t.data.toList.drop i) = (65533, 1) then (0, 0) else (((decodeL (t.data.toList.drop i)).1 : Int), ((decodeL (t.data.toList.drop i)).2 : Int)) := by
  have e : Utf8.decode (t.extract i t.size) 0 = decodeL (t.data.toList.drop i) := by
    rw [← decodeL_drop (t.extract i t.size) 0, List.drop_zero, extract_list]
  unfold firstF
  rw [e]
  have : ¬ (t.extract i t.size).size = 0 := by rw [ByteArray.size_extract]; omega
  by_cases h : decodeL (t.data.toList.drop i) = (65533, 1)
  · rw [if_pos (Or.inr h), if_pos h]
  · rw [if_neg (by rintro (h' | h'); exact this h'; exact h h'), if_neg h]
theorem len_list (t : ByteArray) : t.data.toList.length = t.size := Array.length_toList
theorem first_det (t : ByteArray) : CallW env 42 [.v (.string t)] (fun r hs => r = .tup [.v (.int .i64 (firstF t).1), .v (.int .i64 (firstF t).2)] ∧ hs = []) :=
  (first_call t).mono fun r hs ⟨n, k, a, b, c⟩ => by rw [← firstP_eq b]; exact ⟨a, c⟩
def cc39 : CC := (.seq (.reg 0 [⟨0, some 2, (.assign (.const (Value.slice none 0 0))), none⟩, ⟨1, some 3, (.assign (.const (Value.bool false))), none⟩]) (.seq (.reg 1 [⟨0, some 8, (.buildSlice 60 1 #[(0, .const (Value.int .i64 0))]), none⟩, ⟨1, some 4, (.assign (.tmp 8)), none⟩]) (.seq (.reg 2 [⟨0, some 5, (.assign (.const (Value.int .i64 0))), none⟩]) (.seq (.block 0 (.loop (.seq (.seq (.reg 3 [⟨0, some 9, (.move (.tmp 5)), none⟩, ⟨1, some 10, (.move (.tmp 0)), none⟩, ⟨2, some 11, (.call { callee := .builtin .len, args := #[.tmp 10], argTypes := #[9] }), none⟩, ⟨3, some 12, (.binOp .lss 3 (.tmp 9) (.tmp 11) 3), none⟩]) (.cond (.tmp 12) .skip (.exit 0))) (.block 1 (.seq (.reg 4 [⟨0, some 14, (.move (.tmp 0)), none⟩, ⟨1, some 15, (.move (.tmp 5)), none⟩, ⟨2, some 16, (.slice 9 (.tmp 14) (some (.tmp 15)) none none), none⟩, ⟨3, some 17, (.call { callee := .value (.func 42), args := #[.tmp 16], argTypes := #[9] }), none⟩, ⟨4, some 13, (.move (.tmp 17)), none⟩, ⟨5, some 18, (.extract (.tmp 13) 0), none⟩, ⟨6, some 19, (.extract (.tmp 13) 1), none⟩, ⟨7, some 6, (.assign (.tmp 18)), none⟩, ⟨8, some 7, (.assign (.tmp 19)), none⟩]) (.seq (.seq (.reg 5 [⟨0, some 20, (.move (.tmp 7)), none⟩, ⟨1, some 21, (.binOp .eql 3 (.tmp 20) (.const (Value.int .i64 0)) 3), none⟩]) (.cond (.tmp 21) (.seq (.reg 6 [⟨0, some 2, (.assign (.const (Value.slice none 0 0))), none⟩, ⟨1, some 3, (.assign (.const (Value.bool false))), none⟩]) .ret) .skip)) (.seq (.reg 7 [⟨0, some 22, (.move (.tmp 5)), none⟩, ⟨1, some 23, (.move (.tmp 7)), none⟩, ⟨2, some 24, (.binOp .add 3 (.tmp 22) (.tmp 23) 3), none⟩, ⟨3, some 5, (.assign (.tmp 24)), none⟩]) (.reg 8 [⟨0, some 25, (.move (.tmp 4)), none⟩, ⟨1, some 26, (.move (.tmp 5)), none⟩, ⟨2, some 27, (.buildSlice 60 1 #[(0, .tmp 26)]), none⟩, ⟨3, some 28, (.call { callee := .builtin .append, args := #[.tmp 25, .tmp 27], argTypes := #[60, 60] }), none⟩, ⟨4, some 4, (.assign (.tmp 28)), none⟩])))))))) (.seq (.reg 9 [⟨0, some 29, (.move (.tmp 4)), none⟩, ⟨1, some 2, (.assign (.tmp 29)), none⟩, ⟨2, some 3, (.assign (.const (Value.bool true))), none⟩]) .ret)))))
theorem comp39 : ∀ c, Tryd.f39.body = some c → comp c = cc39 := by
  intro c h
  have : c = Tryd.f39.body.get rfl := by rw [← Option.some_inj, ← h]; rfl
  rw [this]; rfl
def StartsR (t : ByteArray) (r : AV) (hs : List Blk) : Prop :=
  if validD t.data.toList then r = .tup [.own 0 0 0 ((posD t.data.toList 0).length + 1), .v (.bool true)] ∧ hs = [⟨1, 3, 0, 0, false, ints (0 :: posD t.data.toList 0)⟩] else r = .tup [.v (.slice none 0 0), .v (.bool false)] ∧ hs = []
theorem starts_call (t : ByteArray) (ht : t.size ≤ 1000000000) : CallW env 39 [.v (.string t)] (StartsR t) := by
  refine Ev.funcO tabOK [0, 2, 3, 4, 5, 7, 12, 21] 0 Tryd.func39 rfl rfl (by simp [Tryd.ntmps39]) (by rfl) (comp39 _ rfl) (rs := [.tmp 2, .tmp 3]) rfl ?_; rw [cc39]; show Ev.Wp _ _ _ _ ⟨[(0, _)], [], 0⟩
  repeat' (first | ((with_reducible refine Ev.sided ?_ ?_); (conv => whnf)) | ((with_reducible refine Ev.w_put ?_); (conv => whnf)) | ((with_reducible refine Ev.w_step ?_); (conv => whnf)) | ((with_reducible refine Ev.w_opt ?_); (conv => whnf)) | ((with_reducible refine Ev.chk_k ?_ ?_); rotate_left; (focus first | rfl | (simp only [Ev.nbeq, Bool.and_true, Bool.true_and, Bool.not_false]; done) | ((repeat' (first | exact Ev.nbeq _ | rfl | refine Bool.and_eq_true_iff.2 ⟨?_, ?_⟩)); done)); conv => whnf) | with_reducible refine Ev.c_dec (fun _ => ?_) (fun _ => ?_) | with_reducible refine Ev.c_not ?_ | with_reducible refine Ev.c_t ?_ | with_reducible refine Ev.c_f ?_ | with_reducible refine Ev.c_br (fun _ => ?_) (fun _ => ?_) | ((with_reducible refine Ev.br_not ?_); conv => whnf) | with_reducible refine Ev.br_dec (fun _ => ?_) (fun _ => ?_) | with_reducible refine Ev.br (fun _ => ?_) (fun _ => ?_) | with_reducible refine Ev.eo_ret ?_ | with_reducible refine Ev.eo_norm ?_ | with_reducible refine Ev.t_norm ?_ | with_reducible refine Ev.k_seq ?_ | ((with_reducible refine Ev.k_reg (hs := []) (tabOK' _ _) (fun Q hQ => ?_)); (simp only [Ev.runE_cons, Ev.runE_nil]); conv => whnf) | (with_reducible refine hQ _ ?_; clear hQ Q) | with_reducible refine Ev.k_cond rfl ?_ | with_reducible refine Ev.k_skip ?_ | with_reducible refine Ev.k_block ?_ | with_reducible refine Ev.k_exit ?_ | with_reducible refine Ev.k_ret ?_ | with_reducible refine Ev.t_ret ?_ | with_reducible refine Ev.t_exit ?_ | with_reducible refine Ev.b_norm ?_ | with_reducible refine Ev.b_ret ?_ | with_reducible refine Ev.b_here ?_ | with_reducible refine Ev.b_off rfl ?_ | ((with_reducible refine Ev.e_ret (fun F hF => ?_)); conv => whnf) | ((with_reducible refine Ev.e_norm (fun F hF => ?_)); conv => whnf) | (with_reducible refine hF _ ?_; clear hF F) | (refine Ev.Side.of ?_; exact Nat.le_of_ble_eq_true rfl))
  refine Ev.loop (fun k s => ∃ (i v c : Nat) (out : List Int), s = ⟨[(0, .v (.string t)), (2, .v (.slice none 0 0)), (3, .v (.bool false)), (4, .own 512 v 0 out.length), (5, .v (.int .i64 i))], [(512, ⟨1, 3, v, 0, false, ints out⟩)], c⟩ ∧
      k + i = t.size ∧ out ++ posD (t.data.toList.drop i) i = 0 :: posD t.data.toList 0 ∧ validD (t.data.toList.drop i) = validD t.data.toList ∧ out.length ≤ i + 1) ?_ ?_
  · exact Ev.to ⟨[(0, _), (2, _), (3, _), (4, .own 512 0 0 1), (5, .v (.int .i64 ((0 : Nat) : Int)))], [(512, ⟨1, 3, 0, 0, false, ints [0]⟩)], 8⟩ ⟨rfl, rfl, rfl, rfl, rfl, trivial⟩ ⟨rfl, trivial⟩ (Nat.le_refl _) ⟨t.size, 0, 0, 8, [0], rfl, by omega, rfl, rfl, by simp⟩
  rintro k s1 ⟨i, v, c, out, rfl, hk, ho, hv, hl⟩
  repeat' (first | ((with_reducible refine Ev.sided ?_ ?_); (conv => whnf)) | ((with_reducible refine Ev.w_put ?_); (conv => whnf)) | ((with_reducible refine Ev.w_step ?_); (conv => whnf)) | ((with_reducible refine Ev.w_opt ?_); (conv => whnf)) | ((with_reducible refine Ev.chk_k ?_ ?_); rotate_left; (focus first | rfl | (simp only [Ev.nbeq, Bool.and_true, Bool.true_and, Bool.not_false]; done) | ((repeat' (first | exact Ev.nbeq _ | rfl | refine Bool.and_eq_true_iff.2 ⟨?_, ?_⟩)); done)); conv => whnf) | with_reducible refine Ev.c_dec (fun _ => ?_) (fun _ => ?_) | with_reducible refine Ev.c_not ?_ | with_reducible refine Ev.c_t ?_ | with_reducible refine Ev.c_f ?_ | with_reducible refine Ev.c_br (fun _ => ?_) (fun _ => ?_) | ((with_reducible refine Ev.br_not ?_); conv => whnf) | with_reducible refine Ev.br_dec (fun _ => ?_) (fun _ => ?_) | with_reducible refine Ev.br (fun _ => ?_) (fun _ => ?_) | with_reducible refine Ev.eo_ret ?_ | with_reducible refine Ev.eo_norm ?_ | with_reducible refine Ev.t_norm ?_ | with_reducible refine Ev.k_seq ?_ | ((with_reducible refine Ev.k_reg (hs := []) (tabOK' _ _) (fun Q hQ => ?_)); (simp only [Ev.runE_cons, Ev.runE_nil]); conv => whnf) | (with_reducible refine hQ _ ?_; clear hQ Q) | with_reducible refine Ev.k_cond rfl ?_ | with_reducible refine Ev.k_skip ?_ | with_reducible refine Ev.k_block ?_ | with_reducible refine Ev.k_exit ?_ | with_reducible refine Ev.k_ret ?_ | with_reducible refine Ev.t_ret ?_ | with_reducible refine Ev.t_exit ?_ | with_reducible refine Ev.b_norm ?_ | with_reducible refine Ev.b_ret ?_ | with_reducible refine Ev.b_here ?_ | with_reducible refine Ev.b_off rfl ?_ | ((with_reducible refine Ev.e_ret (fun F hF => ?_)); conv => whnf) | ((with_reducible refine Ev.e_norm (fun F hF => ?_)); conv => whnf) | (with_reducible refine hF _ ?_; clear hF F) | ((refine Ev.call_det (first_det _) rfl rfl ?_); conv => whnf) | (refine Ev.Side.of ?_; exact Nat.le_of_ble_eq_true rfl))
  · rename_i hi hk0
    refine Ev.finL [] (by simp) (fun F hF => ?_)
    conv => whnf
    refine hF _ ?_
    simp only [Int.toNat_natCast] at hk0
    rw [firstF_drop t i (by omega)] at hk0
    unfold StartsR
    have hne : t.data.toList.drop i ≠ [] := by intro e; have := congrArg List.length e; rw [List.length_drop, len_list] at this; simp at this; omega
    rw [validD_step hne] at hv
    have hw := decodeL_width (t.data.toList.drop i)
    split at hk0
    · rename_i hd
      rw [if_pos hd] at hv
      rw [if_neg (by rw [← hv]; decide)]; exact ⟨rfl, rfl⟩
    · simp only at hk0; omega
  · rename_i hi hk0
    simp only [Int.toNat_natCast] at hk0
    have hne : t.data.toList.drop i ≠ [] := by intro e; have := congrArg List.length e; rw [List.length_drop, len_list] at this; simp at this; omega
    have hw := decodeL_width (t.data.toList.drop i)
    have hw' := decodeL_le (t.data.toList.drop i) hne
    rw [List.length_drop, len_list] at hw'
    have hf := firstF_drop t i (by omega)
    have hd : ¬ decodeL (t.data.toList.drop i) = (65533, 1) := by
      intro e; rw [hf, if_pos e] at hk0; exact hk0 rfl
    rw [if_neg hd] at hf
    rw [validD_step hne, if_neg hd, List.drop_drop] at hv
    rw [posD_step hne, List.drop_drop] at ho
    refine Ev.again (k - (decodeL (t.data.toList.drop i)).2) ⟨[(0, _), (2, _), (3, _), (4, _), (5, .v (.int .i64 ((i + (decodeL (t.data.toList.drop i)).2 : Nat) : Int)))], [(512, ⟨1, 3, c + 8, 0, false, ints (out ++ [((i + (decodeL (t.data.toList.drop i)).2 : Nat) : Int)])⟩)], c + 8 + 8⟩ (by omega)
      ⟨rfl, rfl, rfl, rfl, Ev.slot_int rfl ?_, trivial⟩ ⟨Ev.slot_eq rfl ?_, trivial⟩ (Nat.le_refl _) ⟨i + (decodeL (t.data.toList.drop i)).2, c + 8, c + 8 + 8, out ++ [((i + (decodeL (t.data.toList.drop i)).2 : Nat) : Int)], ?_, by omega, ?_, by rw [Nat.add_comm]; rw [Nat.add_comm] at hv; exact hv, by rw [List.length_append]; simp only [List.length_cons, List.length_nil]; omega⟩
    · rw [Int.toNat_natCast, hf, Ev.wrap64]; simp only; omega
    · simp only [Blk.mk.injEq, true_and, and_true, List.drop_zero, Int.toNat_natCast, hf]
      simp only [ints, List.map_append, List.map_cons, List.map_nil, List.take_succ_cons, List.take_zero, Ev.wrap64]
      rw [show ((i : Int) + ((decodeL (t.data.toList.drop i)).2 : Int) + 9223372036854775808) % 18446744073709551616 - 9223372036854775808 = ((i + (decodeL (t.data.toList.drop i)).2 : Nat) : Int) by omega]
    · simp only [List.length_append, List.length_cons, List.length_nil]; rfl
    · rw [List.append_assoc]; rw [← ho]
      simp only [Int.natCast_add, List.singleton_append]
  · refine Ev.Side.of ?_
    have hm : 2000000003 ≤ maxLen := by decide
    simp [ints]
    omega
  · refine Ev.Side.of ?_; omega
  · rename_i hi
    refine Ev.finL [(512, v)] (by simp) (fun F hF => ?_)
    have e : i = t.size := by omega
    subst e
    have en : t.data.toList.drop t.size = [] := by apply List.drop_of_length_le; rw [len_list]; exact Nat.le_refl _
    rw [en] at hv ho
    rw [posD_nil, List.append_nil] at ho
    subst ho
    simp only [Ev.FinP.resK, get_cons, get_nil, Nat.reduceEqDiff, if_false, if_true, handed, rens, ren, idx, and_self, Option.map_some, resOf]
    refine hF _ ?_
    unfold StartsR
    rw [if_pos (by rw [← hv]; rfl)]
    exact ⟨rfl, rfl⟩
end Go.Proofs.YtdgpilapblipbaaDoor.Abs

/- The reference's texts: valid ones, and how many code points. -/
namespace Go.Proofs.YtdgpilapblipbaaDoor.Abs
open Go
set_option maxRecDepth 100000
set_option linter.unusedSimpArgs false
set_option linter.unusedVariables false
attribute [local irreducible] Ev.FinL Ev.brC Ev.Side Ev.Wp Ev.Again Ev.To Ev.Fin
open Go.Lib
theorem starts_ok {t : ByteArray} (ht : t.size ≤ 1000000000) (hv : validD t.data.toList = true) : CallW env 39 [.v (.string t)] (fun r hs => r = .tup [.own 0 0 0 ((posD t.data.toList 0).length + 1), .v (.bool true)] ∧ hs = [⟨1, 3, 0, 0, false, ints (0 :: posD t.data.toList 0)⟩]) :=
  (starts_call t ht).mono fun r hs h => by unfold StartsR at h; rwa [if_pos hv] at h
theorem starts_no {t : ByteArray} (ht : t.size ≤ 1000000000) (hv : ¬ validD t.data.toList = true) : CallW env 39 [.v (.string t)] (fun r hs => r = .tup [.v (.slice none 0 0), .v (.bool false)] ∧ hs = []) :=
  (starts_call t ht).mono fun r hs h => by unfold StartsR at h; rwa [if_neg hv] at h
theorem posGo_len : ∀ (n : Nat) (l : List UInt8) (a : Int), (posGo n l a).length ≤ n
  | 0, l, a => by simp [posGo]
  | n + 1, l, a => by
    simp only [posGo]
    split
    · simp
    · simp only [List.length_cons]; have := posGo_len n (l.drop (decodeL l).2) (a + (decodeL l).2); omega
theorem posD_len (l : List UInt8) (a : Int) : (posD l a).length ≤ l.length := posGo_len _ _ _
def cc34 : CC := (.seq (.reg 0 [⟨0, some 2, (.assign (.const (Value.bool false))), none⟩]) (.seq (.reg 1 [⟨0, some 6, (.move (.tmp 0)), none⟩, ⟨1, some 7, (.call { callee := .value (.func 39), args := #[.tmp 6], argTypes := #[9] }), none⟩, ⟨2, some 5, (.move (.tmp 7)), none⟩, ⟨3, some 8, (.extract (.tmp 5) 0), none⟩, ⟨4, some 9, (.extract (.tmp 5) 1), none⟩, ⟨5, some 3, (.assign (.tmp 8)), none⟩, ⟨6, some 4, (.assign (.tmp 9)), none⟩]) (.seq (.reg 2 [⟨0, some 10, (.move (.tmp 4)), none⟩, ⟨1, some 2, (.assign (.tmp 10)), none⟩]) .ret)))
theorem comp34 : ∀ c, Tryd.f34.body = some c → comp c = cc34 := by
  intro c h
  have : c = Tryd.f34.body.get rfl := by rw [← Option.some_inj, ← h]; rfl
  rw [this]; rfl
def cc35 : CC := (.seq (.reg 0 [⟨0, some 2, (.assign (.const (Value.int .i64 0))), none⟩]) (.seq (.reg 1 [⟨0, some 6, (.move (.tmp 0)), none⟩, ⟨1, some 7, (.call { callee := .value (.func 39), args := #[.tmp 6], argTypes := #[9] }), none⟩, ⟨2, some 5, (.move (.tmp 7)), none⟩, ⟨3, some 8, (.extract (.tmp 5) 0), none⟩, ⟨4, some 9, (.extract (.tmp 5) 1), none⟩, ⟨5, some 3, (.assign (.tmp 8)), none⟩, ⟨6, some 4, (.assign (.tmp 9)), none⟩]) (.seq (.reg 2 [⟨0, some 10, (.move (.tmp 3)), none⟩, ⟨1, some 11, (.call { callee := .builtin .len, args := #[.tmp 10], argTypes := #[60] }), none⟩, ⟨2, some 12, (.binOp .sub 3 (.tmp 11) (.const (Value.int .i64 1)) 3), none⟩, ⟨3, some 2, (.assign (.tmp 12)), none⟩]) .ret)))
theorem comp35 : ∀ c, Tryd.f35.body = some c → comp c = cc35 := by
  intro c h
  have : c = Tryd.f35.body.get rfl := by rw [← Option.some_inj, ← h]; rfl
  rw [this]; rfl
theorem rvalid_call (t : ByteArray) (ht : t.size ≤ 1000000000) : CallW env 34 [.v (.string t)] (fun r hs => r = .v (.bool (validD t.data.toList)) ∧ hs = []) := by
  by_cases hv : validD t.data.toList = true
  · refine Ev.func tabOK [0, 2, 4] 0 Tryd.func34 rfl rfl (by simp [Tryd.ntmps34]) (by rfl) (comp34 _ rfl) (rs := [.tmp 2]) rfl ?_; rw [cc34]; show Ev.Wp _ _ _ _ ⟨[(0, _)], [], 0⟩
    repeat' (first | ((with_reducible refine Ev.sided ?_ ?_); (conv => whnf)) | ((with_reducible refine Ev.w_put ?_); (conv => whnf)) | ((with_reducible refine Ev.w_step ?_); (conv => whnf)) | ((with_reducible refine Ev.w_opt ?_); (conv => whnf)) | ((with_reducible refine Ev.chk_k ?_ ?_); rotate_left; (focus first | rfl | (simp only [Ev.nbeq, Bool.and_true, Bool.true_and, Bool.not_false]; done) | ((repeat' (first | exact Ev.nbeq _ | rfl | refine Bool.and_eq_true_iff.2 ⟨?_, ?_⟩)); done)); conv => whnf) | with_reducible refine Ev.c_dec (fun _ => ?_) (fun _ => ?_) | with_reducible refine Ev.c_not ?_ | with_reducible refine Ev.c_t ?_ | with_reducible refine Ev.c_f ?_ | with_reducible refine Ev.c_br (fun _ => ?_) (fun _ => ?_) | ((with_reducible refine Ev.br_not ?_); conv => whnf) | with_reducible refine Ev.br_dec (fun _ => ?_) (fun _ => ?_) | with_reducible refine Ev.br (fun _ => ?_) (fun _ => ?_) | with_reducible refine Ev.eo_ret ?_ | with_reducible refine Ev.eo_norm ?_ | with_reducible refine Ev.t_norm ?_ | with_reducible refine Ev.k_seq ?_ | ((with_reducible refine Ev.k_reg (hs := []) (tabOK' _ _) (fun Q hQ => ?_)); (simp only [Ev.runE_cons, Ev.runE_nil]); conv => whnf) | (with_reducible refine hQ _ ?_; clear hQ Q) | with_reducible refine Ev.k_cond rfl ?_ | with_reducible refine Ev.k_skip ?_ | with_reducible refine Ev.k_block ?_ | with_reducible refine Ev.k_exit ?_ | with_reducible refine Ev.k_ret ?_ | with_reducible refine Ev.t_ret ?_ | with_reducible refine Ev.t_exit ?_ | with_reducible refine Ev.b_norm ?_ | with_reducible refine Ev.b_ret ?_ | with_reducible refine Ev.b_here ?_ | with_reducible refine Ev.b_off rfl ?_ | ((with_reducible refine Ev.e_ret (fun F hF => ?_)); conv => whnf) | ((with_reducible refine Ev.e_norm (fun F hF => ?_)); conv => whnf) | (with_reducible refine hF _ ?_; clear hF F) | ((refine Ev.call_own (starts_ok ht hv) rfl (by simp) ⟨rfl, trivial⟩ ?_); conv => whnf) | (refine Ev.Side.of ?_; exact Nat.le_of_ble_eq_true rfl))
    rw [hv]; exact ⟨rfl, rfl⟩
  · refine Ev.func tabOK [0, 2, 4] 0 Tryd.func34 rfl rfl (by simp [Tryd.ntmps34]) (by rfl) (comp34 _ rfl) (rs := [.tmp 2]) rfl ?_; rw [cc34]; show Ev.Wp _ _ _ _ ⟨[(0, _)], [], 0⟩
    repeat' (first | ((with_reducible refine Ev.sided ?_ ?_); (conv => whnf)) | ((with_reducible refine Ev.w_put ?_); (conv => whnf)) | ((with_reducible refine Ev.w_step ?_); (conv => whnf)) | ((with_reducible refine Ev.w_opt ?_); (conv => whnf)) | ((with_reducible refine Ev.chk_k ?_ ?_); rotate_left; (focus first | rfl | (simp only [Ev.nbeq, Bool.and_true, Bool.true_and, Bool.not_false]; done) | ((repeat' (first | exact Ev.nbeq _ | rfl | refine Bool.and_eq_true_iff.2 ⟨?_, ?_⟩)); done)); conv => whnf) | with_reducible refine Ev.c_dec (fun _ => ?_) (fun _ => ?_) | with_reducible refine Ev.c_not ?_ | with_reducible refine Ev.c_t ?_ | with_reducible refine Ev.c_f ?_ | with_reducible refine Ev.c_br (fun _ => ?_) (fun _ => ?_) | ((with_reducible refine Ev.br_not ?_); conv => whnf) | with_reducible refine Ev.br_dec (fun _ => ?_) (fun _ => ?_) | with_reducible refine Ev.br (fun _ => ?_) (fun _ => ?_) | with_reducible refine Ev.eo_ret ?_ | with_reducible refine Ev.eo_norm ?_ | with_reducible refine Ev.t_norm ?_ | with_reducible refine Ev.k_seq ?_ | ((with_reducible refine Ev.k_reg (hs := []) (tabOK' _ _) (fun Q hQ => ?_)); (simp only [Ev.runE_cons, Ev.runE_nil]); conv => whnf) | (with_reducible refine hQ _ ?_; clear hQ Q) | with_reducible refine Ev.k_cond rfl ?_ | with_reducible refine Ev.k_skip ?_ | with_reducible refine Ev.k_block ?_ | with_reducible refine Ev.k_exit ?_ | with_reducible refine Ev.k_ret ?_ | with_reducible refine Ev.t_ret ?_ | with_reducible refine Ev.t_exit ?_ | with_reducible refine Ev.b_norm ?_ | with_reducible refine Ev.b_ret ?_ | with_reducible refine Ev.b_here ?_ | with_reducible refine Ev.b_off rfl ?_ | ((with_reducible refine Ev.e_ret (fun F hF => ?_)); conv => whnf) | ((with_reducible refine Ev.e_norm (fun F hF => ?_)); conv => whnf) | (with_reducible refine hF _ ?_; clear hF F) | ((refine Ev.call_det (starts_no ht hv) rfl rfl ?_); conv => whnf) | (refine Ev.Side.of ?_; exact Nat.le_of_ble_eq_true rfl))
    rw [Bool.eq_false_iff.2 hv]; exact ⟨rfl, rfl⟩
def countD (l : List UInt8) : Int := if validD l then (posD l 0).length else -1
theorem rcount_call (t : ByteArray) (ht : t.size ≤ 1000000000) : CallW env 35 [.v (.string t)] (fun r hs => r = .v (.int .i64 (countD t.data.toList)) ∧ hs = []) := by
  by_cases hv : validD t.data.toList = true
  · refine Ev.func tabOK [0, 2, 3] 0 Tryd.func35 rfl rfl (by simp [Tryd.ntmps35]) (by rfl) (comp35 _ rfl) (rs := [.tmp 2]) rfl ?_; rw [cc35]; show Ev.Wp _ _ _ _ ⟨[(0, _)], [], 0⟩
    repeat' (first | ((with_reducible refine Ev.sided ?_ ?_); (conv => whnf)) | ((with_reducible refine Ev.w_put ?_); (conv => whnf)) | ((with_reducible refine Ev.w_step ?_); (conv => whnf)) | ((with_reducible refine Ev.w_opt ?_); (conv => whnf)) | ((with_reducible refine Ev.chk_k ?_ ?_); rotate_left; (focus first | rfl | (simp only [Ev.nbeq, Bool.and_true, Bool.true_and, Bool.not_false]; done) | ((repeat' (first | exact Ev.nbeq _ | rfl | refine Bool.and_eq_true_iff.2 ⟨?_, ?_⟩)); done)); conv => whnf) | with_reducible refine Ev.c_dec (fun _ => ?_) (fun _ => ?_) | with_reducible refine Ev.c_not ?_ | with_reducible refine Ev.c_t ?_ | with_reducible refine Ev.c_f ?_ | with_reducible refine Ev.c_br (fun _ => ?_) (fun _ => ?_) | ((with_reducible refine Ev.br_not ?_); conv => whnf) | with_reducible refine Ev.br_dec (fun _ => ?_) (fun _ => ?_) | with_reducible refine Ev.br (fun _ => ?_) (fun _ => ?_) | with_reducible refine Ev.eo_ret ?_ | with_reducible refine Ev.eo_norm ?_ | with_reducible refine Ev.t_norm ?_ | with_reducible refine Ev.k_seq ?_ | ((with_reducible refine Ev.k_reg (hs := []) (tabOK' _ _) (fun Q hQ => ?_)); (simp only [Ev.runE_cons, Ev.runE_nil]); conv => whnf) | (with_reducible refine hQ _ ?_; clear hQ Q) | with_reducible refine Ev.k_cond rfl ?_ | with_reducible refine Ev.k_skip ?_ | with_reducible refine Ev.k_block ?_ | with_reducible refine Ev.k_exit ?_ | with_reducible refine Ev.k_ret ?_ | with_reducible refine Ev.t_ret ?_ | with_reducible refine Ev.t_exit ?_ | with_reducible refine Ev.b_norm ?_ | with_reducible refine Ev.b_ret ?_ | with_reducible refine Ev.b_here ?_ | with_reducible refine Ev.b_off rfl ?_ | ((with_reducible refine Ev.e_ret (fun F hF => ?_)); conv => whnf) | ((with_reducible refine Ev.e_norm (fun F hF => ?_)); conv => whnf) | (with_reducible refine hF _ ?_; clear hF F) | ((refine Ev.call_own (starts_ok ht hv) rfl (by simp) ⟨rfl, trivial⟩ ?_); conv => whnf) | (refine Ev.Side.of ?_; exact Nat.le_of_ble_eq_true rfl))
    refine ⟨congrArg (fun z => AV.v (Value.int IntKind.i64 z)) ?_, rfl⟩
    have := posD_len t.data.toList 0
    rw [len_list] at this
    unfold countD; rw [if_pos hv, Ev.wrap64]; omega
  · refine Ev.func tabOK [0, 2, 3] 0 Tryd.func35 rfl rfl (by simp [Tryd.ntmps35]) (by rfl) (comp35 _ rfl) (rs := [.tmp 2]) rfl ?_; rw [cc35]; show Ev.Wp _ _ _ _ ⟨[(0, _)], [], 0⟩
    repeat' (first | ((with_reducible refine Ev.sided ?_ ?_); (conv => whnf)) | ((with_reducible refine Ev.w_put ?_); (conv => whnf)) | ((with_reducible refine Ev.w_step ?_); (conv => whnf)) | ((with_reducible refine Ev.w_opt ?_); (conv => whnf)) | ((with_reducible refine Ev.chk_k ?_ ?_); rotate_left; (focus first | rfl | (simp only [Ev.nbeq, Bool.and_true, Bool.true_and, Bool.not_false]; done) | ((repeat' (first | exact Ev.nbeq _ | rfl | refine Bool.and_eq_true_iff.2 ⟨?_, ?_⟩)); done)); conv => whnf) | with_reducible refine Ev.c_dec (fun _ => ?_) (fun _ => ?_) | with_reducible refine Ev.c_not ?_ | with_reducible refine Ev.c_t ?_ | with_reducible refine Ev.c_f ?_ | with_reducible refine Ev.c_br (fun _ => ?_) (fun _ => ?_) | ((with_reducible refine Ev.br_not ?_); conv => whnf) | with_reducible refine Ev.br_dec (fun _ => ?_) (fun _ => ?_) | with_reducible refine Ev.br (fun _ => ?_) (fun _ => ?_) | with_reducible refine Ev.eo_ret ?_ | with_reducible refine Ev.eo_norm ?_ | with_reducible refine Ev.t_norm ?_ | with_reducible refine Ev.k_seq ?_ | ((with_reducible refine Ev.k_reg (hs := []) (tabOK' _ _) (fun Q hQ => ?_)); (simp only [Ev.runE_cons, Ev.runE_nil]); conv => whnf) | (with_reducible refine hQ _ ?_; clear hQ Q) | with_reducible refine Ev.k_cond rfl ?_ | with_reducible refine Ev.k_skip ?_ | with_reducible refine Ev.k_block ?_ | with_reducible refine Ev.k_exit ?_ | with_reducible refine Ev.k_ret ?_ | with_reducible refine Ev.t_ret ?_ | with_reducible refine Ev.t_exit ?_ | with_reducible refine Ev.b_norm ?_ | with_reducible refine Ev.b_ret ?_ | with_reducible refine Ev.b_here ?_ | with_reducible refine Ev.b_off rfl ?_ | ((with_reducible refine Ev.e_ret (fun F hF => ?_)); conv => whnf) | ((with_reducible refine Ev.e_norm (fun F hF => ?_)); conv => whnf) | (with_reducible refine hF _ ?_; clear hF F) | ((refine Ev.call_det (starts_no ht hv) rfl rfl ?_); conv => whnf) | (refine Ev.Side.of ?_; exact Nat.le_of_ble_eq_true rfl))
    refine ⟨congrArg (fun z => AV.v (Value.int IntKind.i64 z)) ?_, rfl⟩
    unfold countD; rw [if_neg hv, Ev.wrap64]; rfl
end Go.Proofs.YtdgpilapblipbaaDoor.Abs

/- Contracts that the library's shelf gives, told as ours. -/
namespace Go.Proofs.YtdgpilapblipbaaDoor.Abs
open Go
set_option maxRecDepth 100000
set_option linter.unusedSimpArgs false
set_option linter.unusedVariables false
attribute [local irreducible] Ev.FinL Ev.brC Ev.Side Ev.Wp Ev.Again Ev.To Ev.Fin
open Go.Lib Go.RowKit
theorem heap_lt {w : World} {b o : Nat} {u : Value} (h : w.cell? ⟨b, o, none⟩ = some u) : b < w.heap.size := by
  unfold World.cell? at h
  rcases Nat.lt_or_ge b w.heap.size with h' | h'
  · exact h'
  · simp [Array.getElem?_eq_none h'] at h
theorem scal {f : FuncId} {x y : Value} (h : ∀ w : World, (∀ g cs j z, env.G g = some cs → cs[j]? = some (.v z) → w.cell? ⟨g, j, none⟩ = some z) →
    (callFunc f #[x]).run env.P w = .ok (.enter f #[x]) w ∧ Calls env.P f #[x] w fun e w' => e = .returned y ∧ Below w.heap.size w w') : CallW env f [.v x] (fun r hs => r = .v y ∧ hs = []) := by
  intro M w vs hm hg hn hr
  have hv : vs = #[x] := by
    apply Array.ext_getElem?
    intro i
    rcases Nat.lt_or_ge i vs.size with hi | hi
    · have : i = 0 := by simp at hn; omega
      subst this
      have := hr 0 (.v x) vs[0] rfl (Array.getElem?_eq_getElem hi)
      cases this
      rw [Array.getElem?_eq_getElem hi]; rfl
    · rw [Array.getElem?_eq_none hi, Array.getElem?_eq_none (by simp at hn ⊢; omega)]
  subst hv
  obtain ⟨a, b⟩ := h w (fun g cs j z h1 h2 => by
    have hp := hg g cs h1
    cases hp with
    | rptr u hM hc =>
      have hz := hc j _ h2
      have h3 := hM j _ h2
      rw [Nat.zero_add] at h3
      rw [(hm _ _ _ h3).1]
      cases hz; rfl)
  refine ⟨a, b.mono ?_⟩
  rintro e w' ⟨rfl, hb⟩
  refine ⟨y, _, [], M, fun _ => none, rfl, ⟨rfl, rfl⟩, ⟨hb, fun b o u hu => ?_, fun _ _ _ h => .inl h, fun _ _ _ h => h, hg, fun t x h => by simp [get_nil] at h, fun r k h => by simp [heapOf, get_nil] at h,
    fun r r' k k' L L' h => by simp [heapOf, get_nil] at h, fun r k L o u h => by simp [heapOf, get_nil] at h, fun r L h => by simp at h, fun r L h => h⟩, .pure (.v _)⟩
  obtain ⟨h1, h2⟩ := hm b o u hu
  exact ⟨by rw [hb.cell (heap_lt h1)]; exact h1, h2⟩
end Go.Proofs.YtdgpilapblipbaaDoor.Abs

/- The program's texts: valid ones, and how many code points. -/
namespace Go.Proofs.YtdgpilapblipbaaDoor.Abs
open Go
set_option maxRecDepth 100000
set_option linter.unusedSimpArgs false
set_option linter.unusedVariables false
attribute [local irreducible] Ev.FinL Ev.brC Ev.Side Ev.Wp Ev.Again Ev.To Ev.Fin
open Go.Lib Go.RowKit Go.Shelf
def validLay_ren : Go.Shelf.Ren := ⟨fun | 196 => 38 | 259 => 41 | n => n, fun | 9 => 9 | 4 => 4 | 3 => 3 | 5 => 5 | 12 => 12 | 119 => 65 | 0 => 0 | 46 => 69 | 139 => 68 | 138 => 67 | 53 => 72 | n => n, fun | 3 => 1 | 4 => 2 | n => n⟩
theorem validLay : Lays.n196 Tryd.prog validLay_ren :=
  { mixed := by kernel_rfl,
    f196 := Tryd.func38.trans (congrArg some (by kernel_rfl)),
    f259 := Tryd.func41.trans (congrArg some (by kernel_rfl)),
    t0 := Tryd.underlying0,
    a0 := Tryd.isAgg0,
    z0 := Tryd.sizeOf0,
    v0 := Tryd.zeroValue0,
    t3 := Tryd.underlying3,
    a3 := Tryd.isAgg3,
    z3 := Tryd.sizeOf3,
    v3 := Tryd.zeroValue3,
    t4 := Tryd.underlying4,
    a4 := Tryd.isAgg4,
    z4 := Tryd.sizeOf4,
    v4 := Tryd.zeroValue4,
    t5 := Tryd.underlying5,
    a5 := Tryd.isAgg5,
    z5 := Tryd.sizeOf5,
    v5 := Tryd.zeroValue5,
    t9 := Tryd.underlying9,
    a9 := Tryd.isAgg9,
    z9 := Tryd.sizeOf9,
    v9 := Tryd.zeroValue9,
    t12 := Tryd.underlying12,
    a12 := Tryd.isAgg12,
    z12 := Tryd.sizeOf12,
    v12 := Tryd.zeroValue12,
    t46 := Tryd.underlying69,
    a46 := Tryd.isAgg69,
    z46 := Tryd.sizeOf69,
    v46 := Tryd.zeroValue69,
    t53 := Tryd.underlying72,
    a53 := Tryd.isAgg72,
    z53 := Tryd.sizeOf72,
    v53 := Tryd.zeroValue72,
    t119 := Tryd.underlying65,
    a119 := Tryd.isAgg65,
    z119 := Tryd.sizeOf65,
    t138 := Tryd.underlying67,
    a138 := Tryd.isAgg67,
    z138 := Tryd.sizeOf67,
    v138 := Tryd.zeroValue67,
    t139 := Tryd.underlying68,
    a139 := Tryd.isAgg68,
    z139 := Tryd.sizeOf68,
    v139 := Tryd.zeroValue68,
    g3 := by kernel_rfl,
    g4 := by kernel_rfl }

theorem utf8_call (t : ByteArray) (ht : t.size ≤ 1000000000) : CallW env 38 [.v (.string t)] (fun r hs => r = .v (.bool (validD t.data.toList)) ∧ hs = []) := by
  refine scal fun w hw => ⟨?_, ?_⟩
  · exact run_callFunc Tryd.func38 rfl rfl w
  · have hT : Lib.Utf8Tabs 1 2 w := by
      refine ⟨fun c hc => ?_, fun i hi => ⟨?_, ?_⟩⟩
      · exact hw 1 glob1 c _ rfl (by simp [glob1, hc])
      · exact hw 2 glob2 (2 * i) _ rfl (by have : i = 0 ∨ i = 1 ∨ i = 2 ∨ i = 3 ∨ i = 4 ∨ i = 5 ∨ i = 6 ∨ i = 7 ∨ i = 8 ∨ i = 9 ∨ i = 10 ∨ i = 11 ∨ i = 12 ∨ i = 13 ∨ i = 14 ∨ i = 15 := by omega
                                           rcases this with rfl | rfl | rfl | rfl | rfl | rfl | rfl | rfl | rfl | rfl | rfl | rfl | rfl | rfl | rfl | rfl <;> rfl)
      · exact hw 2 glob2 (2 * i + 1) _ rfl (by have : i = 0 ∨ i = 1 ∨ i = 2 ∨ i = 3 ∨ i = 4 ∨ i = 5 ∨ i = 6 ∨ i = 7 ∨ i = 8 ∨ i = 9 ∨ i = 10 ∨ i = 11 ∨ i = 12 ∨ i = 13 ∨ i = 14 ∨ i = 15 := by omega
                                               rcases this with rfl | rfl | rfl | rfl | rfl | rfl | rfl | rfl | rfl | rfl | rfl | rfl | rfl | rfl | rfl | rfl <;> rfl)
    exact Any.utf8_ValidString validLay t w (by omega) hT
def cc33 : CC := (.seq (.reg 0 [⟨0, some 2, (.assign (.const (Value.bool false))), none⟩]) (.seq (.reg 1 [⟨0, some 3, (.move (.tmp 0)), none⟩, ⟨1, some 4, (.call { callee := .value (.func 38), args := #[.tmp 3], argTypes := #[9] }), none⟩, ⟨2, some 2, (.assign (.tmp 4)), none⟩]) .ret))
theorem comp33 : ∀ c, Tryd.f33.body = some c → comp c = cc33 := by
  intro c h
  have : c = Tryd.f33.body.get rfl := by rw [← Option.some_inj, ← h]; rfl
  rw [this]; rfl
theorem pvalid_call (t : ByteArray) (ht : t.size ≤ 1000000000) : CallW env 33 [.v (.string t)] (fun r hs => r = .v (.bool (validD t.data.toList)) ∧ hs = []) := by
  refine Ev.func tabOK [0, 2] 0 Tryd.func33 rfl rfl (by simp [Tryd.ntmps33]) (by rfl) (comp33 _ rfl) (rs := [.tmp 2]) rfl ?_; rw [cc33]; show Ev.Wp _ _ _ _ ⟨[(0, _)], [], 0⟩
  repeat' (first | ((with_reducible refine Ev.sided ?_ ?_); (conv => whnf)) | ((with_reducible refine Ev.w_put ?_); (conv => whnf)) | ((with_reducible refine Ev.w_step ?_); (conv => whnf)) | ((with_reducible refine Ev.w_opt ?_); (conv => whnf)) | ((with_reducible refine Ev.chk_k ?_ ?_); rotate_left; (focus first | rfl | (simp only [Ev.nbeq, Bool.and_true, Bool.true_and, Bool.not_false]; done) | ((repeat' (first | exact Ev.nbeq _ | rfl | refine Bool.and_eq_true_iff.2 ⟨?_, ?_⟩)); done)); conv => whnf) | with_reducible refine Ev.c_dec (fun _ => ?_) (fun _ => ?_) | with_reducible refine Ev.c_not ?_ | with_reducible refine Ev.c_t ?_ | with_reducible refine Ev.c_f ?_ | with_reducible refine Ev.c_br (fun _ => ?_) (fun _ => ?_) | ((with_reducible refine Ev.br_not ?_); conv => whnf) | with_reducible refine Ev.br_dec (fun _ => ?_) (fun _ => ?_) | with_reducible refine Ev.br (fun _ => ?_) (fun _ => ?_) | with_reducible refine Ev.eo_ret ?_ | with_reducible refine Ev.eo_norm ?_ | with_reducible refine Ev.t_norm ?_ | with_reducible refine Ev.k_seq ?_ | ((with_reducible refine Ev.k_reg (hs := []) (tabOK' _ _) (fun Q hQ => ?_)); (simp only [Ev.runE_cons, Ev.runE_nil]); conv => whnf) | (with_reducible refine hQ _ ?_; clear hQ Q) | with_reducible refine Ev.k_cond rfl ?_ | with_reducible refine Ev.k_skip ?_ | with_reducible refine Ev.k_block ?_ | with_reducible refine Ev.k_exit ?_ | with_reducible refine Ev.k_ret ?_ | with_reducible refine Ev.t_ret ?_ | with_reducible refine Ev.t_exit ?_ | with_reducible refine Ev.b_norm ?_ | with_reducible refine Ev.b_ret ?_ | with_reducible refine Ev.b_here ?_ | with_reducible refine Ev.b_off rfl ?_ | ((with_reducible refine Ev.e_ret (fun F hF => ?_)); conv => whnf) | ((with_reducible refine Ev.e_norm (fun F hF => ?_)); conv => whnf) | (with_reducible refine hF _ ?_; clear hF F) | ((refine Ev.call_det (utf8_call t ht) rfl rfl ?_); conv => whnf) | (refine Ev.Side.of ?_; exact Nat.le_of_ble_eq_true rfl))
  exact ⟨rfl, rfl⟩
theorem unscal {f : FuncId} {x y : Value} (h : CallW env f [.v x] (fun r hs => r = .v y ∧ hs = [])) (w : World) (h1 : ∀ g cs j z, env.G g = some cs → cs[j]? = some (.v z) → w.cell? ⟨g, j, none⟩ = some z ∧ z.oneCell' = true)
    (h2 : ∀ g cs c, env.G g = some cs → c ∈ cs → ∃ z, c = .v z) : Calls env.P f #[x] w fun e w' => e = .returned y ∧ Below w.heap.size w w' := by
  have hA : ∀ (b o : Nat) (u : Value), (match env.G b with | some cs => (match cs[o]? with | some (AV.v z) => some z | _ => none) | none => none) = some u → w.cell? ⟨b, o, none⟩ = some u ∧ u.oneCell' = true := by
    intro b o u hu
    split at hu
    · rename_i cs hcs
      split at hu
      · rename_i z hz
        obtain rfl := Option.some.inj hu
        exact h1 _ _ _ _ hcs hz
      · cases hu
    · cases hu
  have hB : ∀ g cs, env.G g = some cs → PRel (fun (b o : Nat) => match env.G b with | some cs => (match cs[o]? with | some (AV.v z) => some z | _ => none) | none => none) (.rptr cs) (.pointer (some ⟨g, 0, none⟩)) := by
    intro g cs hg
    refine .rptr (fun j => match cs[j]? with | some (.v z) => z | _ => x) (fun j c hc => ?_) (fun j c hc => ?_)
    · obtain ⟨z, rfl⟩ := h2 g cs c hg (List.mem_of_getElem? hc)
      simp only [hg, Nat.zero_add, hc]
    · obtain ⟨z, rfl⟩ := h2 g cs c hg (List.mem_of_getElem? hc)
      simp only [hc]; exact .v _
  have hC : ∀ (i : Nat) (a : AV) (v : Value), [AV.v x][i]? = some a → #[x][i]? = some v → PRel (fun (b o : Nat) => match env.G b with | some cs => (match cs[o]? with | some (AV.v z) => some z | _ => none) | none => none) a v := by
    intro i a v ha hv
    cases i with
    | zero => simp at ha hv; subst ha; subst hv; exact .v _
    | succ i => simp at ha
  obtain ⟨_, b⟩ := h _ w #[x] hA hB rfl hC
  refine b.mono ?_
  rintro e w' ⟨v, r, hs, M', J', rfl, ⟨rfl, rfl⟩, inv, hr⟩
  have := hr.v_inv
  subst this
  exact ⟨rfl, inv.below⟩
theorem glob_v (g : Nat) (cs : List AV) (c : AV) (h : env.G g = some cs) (hc : c ∈ cs) : ∃ z, c = .v z ∧ z.oneCell' = true := by
  have h : envG g = some cs := h
  unfold envG at h
  split at h <;> first | (cases h; done) | skip
  all_goals (obtain rfl := Option.some.inj h)
  · simp [glob0] at hc; rcases hc with rfl | rfl | rfl | rfl | rfl <;> exact ⟨_, rfl, rfl⟩
  · simp only [glob1, List.mem_map] at hc; obtain ⟨a, _, rfl⟩ := hc; exact ⟨_, rfl, rfl⟩
  · simp only [glob2, List.mem_flatMap] at hc; obtain ⟨a, _, hc⟩ := hc; simp at hc; rcases hc with rfl | rfl <;> exact ⟨_, rfl, rfl⟩
set_option maxRecDepth 1000000 in
theorem count_walk (t : ByteArray) (ht : t.size ≤ 1000000000) (w : World) (hw : ∀ g cs j z, env.G g = some cs → cs[j]? = some (.v z) → w.cell? ⟨g, j, none⟩ = some z) :
    Calls Tryd.prog 19 #[.string t] w fun e w' => e = .returned (.int .i64 (countD t.data.toList)) ∧ Below w.heap.size w w' := by
  have cV : Calls Tryd.prog 33 #[.string t] w fun e w' => e = .returned (.bool (validD t.data.toList)) ∧ Below w.heap.size w w' :=
    unscal (pvalid_call t ht) w (fun g cs j z a b => ⟨hw g cs j z a b, by obtain ⟨z', e, h⟩ := glob_v g cs _ a (List.mem_of_getElem? b); cases e; exact h⟩) (fun g cs c a b => let ⟨z, e, _⟩ := glob_v g cs c a b; ⟨z, e⟩)
  by_cases hv : validD t.data.toList = true
  · rw [hv] at cV
    have hcd : countD t.data.toList = (posD t.data.toList 0).length := by unfold countD; rw [if_pos hv]
    rw [hcd]
    go_enter Tryd.func19, Tryd.ntmps19
    go_wp2_with (go_at_call 33; refine cV.mono ?_; rintro e w1 ⟨rfl, hb⟩)
    go_loopw [3] (fun n w' => ∃ (pos : Nat) (acc : Nat), w' = w1.iter t pos ∧ n = .int .i64 (acc : Int) ∧ acc + (posD (t.data.toList.drop pos) pos).length = (posD t.data.toList 0).length ∧ acc ≤ pos) (fun _ w' => t.size - w'.iterPos w1.heap.size)
    case atStart => exact ⟨0, 0, rfl, rfl, by simp, by omega⟩
    case round =>
      obtain ⟨pos, acc, rfl, rfl, hc, hb'⟩ := hrel
      by_cases hp : pos < t.size
      · have hnx : ∀ ty, (Instr.next (.pointer (some ⟨w1.heap.size, 0, none⟩)) true ty).run Tryd.prog (w1.iter t pos) = _ := fun ty => run_next_any w1 t pos ty hp
        go_wp2
        have hne : t.data.toList.drop pos ≠ [] := by intro e; have := congrArg List.length e; rw [List.length_drop, len_list] at this; simp at this; omega
        have hwd := decodeL_width (t.data.toList.drop pos)
        rw [posD_step hne, List.drop_drop, decodeL_drop] at hc
        rw [decodeL_drop] at hwd
        refine ⟨⟨pos + (Utf8.decode t pos).2, acc + 1, rfl, rfl, ?_, by omega⟩, ?_⟩
        · rw [← hc, List.length_cons]
          simp only [Int.natCast_add]
          omega
        · simp
          omega
      · have hnx : ∀ ty, (Instr.next (.pointer (some ⟨w1.heap.size, 0, none⟩)) true ty).run Tryd.prog (w1.iter t pos) = _ := fun ty => run_next_end w1 t pos ty hp
        go_wp2
        go_ret
        have en : t.data.toList.drop pos = [] := by apply List.drop_of_length_le; rw [len_list]; omega
        rw [en, posD_nil, List.length_nil, Nat.add_zero] at hc
        rw [hc]
        exact ⟨rfl, hb.alloc hb.size _⟩
  · rw [Bool.eq_false_iff.2 hv] at cV
    have hcd : countD t.data.toList = -1 := by unfold countD; rw [if_neg hv]
    rw [hcd]
    go_enter Tryd.func19, Tryd.ntmps19
    go_wp2_with (go_at_call 33; refine cV.mono ?_; rintro e w1 ⟨rfl, hb⟩)
    go_ret
    exact ⟨rfl, hb⟩
theorem pcount_call (t : ByteArray) (ht : t.size ≤ 1000000000) : CallW env 19 [.v (.string t)] (fun r hs => r = .v (.int .i64 (countD t.data.toList)) ∧ hs = []) :=
  scal fun w hw => ⟨run_callFunc Tryd.func19 rfl rfl w, count_walk t ht w hw⟩
end Go.Proofs.YtdgpilapblipbaaDoor.Abs

/- Spans. -/
namespace Go.Proofs.YtdgpilapblipbaaDoor.Abs
open Go
set_option maxRecDepth 100000
set_option linter.unusedSimpArgs false
set_option linter.unusedVariables false
attribute [local irreducible] Ev.FinL Ev.brC Ev.Side Ev.Wp Ev.Again Ev.To Ev.Fin
open Go.Lib Go.RowKit
@[reducible] def spanA (k n : Int) (t : ByteArray) : AV := .agg [.v (.int .i64 k), .v (.int .i64 n), .v (.string t)]
def mayF (k n : Int) (t : ByteArray) : Int :=
  if k = 1 ∨ k = 3 then (if n < 0 ∨ 1048576 < n then 2 else if t = ⟨#[]⟩ then 0 else 3)
  else if k = 2 then (if n ≠ 0 then 2 else if validD t.data.toList then 0 else 3) else 1
def inF (k n : Int) : Int := if k = 1 ∨ k = 3 then n else 0
def outF (k n : Int) (t : ByteArray) : Int := if k = 1 then n else if k = 2 then max (countD t.data.toList) 0 else 0
def cc15 : CC := (.seq (.reg 0 [⟨0, some 1, (.box 23 (.tmp 0)), none⟩, ⟨1, some 2, (.assign (.const (Value.int .i64 0))), none⟩]) (.seq (.seq (.reg 1 [⟨0, some 3, (.fieldAddr 23 (.tmp 1) 0), none⟩, ⟨1, some 4, (.load 3 (.tmp 3)), none⟩, ⟨2, some 5, (.binOp .eql 3 (.tmp 4) (.const (Value.int .i64 1)) 3), none⟩, ⟨3, some 6, (.move (.tmp 5)), none⟩, ⟨4, some 7, (.fieldAddr 23 (.tmp 1) 0), (some (6, false))⟩, ⟨5, some 8, (.load 3 (.tmp 7)), (some (6, false))⟩, ⟨6, some 9, (.binOp .eql 3 (.tmp 8) (.const (Value.int .i64 3)) 3), (some (6, false))⟩, ⟨7, some 10, (.pick (.tmp 6) (.const (Value.bool true)) (.tmp 9)), none⟩]) (.cond (.tmp 10) (.seq (.reg 2 [⟨0, some 11, (.fieldAddr 23 (.tmp 1) 1), none⟩, ⟨1, some 12, (.load 3 (.tmp 11)), none⟩, ⟨2, some 2, (.assign (.tmp 12)), none⟩]) .ret) .skip)) (.seq (.reg 3 [⟨0, some 2, (.assign (.const (Value.int .i64 0))), none⟩]) .ret)))
theorem comp15 : ∀ c, Tryd.f15.body = some c → comp c = cc15 := by
  intro c h
  have : c = Tryd.f15.body.get rfl := by rw [← Option.some_inj, ← h]; rfl
  rw [this]; rfl
def cc17 : CC := (.seq (.reg 0 [⟨0, some 1, (.box 23 (.tmp 0)), none⟩, ⟨1, some 2, (.assign (.const (Value.int .i64 0))), none⟩]) (.seq (.seq (.reg 1 [⟨0, some 3, (.fieldAddr 23 (.tmp 1) 0), none⟩, ⟨1, some 4, (.load 3 (.tmp 3)), none⟩, ⟨2, some 5, (.binOp .eql 3 (.tmp 4) (.const (Value.int .i64 1)) 3), none⟩]) (.cond (.tmp 5) (.seq (.reg 2 [⟨0, some 6, (.fieldAddr 23 (.tmp 1) 1), none⟩, ⟨1, some 7, (.load 3 (.tmp 6)), none⟩, ⟨2, some 2, (.assign (.tmp 7)), none⟩]) .ret) .skip)) (.seq (.seq (.reg 3 [⟨0, some 8, (.fieldAddr 23 (.tmp 1) 0), none⟩, ⟨1, some 9, (.load 3 (.tmp 8)), none⟩, ⟨2, some 10, (.binOp .eql 3 (.tmp 9) (.const (Value.int .i64 2)) 3), none⟩]) (.cond (.tmp 10) (.seq (.reg 4 [⟨0, some 11, (.fieldAddr 23 (.tmp 1) 2), none⟩, ⟨1, some 12, (.load 9 (.tmp 11)), none⟩, ⟨2, some 13, (.call { callee := .value (.func 35), args := #[.tmp 12], argTypes := #[9] }), none⟩, ⟨3, some 14, (.call { callee := .builtin .max, args := #[.tmp 13, .const (Value.int .i64 0)], argTypes := #[3, 3] }), none⟩, ⟨4, some 2, (.assign (.tmp 14)), none⟩]) .ret) .skip)) (.seq (.reg 5 [⟨0, some 2, (.assign (.const (Value.int .i64 0))), none⟩]) .ret))))
theorem comp17 : ∀ c, Tryd.f17.body = some c → comp c = cc17 := by
  intro c h
  have : c = Tryd.f17.body.get rfl := by rw [← Option.some_inj, ← h]; rfl
  rw [this]; rfl
def cc13 : CC := (.seq (.reg 0 [⟨0, some 1, (.box 23 (.tmp 0)), none⟩, ⟨1, some 2, (.assign (.const (Value.int .i64 0))), none⟩]) (.seq (.seq (.reg 1 [⟨0, some 3, (.fieldAddr 23 (.tmp 1) 0), none⟩, ⟨1, some 4, (.load 3 (.tmp 3)), none⟩]) (.block 0 (.seq (.seq (.reg 2 [⟨0, some 6, (.binOp .eql 3 (.tmp 4) (.const (Value.int .i64 1)) 3), none⟩, ⟨1, some 5, (.assign (.tmp 6)), none⟩]) (.cond (.tmp 5) .skip (.reg 3 [⟨0, some 7, (.binOp .eql 3 (.tmp 4) (.const (Value.int .i64 3)) 3), none⟩, ⟨1, some 5, (.assign (.tmp 7)), none⟩]))) (.cond (.tmp 5) (.seq (.seq (.reg 4 [⟨0, some 8, (.fieldAddr 23 (.tmp 1) 1), none⟩, ⟨1, some 9, (.load 3 (.tmp 8)), none⟩, ⟨2, some 10, (.binOp .lss 3 (.tmp 9) (.const (Value.int .i64 0)) 3), none⟩, ⟨3, some 11, (.move (.tmp 10)), none⟩, ⟨4, some 12, (.fieldAddr 23 (.tmp 1) 1), (some (11, false))⟩, ⟨5, some 13, (.load 3 (.tmp 12)), (some (11, false))⟩, ⟨6, some 14, (.binOp .gtr 3 (.tmp 13) (.const (Value.int .i64 1048576)) 3), (some (11, false))⟩, ⟨7, some 15, (.pick (.tmp 11) (.const (Value.bool true)) (.tmp 14)), none⟩]) (.cond (.tmp 15) (.seq (.reg 5 [⟨0, some 2, (.assign (.const (Value.int .i64 2))), none⟩]) .ret) .skip)) (.seq (.seq (.reg 6 [⟨0, some 16, (.fieldAddr 23 (.tmp 1) 2), none⟩, ⟨1, some 17, (.load 9 (.tmp 16)), none⟩, ⟨2, some 18, (.binOp .neq 9 (.tmp 17) (.const (Value.string { data := #[] })) 9), none⟩]) (.cond (.tmp 18) (.seq (.reg 7 [⟨0, some 2, (.assign (.const (Value.int .i64 3))), none⟩]) .ret) .skip)) (.seq (.reg 8 [⟨0, some 2, (.assign (.const (Value.int .i64 0))), none⟩]) .ret))) (.seq (.reg 9 [⟨0, some 20, (.binOp .eql 3 (.tmp 4) (.const (Value.int .i64 2)) 3), none⟩, ⟨1, some 19, (.assign (.tmp 20)), none⟩]) (.cond (.tmp 19) (.seq (.seq (.reg 10 [⟨0, some 21, (.fieldAddr 23 (.tmp 1) 1), none⟩, ⟨1, some 22, (.load 3 (.tmp 21)), none⟩, ⟨2, some 23, (.binOp .neq 3 (.tmp 22) (.const (Value.int .i64 0)) 3), none⟩]) (.cond (.tmp 23) (.seq (.reg 11 [⟨0, some 2, (.assign (.const (Value.int .i64 2))), none⟩]) .ret) .skip)) (.seq (.seq (.reg 12 [⟨0, some 24, (.fieldAddr 23 (.tmp 1) 2), none⟩, ⟨1, some 25, (.load 9 (.tmp 24)), none⟩, ⟨2, some 26, (.call { callee := .value (.func 34), args := #[.tmp 25], argTypes := #[9] }), none⟩, ⟨3, some 27, (.unOp .not 4 (.tmp 26)), none⟩]) (.cond (.tmp 27) (.seq (.reg 13 [⟨0, some 2, (.assign (.const (Value.int .i64 3))), none⟩]) .ret) .skip)) (.seq (.reg 14 [⟨0, some 2, (.assign (.const (Value.int .i64 0))), none⟩]) .ret))) .skip)))))) (.seq (.reg 15 [⟨0, some 2, (.assign (.const (Value.int .i64 1))), none⟩]) .ret)))
theorem comp13 : ∀ c, Tryd.f13.body = some c → comp c = cc13 := by
  intro c h
  have : c = Tryd.f13.body.get rfl := by rw [← Option.some_inj, ← h]; rfl
  rw [this]; rfl
def cc32 : CC := (.seq (.reg 0 [⟨0, some 1, (.box 23 (.tmp 0)), none⟩, ⟨1, some 2, (.alloc 49), none⟩, ⟨2, some 3, (.assign (.const (Value.bool false))), none⟩]) (.seq (.seq (.reg 1 [⟨0, some 4, (.fieldAddr 23 (.tmp 1) 0), none⟩, ⟨1, some 5, (.load 3 (.tmp 4)), none⟩, ⟨2, some 6, (.binOp .lss 3 (.tmp 5) (.const (Value.int .i64 1)) 3), none⟩, ⟨3, some 7, (.move (.tmp 6)), none⟩, ⟨4, some 8, (.fieldAddr 23 (.tmp 1) 0), (some (7, false))⟩, ⟨5, some 9, (.load 3 (.tmp 8)), (some (7, false))⟩, ⟨6, some 10, (.binOp .gtr 3 (.tmp 9) (.const (Value.int .i64 3)) 3), (some (7, false))⟩, ⟨7, some 11, (.pick (.tmp 7) (.const (Value.bool true)) (.tmp 10)), none⟩]) (.cond (.tmp 11) (.seq (.reg 2 [⟨0, some 12, (.build 49 #[]), none⟩, ⟨1, none, (.store 49 (.tmp 2) (.tmp 12)), none⟩, ⟨2, some 3, (.assign (.const (Value.bool false))), none⟩]) .ret) .skip)) (.seq (.reg 3 [⟨0, some 13, (.fieldAddr 23 (.tmp 1) 0), none⟩, ⟨1, some 14, (.load 3 (.tmp 13)), none⟩, ⟨2, some 15, (.indexAddr 59 (.global 0) (.tmp 14)), none⟩, ⟨3, some 16, (.load 49 (.tmp 15)), none⟩, ⟨4, none, (.store 49 (.tmp 2) (.tmp 16)), none⟩, ⟨5, some 3, (.assign (.const (Value.bool true))), none⟩]) .ret)))
theorem comp32 : ∀ c, Tryd.f32.body = some c → comp c = cc32 := by
  intro c h
  have : c = Tryd.f32.body.get rfl := by rw [← Option.some_inj, ← h]; rfl
  rw [this]; rfl
def cc14 : CC := (.seq (.reg 0 [⟨0, some 1, (.box 23 (.tmp 0)), none⟩, ⟨1, some 2, (.assign (.const (Value.int .i64 0))), none⟩]) (.seq (.seq (.reg 1 [⟨0, some 6, (.load 23 (.tmp 1)), none⟩, ⟨1, some 7, (.call { callee := .value (.func 32), args := #[.tmp 6], argTypes := #[23] }), none⟩, ⟨2, some 5, (.move (.tmp 7)), none⟩, ⟨3, some 8, (.extract (.tmp 5) 0), none⟩, ⟨4, some 9, (.extract (.tmp 5) 1), none⟩, ⟨5, some 3, (.alloc 49), none⟩, ⟨6, none, (.store 49 (.tmp 3) (.tmp 8)), none⟩, ⟨7, some 4, (.assign (.tmp 9)), none⟩]) (.seq (.reg 2 [⟨0, some 10, (.fieldAddr 49 (.tmp 3) 0), none⟩, ⟨1, some 11, (.load 4 (.tmp 10)), none⟩]) (.cond (.tmp 11) (.seq (.reg 3 [⟨0, some 12, (.fieldAddr 23 (.tmp 1) 1), none⟩, ⟨1, some 13, (.load 3 (.tmp 12)), none⟩, ⟨2, some 2, (.assign (.tmp 13)), none⟩]) .ret) .skip))) (.seq (.reg 4 [⟨0, some 2, (.assign (.const (Value.int .i64 0))), none⟩]) .ret)))
theorem comp14 : ∀ c, Tryd.f14.body = some c → comp c = cc14 := by
  intro c h
  have : c = Tryd.f14.body.get rfl := by rw [← Option.some_inj, ← h]; rfl
  rw [this]; rfl
def cc16 : CC := (.seq (.reg 0 [⟨0, some 1, (.box 23 (.tmp 0)), none⟩, ⟨1, some 2, (.assign (.const (Value.int .i64 0))), none⟩]) (.seq (.reg 1 [⟨0, some 6, (.load 23 (.tmp 1)), none⟩, ⟨1, some 7, (.call { callee := .value (.func 32), args := #[.tmp 6], argTypes := #[23] }), none⟩, ⟨2, some 5, (.move (.tmp 7)), none⟩, ⟨3, some 8, (.extract (.tmp 5) 0), none⟩, ⟨4, some 9, (.extract (.tmp 5) 1), none⟩, ⟨5, some 3, (.alloc 49), none⟩, ⟨6, none, (.store 49 (.tmp 3) (.tmp 8)), none⟩, ⟨7, some 4, (.assign (.tmp 9)), none⟩]) (.seq (.block 0 (.seq (.reg 2 [⟨0, some 11, (.fieldAddr 49 (.tmp 3) 1), none⟩, ⟨1, some 12, (.load 4 (.tmp 11)), none⟩, ⟨2, some 10, (.assign (.tmp 12)), none⟩]) (.cond (.tmp 10) (.seq (.reg 3 [⟨0, some 13, (.fieldAddr 23 (.tmp 1) 1), none⟩, ⟨1, some 14, (.load 3 (.tmp 13)), none⟩, ⟨2, some 2, (.assign (.tmp 14)), none⟩]) .ret) (.seq (.reg 4 [⟨0, some 16, (.fieldAddr 23 (.tmp 1) 0), none⟩, ⟨1, some 17, (.load 3 (.tmp 16)), none⟩, ⟨2, some 18, (.binOp .eql 3 (.tmp 17) (.const (Value.int .i64 2)) 3), none⟩, ⟨3, some 15, (.assign (.tmp 18)), none⟩]) (.cond (.tmp 15) (.seq (.reg 5 [⟨0, some 19, (.fieldAddr 23 (.tmp 1) 2), none⟩, ⟨1, some 20, (.load 9 (.tmp 19)), none⟩, ⟨2, some 21, (.call { callee := .value (.func 19), args := #[.tmp 20], argTypes := #[9] }), none⟩, ⟨3, some 22, (.call { callee := .builtin .max, args := #[.tmp 21, .const (Value.int .i64 0)], argTypes := #[3, 3] }), none⟩, ⟨4, some 2, (.assign (.tmp 22)), none⟩]) .ret) .skip))))) (.seq (.reg 6 [⟨0, some 2, (.assign (.const (Value.int .i64 0))), none⟩]) .ret))))
theorem comp16 : ∀ c, Tryd.f16.body = some c → comp c = cc16 := by
  intro c h
  have : c = Tryd.f16.body.get rfl := by rw [← Option.some_inj, ← h]; rfl
  rw [this]; rfl
def cc12 : CC := (.seq (.reg 0 [⟨0, some 1, (.box 23 (.tmp 0)), none⟩, ⟨1, some 2, (.assign (.const (Value.int .i64 0))), none⟩]) (.seq (.reg 1 [⟨0, some 6, (.load 23 (.tmp 1)), none⟩, ⟨1, some 7, (.call { callee := .value (.func 32), args := #[.tmp 6], argTypes := #[23] }), none⟩, ⟨2, some 5, (.move (.tmp 7)), none⟩, ⟨3, some 8, (.extract (.tmp 5) 0), none⟩, ⟨4, some 9, (.extract (.tmp 5) 1), none⟩, ⟨5, some 3, (.alloc 49), none⟩, ⟨6, none, (.store 49 (.tmp 3) (.tmp 8)), none⟩, ⟨7, some 4, (.assign (.tmp 9)), none⟩]) (.seq (.block 0 (.seq (.reg 2 [⟨0, some 11, (.move (.tmp 4)), none⟩, ⟨1, some 12, (.unOp .not 4 (.tmp 11)), none⟩, ⟨2, some 10, (.assign (.tmp 12)), none⟩]) (.cond (.tmp 10) (.seq (.reg 3 [⟨0, some 2, (.assign (.const (Value.int .i64 1))), none⟩]) .ret) (.seq (.seq (.reg 4 [⟨0, some 14, (.fieldAddr 49 (.tmp 3) 0), none⟩, ⟨1, some 15, (.load 4 (.tmp 14)), none⟩, ⟨2, some 16, (.move (.tmp 15)), none⟩, ⟨3, some 17, (.fieldAddr 23 (.tmp 1) 1), (some (16, true))⟩, ⟨4, some 18, (.load 3 (.tmp 17)), (some (16, true))⟩, ⟨5, some 19, (.binOp .lss 3 (.tmp 18) (.const (Value.int .i64 0)) 3), (some (16, true))⟩, ⟨6, some 20, (.move (.tmp 19)), (some (16, true))⟩, ⟨7, some 21, (.fieldAddr 23 (.tmp 1) 1), (some (20, false))⟩, ⟨8, some 22, (.load 3 (.tmp 21)), (some (20, false))⟩, ⟨9, some 23, (.binOp .gtr 3 (.tmp 22) (.const (Value.int .i64 1048576)) 3), (some (20, false))⟩, ⟨10, some 24, (.pick (.tmp 20) (.const (Value.bool true)) (.tmp 23)), (some (16, true))⟩, ⟨11, some 25, (.pick (.tmp 16) (.tmp 24) (.const (Value.bool false))), none⟩, ⟨12, some 13, (.assign (.tmp 25)), none⟩]) (.cond (.tmp 13) .skip (.reg 5 [⟨0, some 26, (.fieldAddr 49 (.tmp 3) 0), none⟩, ⟨1, some 27, (.load 4 (.tmp 26)), none⟩, ⟨2, some 28, (.unOp .not 4 (.tmp 27)), none⟩, ⟨3, some 29, (.move (.tmp 28)), none⟩, ⟨4, some 30, (.fieldAddr 23 (.tmp 1) 1), (some (29, true))⟩, ⟨5, some 31, (.load 3 (.tmp 30)), (some (29, true))⟩, ⟨6, some 32, (.binOp .neq 3 (.tmp 31) (.const (Value.int .i64 0)) 3), (some (29, true))⟩, ⟨7, some 33, (.pick (.tmp 29) (.tmp 32) (.const (Value.bool false))), none⟩, ⟨8, some 13, (.assign (.tmp 33)), none⟩]))) (.cond (.tmp 13) (.seq (.reg 6 [⟨0, some 2, (.assign (.const (Value.int .i64 2))), none⟩]) .ret) (.seq (.seq (.reg 7 [⟨0, some 35, (.fieldAddr 49 (.tmp 3) 0), none⟩, ⟨1, some 36, (.load 4 (.tmp 35)), none⟩, ⟨2, some 37, (.move (.tmp 36)), none⟩, ⟨3, some 38, (.fieldAddr 23 (.tmp 1) 2), (some (37, true))⟩, ⟨4, some 39, (.load 9 (.tmp 38)), (some (37, true))⟩, ⟨5, some 40, (.binOp .neq 9 (.tmp 39) (.const (Value.string { data := #[] })) 9), (some (37, true))⟩, ⟨6, some 41, (.pick (.tmp 37) (.tmp 40) (.const (Value.bool false))), none⟩, ⟨7, some 34, (.assign (.tmp 41)), none⟩]) (.cond (.tmp 34) .skip (.reg 8 [⟨0, some 42, (.fieldAddr 23 (.tmp 1) 2), none⟩, ⟨1, some 43, (.load 9 (.tmp 42)), none⟩, ⟨2, some 44, (.call { callee := .value (.func 33), args := #[.tmp 43], argTypes := #[9] }), none⟩, ⟨3, some 45, (.unOp .not 4 (.tmp 44)), none⟩, ⟨4, some 34, (.assign (.tmp 45)), none⟩]))) (.cond (.tmp 34) (.seq (.reg 9 [⟨0, some 2, (.assign (.const (Value.int .i64 3))), none⟩]) .ret) .skip))))))) (.seq (.reg 10 [⟨0, some 2, (.assign (.const (Value.int .i64 0))), none⟩]) .ret))))
theorem comp12 : ∀ c, Tryd.f12.body = some c → comp c = cc12 := by
  intro c h
  have : c = Tryd.f12.body.get rfl := by rw [← Option.some_inj, ← h]; rfl
  rw [this]; rfl
theorem rin_call (k n : Int) (t : ByteArray) : CallW env 15 [spanA k n t] (fun r hs => r = .v (.int .i64 (inF k n)) ∧ hs = []) := by
  refine Ev.func tabOK [0, 1, 2, 10] 0 Tryd.func15 rfl rfl (by simp [Tryd.ntmps15]) (by rfl) (comp15 _ rfl) (rs := [.tmp 2]) rfl ?_; rw [cc15]; show Ev.Wp _ _ _ _ ⟨[(0, _)], [], 0⟩
  repeat' (first | ((with_reducible refine Ev.sided ?_ ?_); (conv => whnf)) | ((with_reducible refine Ev.w_put ?_); (conv => whnf)) | ((with_reducible refine Ev.w_step ?_); (conv => whnf)) | ((with_reducible refine Ev.w_opt ?_); (conv => whnf)) | ((with_reducible refine Ev.chk_k ?_ ?_); rotate_left; (focus first | rfl | (simp only [Ev.nbeq, Bool.and_true, Bool.true_and, Bool.not_false]; done) | ((repeat' (first | exact Ev.nbeq _ | rfl | refine Bool.and_eq_true_iff.2 ⟨?_, ?_⟩)); done)); conv => whnf) | with_reducible refine Ev.c_dec (fun _ => ?_) (fun _ => ?_) | with_reducible refine Ev.c_not ?_ | with_reducible refine Ev.c_t ?_ | with_reducible refine Ev.c_f ?_ | with_reducible refine Ev.c_br (fun _ => ?_) (fun _ => ?_) | ((with_reducible refine Ev.br_not ?_); conv => whnf) | with_reducible refine Ev.br_dec (fun _ => ?_) (fun _ => ?_) | with_reducible refine Ev.br (fun _ => ?_) (fun _ => ?_) | with_reducible refine Ev.eo_ret ?_ | with_reducible refine Ev.eo_norm ?_ | with_reducible refine Ev.t_norm ?_ | with_reducible refine Ev.k_seq ?_ | ((with_reducible refine Ev.k_reg (hs := []) (tabOK' _ _) (fun Q hQ => ?_)); (simp only [Ev.runE_cons, Ev.runE_nil]); conv => whnf) | (with_reducible refine hQ _ ?_; clear hQ Q) | with_reducible refine Ev.k_cond rfl ?_ | with_reducible refine Ev.k_skip ?_ | with_reducible refine Ev.k_block ?_ | with_reducible refine Ev.k_exit ?_ | with_reducible refine Ev.k_ret ?_ | with_reducible refine Ev.t_ret ?_ | with_reducible refine Ev.t_exit ?_ | with_reducible refine Ev.b_norm ?_ | with_reducible refine Ev.b_ret ?_ | with_reducible refine Ev.b_here ?_ | with_reducible refine Ev.b_off rfl ?_ | ((with_reducible refine Ev.e_ret (fun F hF => ?_)); conv => whnf) | ((with_reducible refine Ev.e_norm (fun F hF => ?_)); conv => whnf) | (with_reducible refine hF _ ?_; clear hF F) | (refine Ev.Side.of ?_; exact Nat.le_of_ble_eq_true rfl))
  all_goals (refine ⟨congrArg (fun z => AV.v (Value.int IntKind.i64 z)) ?_, rfl⟩; unfold inF; split <;> omega)
theorem rout_call (k n : Int) (t : ByteArray) (ht : t.size ≤ 1000000000) : CallW env 17 [spanA k n t] (fun r hs => r = .v (.int .i64 (outF k n t)) ∧ hs = []) := by
  refine Ev.func tabOK [0, 1, 2, 5, 10] 0 Tryd.func17 rfl rfl (by simp [Tryd.ntmps17]) (by rfl) (comp17 _ rfl) (rs := [.tmp 2]) rfl ?_; rw [cc17]; show Ev.Wp _ _ _ _ ⟨[(0, _)], [], 0⟩
  repeat' (first | ((with_reducible refine Ev.sided ?_ ?_); (conv => whnf)) | ((with_reducible refine Ev.w_put ?_); (conv => whnf)) | ((with_reducible refine Ev.w_step ?_); (conv => whnf)) | ((with_reducible refine Ev.w_opt ?_); (conv => whnf)) | ((with_reducible refine Ev.chk_k ?_ ?_); rotate_left; (focus first | rfl | (simp only [Ev.nbeq, Bool.and_true, Bool.true_and, Bool.not_false]; done) | ((repeat' (first | exact Ev.nbeq _ | rfl | refine Bool.and_eq_true_iff.2 ⟨?_, ?_⟩)); done)); conv => whnf) | with_reducible refine Ev.c_dec (fun _ => ?_) (fun _ => ?_) | with_reducible refine Ev.c_not ?_ | with_reducible refine Ev.c_t ?_ | with_reducible refine Ev.c_f ?_ | with_reducible refine Ev.c_br (fun _ => ?_) (fun _ => ?_) | ((with_reducible refine Ev.br_not ?_); conv => whnf) | with_reducible refine Ev.br_dec (fun _ => ?_) (fun _ => ?_) | with_reducible refine Ev.br (fun _ => ?_) (fun _ => ?_) | with_reducible refine Ev.eo_ret ?_ | with_reducible refine Ev.eo_norm ?_ | with_reducible refine Ev.t_norm ?_ | with_reducible refine Ev.k_seq ?_ | ((with_reducible refine Ev.k_reg (hs := []) (tabOK' _ _) (fun Q hQ => ?_)); (simp only [Ev.runE_cons, Ev.runE_nil]); conv => whnf) | (with_reducible refine hQ _ ?_; clear hQ Q) | with_reducible refine Ev.k_cond rfl ?_ | with_reducible refine Ev.k_skip ?_ | with_reducible refine Ev.k_block ?_ | with_reducible refine Ev.k_exit ?_ | with_reducible refine Ev.k_ret ?_ | with_reducible refine Ev.t_ret ?_ | with_reducible refine Ev.t_exit ?_ | with_reducible refine Ev.b_norm ?_ | with_reducible refine Ev.b_ret ?_ | with_reducible refine Ev.b_here ?_ | with_reducible refine Ev.b_off rfl ?_ | ((with_reducible refine Ev.e_ret (fun F hF => ?_)); conv => whnf) | ((with_reducible refine Ev.e_norm (fun F hF => ?_)); conv => whnf) | (with_reducible refine hF _ ?_; clear hF F) | ((refine Ev.call_det (rcount_call t ht) rfl rfl ?_); conv => whnf) | (refine Ev.Side.of ?_; exact Nat.le_of_ble_eq_true rfl))
  all_goals (refine ⟨congrArg (fun z => AV.v (Value.int IntKind.i64 z)) ?_, rfl⟩; unfold outF; simp only [*, if_true, if_false, reduceIte, Int.reduceEq])
theorem rmay_call (k n : Int) (t : ByteArray) (ht : t.size ≤ 1000000000) : CallW env 13 [spanA k n t] (fun r hs => r = .v (.int .i64 (mayF k n t)) ∧ hs = []) := by
  refine Ev.func tabOK [0, 1, 2, 4, 5, 15, 18, 19, 23, 27] 0 Tryd.func13 rfl rfl (by simp [Tryd.ntmps13]) (by rfl) (comp13 _ rfl) (rs := [.tmp 2]) rfl ?_; rw [cc13]; show Ev.Wp _ _ _ _ ⟨[(0, _)], [], 0⟩
  repeat' (first | ((with_reducible refine Ev.sided ?_ ?_); (conv => whnf)) | ((with_reducible refine Ev.w_put ?_); (conv => whnf)) | ((with_reducible refine Ev.w_step ?_); (conv => whnf)) | ((with_reducible refine Ev.w_opt ?_); (conv => whnf)) | ((with_reducible refine Ev.chk_k ?_ ?_); rotate_left; (focus first | rfl | (simp only [Ev.nbeq, Bool.and_true, Bool.true_and, Bool.not_false]; done) | ((repeat' (first | exact Ev.nbeq _ | rfl | refine Bool.and_eq_true_iff.2 ⟨?_, ?_⟩)); done)); conv => whnf) | with_reducible refine Ev.c_dec (fun _ => ?_) (fun _ => ?_) | with_reducible refine Ev.c_not ?_ | with_reducible refine Ev.c_t ?_ | with_reducible refine Ev.c_f ?_ | with_reducible refine Ev.c_br (fun _ => ?_) (fun _ => ?_) | ((with_reducible refine Ev.br_not ?_); conv => whnf) | with_reducible refine Ev.br_dec (fun _ => ?_) (fun _ => ?_) | with_reducible refine Ev.br (fun _ => ?_) (fun _ => ?_) | with_reducible refine Ev.eo_ret ?_ | with_reducible refine Ev.eo_norm ?_ | with_reducible refine Ev.t_norm ?_ | with_reducible refine Ev.k_seq ?_ | ((with_reducible refine Ev.k_reg (hs := []) (tabOK' _ _) (fun Q hQ => ?_)); (simp only [Ev.runE_cons, Ev.runE_nil]); conv => whnf) | (with_reducible refine hQ _ ?_; clear hQ Q) | with_reducible refine Ev.k_cond rfl ?_ | with_reducible refine Ev.k_skip ?_ | with_reducible refine Ev.k_block ?_ | with_reducible refine Ev.k_exit ?_ | with_reducible refine Ev.k_ret ?_ | with_reducible refine Ev.t_ret ?_ | with_reducible refine Ev.t_exit ?_ | with_reducible refine Ev.b_norm ?_ | with_reducible refine Ev.b_ret ?_ | with_reducible refine Ev.b_here ?_ | with_reducible refine Ev.b_off rfl ?_ | ((with_reducible refine Ev.e_ret (fun F hF => ?_)); conv => whnf) | ((with_reducible refine Ev.e_norm (fun F hF => ?_)); conv => whnf) | (with_reducible refine hF _ ?_; clear hF F) | ((refine Ev.call_det (rvalid_call t ht) rfl rfl ?_); conv => whnf) | (refine Ev.Side.of ?_; exact Nat.le_of_ble_eq_true rfl))
  all_goals first
    | (exfalso; omega)
    | (refine ⟨congrArg (fun z => AV.v (Value.int IntKind.i64 z)) ?_, rfl⟩; unfold mayF; simp [*])
theorem of_call (k n : Int) (t : ByteArray) : CallW env 32 [spanA k n t] (fun r hs => r = .tup [.agg [.v (.bool (decide (k = 1 ∨ k = 3))), .v (.bool (decide (k = 1)))], .v (.bool (decide (1 ≤ k ∧ k ≤ 3)))] ∧ hs = []) := by
  have hk : k = 1 ∨ k = 2 ∨ k = 3 ∨ k < 1 ∨ 3 < k := by omega
  rcases hk with rfl | rfl | rfl | hk
  · refine Ev.func tabOK [0, 1, 2, 3, 11] 0 Tryd.func32 rfl rfl (by simp [Tryd.ntmps32]) (by rfl) (comp32 _ rfl) (rs := [.cell 2 49, .tmp 3]) rfl ?_; rw [cc32]; show Ev.Wp _ _ _ _ ⟨[(0, _)], [], 0⟩
    repeat' (first | ((with_reducible refine Ev.sided ?_ ?_); (conv => whnf)) | ((with_reducible refine Ev.w_put ?_); (conv => whnf)) | ((with_reducible refine Ev.w_step ?_); (conv => whnf)) | ((with_reducible refine Ev.w_opt ?_); (conv => whnf)) | ((with_reducible refine Ev.chk_k ?_ ?_); rotate_left; (focus first | rfl | (simp only [Ev.nbeq, Bool.and_true, Bool.true_and, Bool.not_false]; done) | ((repeat' (first | exact Ev.nbeq _ | rfl | refine Bool.and_eq_true_iff.2 ⟨?_, ?_⟩)); done)); conv => whnf) | with_reducible refine Ev.c_dec (fun _ => ?_) (fun _ => ?_) | with_reducible refine Ev.c_not ?_ | with_reducible refine Ev.c_t ?_ | with_reducible refine Ev.c_f ?_ | with_reducible refine Ev.c_br (fun _ => ?_) (fun _ => ?_) | ((with_reducible refine Ev.br_not ?_); conv => whnf) | with_reducible refine Ev.br_dec (fun _ => ?_) (fun _ => ?_) | with_reducible refine Ev.br (fun _ => ?_) (fun _ => ?_) | with_reducible refine Ev.eo_ret ?_ | with_reducible refine Ev.eo_norm ?_ | with_reducible refine Ev.t_norm ?_ | with_reducible refine Ev.k_seq ?_ | ((with_reducible refine Ev.k_reg (hs := []) (tabOK' _ _) (fun Q hQ => ?_)); (simp only [Ev.runE_cons, Ev.runE_nil]); conv => whnf) | (with_reducible refine hQ _ ?_; clear hQ Q) | with_reducible refine Ev.k_cond rfl ?_ | with_reducible refine Ev.k_skip ?_ | with_reducible refine Ev.k_block ?_ | with_reducible refine Ev.k_exit ?_ | with_reducible refine Ev.k_ret ?_ | with_reducible refine Ev.t_ret ?_ | with_reducible refine Ev.t_exit ?_ | with_reducible refine Ev.b_norm ?_ | with_reducible refine Ev.b_ret ?_ | with_reducible refine Ev.b_here ?_ | with_reducible refine Ev.b_off rfl ?_ | ((with_reducible refine Ev.e_ret (fun F hF => ?_)); conv => whnf) | ((with_reducible refine Ev.e_norm (fun F hF => ?_)); conv => whnf) | (with_reducible refine hF _ ?_; clear hF F) | (refine Ev.Side.of ?_; exact Nat.le_of_ble_eq_true rfl))
    all_goals first | (exfalso; omega) | exact ⟨rfl, rfl⟩ | (refine Ev.Side.of ?_; decide)
  · refine Ev.func tabOK [0, 1, 2, 3, 11] 0 Tryd.func32 rfl rfl (by simp [Tryd.ntmps32]) (by rfl) (comp32 _ rfl) (rs := [.cell 2 49, .tmp 3]) rfl ?_; rw [cc32]; show Ev.Wp _ _ _ _ ⟨[(0, _)], [], 0⟩
    repeat' (first | ((with_reducible refine Ev.sided ?_ ?_); (conv => whnf)) | ((with_reducible refine Ev.w_put ?_); (conv => whnf)) | ((with_reducible refine Ev.w_step ?_); (conv => whnf)) | ((with_reducible refine Ev.w_opt ?_); (conv => whnf)) | ((with_reducible refine Ev.chk_k ?_ ?_); rotate_left; (focus first | rfl | (simp only [Ev.nbeq, Bool.and_true, Bool.true_and, Bool.not_false]; done) | ((repeat' (first | exact Ev.nbeq _ | rfl | refine Bool.and_eq_true_iff.2 ⟨?_, ?_⟩)); done)); conv => whnf) | with_reducible refine Ev.c_dec (fun _ => ?_) (fun _ => ?_) | with_reducible refine Ev.c_not ?_ | with_reducible refine Ev.c_t ?_ | with_reducible refine Ev.c_f ?_ | with_reducible refine Ev.c_br (fun _ => ?_) (fun _ => ?_) | ((with_reducible refine Ev.br_not ?_); conv => whnf) | with_reducible refine Ev.br_dec (fun _ => ?_) (fun _ => ?_) | with_reducible refine Ev.br (fun _ => ?_) (fun _ => ?_) | with_reducible refine Ev.eo_ret ?_ | with_reducible refine Ev.eo_norm ?_ | with_reducible refine Ev.t_norm ?_ | with_reducible refine Ev.k_seq ?_ | ((with_reducible refine Ev.k_reg (hs := []) (tabOK' _ _) (fun Q hQ => ?_)); (simp only [Ev.runE_cons, Ev.runE_nil]); conv => whnf) | (with_reducible refine hQ _ ?_; clear hQ Q) | with_reducible refine Ev.k_cond rfl ?_ | with_reducible refine Ev.k_skip ?_ | with_reducible refine Ev.k_block ?_ | with_reducible refine Ev.k_exit ?_ | with_reducible refine Ev.k_ret ?_ | with_reducible refine Ev.t_ret ?_ | with_reducible refine Ev.t_exit ?_ | with_reducible refine Ev.b_norm ?_ | with_reducible refine Ev.b_ret ?_ | with_reducible refine Ev.b_here ?_ | with_reducible refine Ev.b_off rfl ?_ | ((with_reducible refine Ev.e_ret (fun F hF => ?_)); conv => whnf) | ((with_reducible refine Ev.e_norm (fun F hF => ?_)); conv => whnf) | (with_reducible refine hF _ ?_; clear hF F) | (refine Ev.Side.of ?_; exact Nat.le_of_ble_eq_true rfl))
    all_goals first | (exfalso; omega) | exact ⟨rfl, rfl⟩ | (refine Ev.Side.of ?_; decide)
  · refine Ev.func tabOK [0, 1, 2, 3, 11] 0 Tryd.func32 rfl rfl (by simp [Tryd.ntmps32]) (by rfl) (comp32 _ rfl) (rs := [.cell 2 49, .tmp 3]) rfl ?_; rw [cc32]; show Ev.Wp _ _ _ _ ⟨[(0, _)], [], 0⟩
    repeat' (first | ((with_reducible refine Ev.sided ?_ ?_); (conv => whnf)) | ((with_reducible refine Ev.w_put ?_); (conv => whnf)) | ((with_reducible refine Ev.w_step ?_); (conv => whnf)) | ((with_reducible refine Ev.w_opt ?_); (conv => whnf)) | ((with_reducible refine Ev.chk_k ?_ ?_); rotate_left; (focus first | rfl | (simp only [Ev.nbeq, Bool.and_true, Bool.true_and, Bool.not_false]; done) | ((repeat' (first | exact Ev.nbeq _ | rfl | refine Bool.and_eq_true_iff.2 ⟨?_, ?_⟩)); done)); conv => whnf) | with_reducible refine Ev.c_dec (fun _ => ?_) (fun _ => ?_) | with_reducible refine Ev.c_not ?_ | with_reducible refine Ev.c_t ?_ | with_reducible refine Ev.c_f ?_ | with_reducible refine Ev.c_br (fun _ => ?_) (fun _ => ?_) | ((with_reducible refine Ev.br_not ?_); conv => whnf) | with_reducible refine Ev.br_dec (fun _ => ?_) (fun _ => ?_) | with_reducible refine Ev.br (fun _ => ?_) (fun _ => ?_) | with_reducible refine Ev.eo_ret ?_ | with_reducible refine Ev.eo_norm ?_ | with_reducible refine Ev.t_norm ?_ | with_reducible refine Ev.k_seq ?_ | ((with_reducible refine Ev.k_reg (hs := []) (tabOK' _ _) (fun Q hQ => ?_)); (simp only [Ev.runE_cons, Ev.runE_nil]); conv => whnf) | (with_reducible refine hQ _ ?_; clear hQ Q) | with_reducible refine Ev.k_cond rfl ?_ | with_reducible refine Ev.k_skip ?_ | with_reducible refine Ev.k_block ?_ | with_reducible refine Ev.k_exit ?_ | with_reducible refine Ev.k_ret ?_ | with_reducible refine Ev.t_ret ?_ | with_reducible refine Ev.t_exit ?_ | with_reducible refine Ev.b_norm ?_ | with_reducible refine Ev.b_ret ?_ | with_reducible refine Ev.b_here ?_ | with_reducible refine Ev.b_off rfl ?_ | ((with_reducible refine Ev.e_ret (fun F hF => ?_)); conv => whnf) | ((with_reducible refine Ev.e_norm (fun F hF => ?_)); conv => whnf) | (with_reducible refine hF _ ?_; clear hF F) | (refine Ev.Side.of ?_; exact Nat.le_of_ble_eq_true rfl))
    all_goals first | (exfalso; omega) | exact ⟨rfl, rfl⟩ | (refine Ev.Side.of ?_; decide)
  · rw [decide_eq_false (p := k = 1 ∨ k = 3) (by omega), decide_eq_false (p := k = 1) (by omega), decide_eq_false (p := 1 ≤ k ∧ k ≤ 3) (by omega)]
    refine Ev.func tabOK [0, 1, 2, 3, 11] 0 Tryd.func32 rfl rfl (by simp [Tryd.ntmps32]) (by rfl) (comp32 _ rfl) (rs := [.cell 2 49, .tmp 3]) rfl ?_; rw [cc32]; show Ev.Wp _ _ _ _ ⟨[(0, _)], [], 0⟩
    repeat' (first | ((with_reducible refine Ev.sided ?_ ?_); (conv => whnf)) | ((with_reducible refine Ev.w_put ?_); (conv => whnf)) | ((with_reducible refine Ev.w_step ?_); (conv => whnf)) | ((with_reducible refine Ev.w_opt ?_); (conv => whnf)) | ((with_reducible refine Ev.chk_k ?_ ?_); rotate_left; (focus first | rfl | (simp only [Ev.nbeq, Bool.and_true, Bool.true_and, Bool.not_false]; done) | ((repeat' (first | exact Ev.nbeq _ | rfl | refine Bool.and_eq_true_iff.2 ⟨?_, ?_⟩)); done)); conv => whnf) | with_reducible refine Ev.c_dec (fun _ => ?_) (fun _ => ?_) | with_reducible refine Ev.c_not ?_ | with_reducible refine Ev.c_t ?_ | with_reducible refine Ev.c_f ?_ | with_reducible refine Ev.c_br (fun _ => ?_) (fun _ => ?_) | ((with_reducible refine Ev.br_not ?_); conv => whnf) | with_reducible refine Ev.br_dec (fun _ => ?_) (fun _ => ?_) | with_reducible refine Ev.br (fun _ => ?_) (fun _ => ?_) | with_reducible refine Ev.eo_ret ?_ | with_reducible refine Ev.eo_norm ?_ | with_reducible refine Ev.t_norm ?_ | with_reducible refine Ev.k_seq ?_ | ((with_reducible refine Ev.k_reg (hs := []) (tabOK' _ _) (fun Q hQ => ?_)); (simp only [Ev.runE_cons, Ev.runE_nil]); conv => whnf) | (with_reducible refine hQ _ ?_; clear hQ Q) | with_reducible refine Ev.k_cond rfl ?_ | with_reducible refine Ev.k_skip ?_ | with_reducible refine Ev.k_block ?_ | with_reducible refine Ev.k_exit ?_ | with_reducible refine Ev.k_ret ?_ | with_reducible refine Ev.t_ret ?_ | with_reducible refine Ev.t_exit ?_ | with_reducible refine Ev.b_norm ?_ | with_reducible refine Ev.b_ret ?_ | with_reducible refine Ev.b_here ?_ | with_reducible refine Ev.b_off rfl ?_ | ((with_reducible refine Ev.e_ret (fun F hF => ?_)); conv => whnf) | ((with_reducible refine Ev.e_norm (fun F hF => ?_)); conv => whnf) | (with_reducible refine hF _ ?_; clear hF F) | (refine Ev.Side.of ?_; exact Nat.le_of_ble_eq_true rfl))
    all_goals first | exact ⟨rfl, rfl⟩ | (exfalso; omega)
theorem in_call (k n : Int) (t : ByteArray) : CallW env 14 [spanA k n t] (fun r hs => r = .v (.int .i64 (inF k n)) ∧ hs = []) := by
  refine Ev.func tabOK [0, 1, 2, 3, 11] 0 Tryd.func14 rfl rfl (by simp [Tryd.ntmps14]) (by rfl) (comp14 _ rfl) (rs := [.tmp 2]) rfl ?_; rw [cc14]; show Ev.Wp _ _ _ _ ⟨[(0, _)], [], 0⟩
  repeat' (first | ((with_reducible refine Ev.sided ?_ ?_); (conv => whnf)) | ((with_reducible refine Ev.w_put ?_); (conv => whnf)) | ((with_reducible refine Ev.w_step ?_); (conv => whnf)) | ((with_reducible refine Ev.w_opt ?_); (conv => whnf)) | ((with_reducible refine Ev.chk_k ?_ ?_); rotate_left; (focus first | rfl | (simp only [Ev.nbeq, Bool.and_true, Bool.true_and, Bool.not_false]; done) | ((repeat' (first | exact Ev.nbeq _ | rfl | refine Bool.and_eq_true_iff.2 ⟨?_, ?_⟩)); done)); conv => whnf) | with_reducible refine Ev.c_dec (fun _ => ?_) (fun _ => ?_) | with_reducible refine Ev.c_not ?_ | with_reducible refine Ev.c_t ?_ | with_reducible refine Ev.c_f ?_ | with_reducible refine Ev.c_br (fun _ => ?_) (fun _ => ?_) | ((with_reducible refine Ev.br_not ?_); conv => whnf) | with_reducible refine Ev.br_dec (fun _ => ?_) (fun _ => ?_) | with_reducible refine Ev.br (fun _ => ?_) (fun _ => ?_) | with_reducible refine Ev.eo_ret ?_ | with_reducible refine Ev.eo_norm ?_ | with_reducible refine Ev.t_norm ?_ | with_reducible refine Ev.k_seq ?_ | ((with_reducible refine Ev.k_reg (hs := []) (tabOK' _ _) (fun Q hQ => ?_)); (simp only [Ev.runE_cons, Ev.runE_nil]); conv => whnf) | (with_reducible refine hQ _ ?_; clear hQ Q) | with_reducible refine Ev.k_cond rfl ?_ | with_reducible refine Ev.k_skip ?_ | with_reducible refine Ev.k_block ?_ | with_reducible refine Ev.k_exit ?_ | with_reducible refine Ev.k_ret ?_ | with_reducible refine Ev.t_ret ?_ | with_reducible refine Ev.t_exit ?_ | with_reducible refine Ev.b_norm ?_ | with_reducible refine Ev.b_ret ?_ | with_reducible refine Ev.b_here ?_ | with_reducible refine Ev.b_off rfl ?_ | ((with_reducible refine Ev.e_ret (fun F hF => ?_)); conv => whnf) | ((with_reducible refine Ev.e_norm (fun F hF => ?_)); conv => whnf) | (with_reducible refine hF _ ?_; clear hF F) | ((refine Ev.call_det (of_call k n t) rfl rfl ?_); conv => whnf) | (refine Ev.Side.of ?_; exact Nat.le_of_ble_eq_true rfl))
  all_goals first
    | (exfalso; omega)
    | (refine ⟨congrArg (fun z => AV.v (Value.int IntKind.i64 z)) ?_, rfl⟩; unfold inF; simp [*])
theorem out_call (k n : Int) (t : ByteArray) (ht : t.size ≤ 1000000000) : CallW env 16 [spanA k n t] (fun r hs => r = .v (.int .i64 (outF k n t)) ∧ hs = []) := by
  refine Ev.func tabOK [0, 1, 2, 3, 10, 15] 0 Tryd.func16 rfl rfl (by simp [Tryd.ntmps16]) (by rfl) (comp16 _ rfl) (rs := [.tmp 2]) rfl ?_; rw [cc16]; show Ev.Wp _ _ _ _ ⟨[(0, _)], [], 0⟩
  repeat' (first | ((with_reducible refine Ev.sided ?_ ?_); (conv => whnf)) | ((with_reducible refine Ev.w_put ?_); (conv => whnf)) | ((with_reducible refine Ev.w_step ?_); (conv => whnf)) | ((with_reducible refine Ev.w_opt ?_); (conv => whnf)) | ((with_reducible refine Ev.chk_k ?_ ?_); rotate_left; (focus first | rfl | (simp only [Ev.nbeq, Bool.and_true, Bool.true_and, Bool.not_false]; done) | ((repeat' (first | exact Ev.nbeq _ | rfl | refine Bool.and_eq_true_iff.2 ⟨?_, ?_⟩)); done)); conv => whnf) | with_reducible refine Ev.c_dec (fun _ => ?_) (fun _ => ?_) | with_reducible refine Ev.c_not ?_ | with_reducible refine Ev.c_t ?_ | with_reducible refine Ev.c_f ?_ | with_reducible refine Ev.c_br (fun _ => ?_) (fun _ => ?_) | ((with_reducible refine Ev.br_not ?_); conv => whnf) | with_reducible refine Ev.br_dec (fun _ => ?_) (fun _ => ?_) | with_reducible refine Ev.br (fun _ => ?_) (fun _ => ?_) | with_reducible refine Ev.eo_ret ?_ | with_reducible refine Ev.eo_norm ?_ | with_reducible refine Ev.t_norm ?_ | with_reducible refine Ev.k_seq ?_ | ((with_reducible refine Ev.k_reg (hs := []) (tabOK' _ _) (fun Q hQ => ?_)); (simp only [Ev.runE_cons, Ev.runE_nil]); conv => whnf) | (with_reducible refine hQ _ ?_; clear hQ Q) | with_reducible refine Ev.k_cond rfl ?_ | with_reducible refine Ev.k_skip ?_ | with_reducible refine Ev.k_block ?_ | with_reducible refine Ev.k_exit ?_ | with_reducible refine Ev.k_ret ?_ | with_reducible refine Ev.t_ret ?_ | with_reducible refine Ev.t_exit ?_ | with_reducible refine Ev.b_norm ?_ | with_reducible refine Ev.b_ret ?_ | with_reducible refine Ev.b_here ?_ | with_reducible refine Ev.b_off rfl ?_ | ((with_reducible refine Ev.e_ret (fun F hF => ?_)); conv => whnf) | ((with_reducible refine Ev.e_norm (fun F hF => ?_)); conv => whnf) | (with_reducible refine hF _ ?_; clear hF F) | ((refine Ev.call_det (of_call k n t) rfl rfl ?_); conv => whnf) | ((refine Ev.call_det (pcount_call t ht) rfl rfl ?_); conv => whnf) | (refine Ev.Side.of ?_; exact Nat.le_of_ble_eq_true rfl))
  all_goals first
    | (exfalso; omega)
    | (refine ⟨congrArg (fun z => AV.v (Value.int IntKind.i64 z)) ?_, rfl⟩; unfold outF; simp [*])
theorem may_call (k n : Int) (t : ByteArray) (ht : t.size ≤ 1000000000) : CallW env 12 [spanA k n t] (fun r hs => r = .v (.int .i64 (mayF k n t)) ∧ hs = []) := by
  refine Ev.func tabOK [0, 1, 2, 3, 4, 10, 13, 34] 0 Tryd.func12 rfl rfl (by simp [Tryd.ntmps12]) (by rfl) (comp12 _ rfl) (rs := [.tmp 2]) rfl ?_; rw [cc12]; show Ev.Wp _ _ _ _ ⟨[(0, _)], [], 0⟩
  repeat' (first | ((with_reducible refine Ev.sided ?_ ?_); (conv => whnf)) | ((with_reducible refine Ev.w_put ?_); (conv => whnf)) | ((with_reducible refine Ev.w_step ?_); (conv => whnf)) | ((with_reducible refine Ev.w_opt ?_); (conv => whnf)) | ((with_reducible refine Ev.chk_k ?_ ?_); rotate_left; (focus first | rfl | (simp only [Ev.nbeq, Bool.and_true, Bool.true_and, Bool.not_false]; done) | ((repeat' (first | exact Ev.nbeq _ | rfl | refine Bool.and_eq_true_iff.2 ⟨?_, ?_⟩)); done)); conv => whnf) | with_reducible refine Ev.c_dec (fun _ => ?_) (fun _ => ?_) | with_reducible refine Ev.c_not ?_ | with_reducible refine Ev.c_t ?_ | with_reducible refine Ev.c_f ?_ | with_reducible refine Ev.c_br (fun _ => ?_) (fun _ => ?_) | ((with_reducible refine Ev.br_not ?_); conv => whnf) | with_reducible refine Ev.br_dec (fun _ => ?_) (fun _ => ?_) | with_reducible refine Ev.br (fun _ => ?_) (fun _ => ?_) | with_reducible refine Ev.eo_ret ?_ | with_reducible refine Ev.eo_norm ?_ | with_reducible refine Ev.t_norm ?_ | with_reducible refine Ev.k_seq ?_ | ((with_reducible refine Ev.k_reg (hs := []) (tabOK' _ _) (fun Q hQ => ?_)); (simp only [Ev.runE_cons, Ev.runE_nil]); conv => whnf) | (with_reducible refine hQ _ ?_; clear hQ Q) | with_reducible refine Ev.k_cond rfl ?_ | with_reducible refine Ev.k_skip ?_ | with_reducible refine Ev.k_block ?_ | with_reducible refine Ev.k_exit ?_ | with_reducible refine Ev.k_ret ?_ | with_reducible refine Ev.t_ret ?_ | with_reducible refine Ev.t_exit ?_ | with_reducible refine Ev.b_norm ?_ | with_reducible refine Ev.b_ret ?_ | with_reducible refine Ev.b_here ?_ | with_reducible refine Ev.b_off rfl ?_ | ((with_reducible refine Ev.e_ret (fun F hF => ?_)); conv => whnf) | ((with_reducible refine Ev.e_norm (fun F hF => ?_)); conv => whnf) | (with_reducible refine hF _ ?_; clear hF F) | ((refine Ev.call_det (of_call k n t) rfl rfl ?_); conv => whnf) | ((refine Ev.call_det (pvalid_call t ht) rfl rfl ?_); conv => whnf) | (refine Ev.Side.of ?_; exact Nat.le_of_ble_eq_true rfl))
  all_goals first
    | (exfalso; omega)
    | (refine ⟨congrArg (fun z => AV.v (Value.int IntKind.i64 z)) ?_, rfl⟩; unfold mayF; simp [*]; done)
    | (obtain rfl : k = 2 := by omega
       refine ⟨congrArg (fun z => AV.v (Value.int IntKind.i64 z)) ?_, rfl⟩; unfold mayF; simp [*]; done)
    | (refine ⟨congrArg (fun z => AV.v (Value.int IntKind.i64 z)) ?_, rfl⟩; unfold mayF; rw [if_neg (by omega), if_neg (by omega)]; done)
    | (rename_i ht' hv; subst ht'; exact absurd hv (by decide))
end Go.Proofs.YtdgpilapblipbaaDoor.Abs

/- The reference's texts, made of code points. -/
namespace Go.Proofs.YtdgpilapblipbaaDoor.Abs
open Go
set_option maxRecDepth 100000
set_option linter.unusedSimpArgs false
set_option linter.unusedVariables false
attribute [local irreducible] Ev.FinL Ev.brC Ev.Side Ev.Wp Ev.Again Ev.To Ev.Fin
open Go.Lib Go.RowKit
def rns (l : List Int) : List (List AV) := l.map fun n => [.v (.int .i32 n)]
def bys (l : List Int) : List (List AV) := l.map fun n => [.v (.int .u8 n)]
def encI (n : Int) : List Int :=
  if sizeF n = 1 then [n] else if sizeF n = 2 then [192 + n / 64, 128 + n % 64] else if sizeF n = 3 then [224 + n / 4096, 128 + n / 64 % 64, 128 + n % 64]
  else if sizeF n = 4 then [240 + n / 262144, 128 + n / 4096 % 64, 128 + n / 64 % 64, 128 + n % 64] else []
def strI (l : List Int) : ByteArray := ⟨(l.map fun n => UInt8.ofNat n.toNat).toArray⟩
theorem toBytes : ∀ l : List Int, (bys l).mapM toByte = some (l.map fun n => UInt8.ofNat n.toNat)
  | [] => rfl
  | n :: l => by
    have := toBytes l
    simp only [bys] at this ⊢
    simp only [List.map_cons, List.mapM_cons, this, toByte]; rfl
theorem w1 {n : Int} (h : 0 ≤ n ∧ n < 128) : IntKind.u8.wrap n = n := by rw [Ev.wrap8]; omega
theorem wa {n c b : Int} (hn : 0 ≤ n) (hb : 0 ≤ c ∧ c + n / b < 256 ∧ 0 ≤ n / b) : IntKind.u8.wrap (IntKind.i64.wrap (c + IntKind.i64.wrap (n.tdiv b))) = c + n / b := by
  rw [Int.tdiv_eq_ediv_of_nonneg hn, Ev.wrap64, Ev.wrap64, Ev.wrap8]; omega
theorem wb {n : Int} (hn : 0 ≤ n) : IntKind.u8.wrap (IntKind.i64.wrap (128 + n.tmod 64)) = 128 + n % 64 := by
  rw [Int.tmod_eq_emod_of_nonneg hn, Ev.wrap64, Ev.wrap8]; omega
theorem wc {n b : Int} (hn : 0 ≤ n) (hb : 0 ≤ n / b ∧ n / b < 1114112) : IntKind.u8.wrap (IntKind.i64.wrap (128 + (IntKind.i64.wrap (n.tdiv b)).tmod 64)) = 128 + n / b % 64 := by
  have e : IntKind.i64.wrap (n.tdiv b) = n / b := by rw [Int.tdiv_eq_ediv_of_nonneg hn, Ev.wrap64]; omega
  rw [e, wb hb.1]
theorem sizeF_b {n m : Int} (h : sizeF n = m) (hm : 0 < m) : 0 ≤ n ∧ n < 1114112 ∧ (m = 1 → n < 128) ∧ (m = 2 → n < 2048) ∧ (m = 3 → n < 65536) := by
  unfold sizeF at h; omega
def cc36 : CC := (.seq (.reg 0 [⟨0, some 2, (.assign (.const (Value.string { data := #[] }))), none⟩]) (.seq (.reg 1 [⟨0, some 6, (.buildSlice 33 0 #[]), none⟩, ⟨1, some 3, (.assign (.tmp 6)), none⟩]) (.seq (.seq (.reg 2 [⟨0, some 4, (.assign (.const (Value.int .i64 0))), none⟩]) (.block 0 (.loop (.seq (.seq (.reg 3 [⟨0, some 7, (.move (.tmp 4)), none⟩, ⟨1, some 8, (.move (.tmp 0)), none⟩, ⟨2, some 9, (.call { callee := .builtin .len, args := #[.tmp 8], argTypes := #[54] }), none⟩, ⟨3, some 10, (.binOp .lss 3 (.tmp 7) (.tmp 9) 3), none⟩]) (.cond (.tmp 10) .skip (.exit 0))) (.seq (.block 1 (.seq (.reg 5 [⟨0, some 13, (.move (.tmp 0)), none⟩, ⟨1, some 14, (.move (.tmp 4)), none⟩, ⟨2, some 15, (.indexAddr 54 (.tmp 13) (.tmp 14)), none⟩, ⟨3, some 16, (.load 21 (.tmp 15)), none⟩, ⟨4, some 17, (.convert 21 3 (.tmp 16)), none⟩, ⟨5, some 5, (.assign (.tmp 17)), none⟩]) (.seq (.reg 6 [⟨0, some 18, (.move (.tmp 5)), none⟩, ⟨1, some 19, (.call { callee := .value (.func 40), args := #[.tmp 18], argTypes := #[3] }), none⟩]) (.block 2 (.seq (.reg 7 [⟨0, some 21, (.binOp .eql 3 (.tmp 19) (.const (Value.int .i64 1)) 3), none⟩, ⟨1, some 20, (.assign (.tmp 21)), none⟩]) (.cond (.tmp 20) (.reg 8 [⟨0, some 22, (.move (.tmp 3)), none⟩, ⟨1, some 23, (.move (.tmp 5)), none⟩, ⟨2, some 24, (.convert 3 5 (.tmp 23)), none⟩, ⟨3, some 25, (.buildSlice 33 1 #[(0, .tmp 24)]), none⟩, ⟨4, some 26, (.call { callee := .builtin .append, args := #[.tmp 22, .tmp 25], argTypes := #[33, 33] }), none⟩, ⟨5, some 3, (.assign (.tmp 26)), none⟩]) (.seq (.reg 9 [⟨0, some 28, (.binOp .eql 3 (.tmp 19) (.const (Value.int .i64 2)) 3), none⟩, ⟨1, some 27, (.assign (.tmp 28)), none⟩]) (.cond (.tmp 27) (.reg 10 [⟨0, some 29, (.move (.tmp 3)), none⟩, ⟨1, some 30, (.move (.tmp 5)), none⟩, ⟨2, some 31, (.binOp .quo 3 (.tmp 30) (.const (Value.int .i64 64)) 3), none⟩, ⟨3, some 32, (.binOp .add 3 (.const (Value.int .i64 192)) (.tmp 31) 3), none⟩, ⟨4, some 33, (.convert 3 5 (.tmp 32)), none⟩, ⟨5, some 34, (.move (.tmp 5)), none⟩, ⟨6, some 35, (.binOp .rem 3 (.tmp 34) (.const (Value.int .i64 64)) 3), none⟩, ⟨7, some 36, (.binOp .add 3 (.const (Value.int .i64 128)) (.tmp 35) 3), none⟩, ⟨8, some 37, (.convert 3 5 (.tmp 36)), none⟩, ⟨9, some 38, (.buildSlice 33 2 #[(0, .tmp 33), (1, .tmp 37)]), none⟩, ⟨10, some 39, (.call { callee := .builtin .append, args := #[.tmp 29, .tmp 38], argTypes := #[33, 33] }), none⟩, ⟨11, some 3, (.assign (.tmp 39)), none⟩]) (.seq (.reg 11 [⟨0, some 41, (.binOp .eql 3 (.tmp 19) (.const (Value.int .i64 3)) 3), none⟩, ⟨1, some 40, (.assign (.tmp 41)), none⟩]) (.cond (.tmp 40) (.reg 12 [⟨0, some 42, (.move (.tmp 3)), none⟩, ⟨1, some 43, (.move (.tmp 5)), none⟩, ⟨2, some 44, (.binOp .quo 3 (.tmp 43) (.const (Value.int .i64 4096)) 3), none⟩, ⟨3, some 45, (.binOp .add 3 (.const (Value.int .i64 224)) (.tmp 44) 3), none⟩, ⟨4, some 46, (.convert 3 5 (.tmp 45)), none⟩, ⟨5, some 47, (.move (.tmp 5)), none⟩, ⟨6, some 48, (.binOp .quo 3 (.tmp 47) (.const (Value.int .i64 64)) 3), none⟩, ⟨7, some 49, (.binOp .rem 3 (.tmp 48) (.const (Value.int .i64 64)) 3), none⟩, ⟨8, some 50, (.binOp .add 3 (.const (Value.int .i64 128)) (.tmp 49) 3), none⟩, ⟨9, some 51, (.convert 3 5 (.tmp 50)), none⟩, ⟨10, some 52, (.move (.tmp 5)), none⟩, ⟨11, some 53, (.binOp .rem 3 (.tmp 52) (.const (Value.int .i64 64)) 3), none⟩, ⟨12, some 54, (.binOp .add 3 (.const (Value.int .i64 128)) (.tmp 53) 3), none⟩, ⟨13, some 55, (.convert 3 5 (.tmp 54)), none⟩, ⟨14, some 56, (.buildSlice 33 3 #[(0, .tmp 46), (1, .tmp 51), (2, .tmp 55)]), none⟩, ⟨15, some 57, (.call { callee := .builtin .append, args := #[.tmp 42, .tmp 56], argTypes := #[33, 33] }), none⟩, ⟨16, some 3, (.assign (.tmp 57)), none⟩]) (.seq (.reg 13 [⟨0, some 59, (.binOp .eql 3 (.tmp 19) (.const (Value.int .i64 4)) 3), none⟩, ⟨1, some 58, (.assign (.tmp 59)), none⟩]) (.cond (.tmp 58) (.reg 14 [⟨0, some 60, (.move (.tmp 3)), none⟩, ⟨1, some 61, (.move (.tmp 5)), none⟩, ⟨2, some 62, (.binOp .quo 3 (.tmp 61) (.const (Value.int .i64 262144)) 3), none⟩, ⟨3, some 63, (.binOp .add 3 (.const (Value.int .i64 240)) (.tmp 62) 3), none⟩, ⟨4, some 64, (.convert 3 5 (.tmp 63)), none⟩, ⟨5, some 65, (.move (.tmp 5)), none⟩, ⟨6, some 66, (.binOp .quo 3 (.tmp 65) (.const (Value.int .i64 4096)) 3), none⟩, ⟨7, some 67, (.binOp .rem 3 (.tmp 66) (.const (Value.int .i64 64)) 3), none⟩, ⟨8, some 68, (.binOp .add 3 (.const (Value.int .i64 128)) (.tmp 67) 3), none⟩, ⟨9, some 69, (.convert 3 5 (.tmp 68)), none⟩, ⟨10, some 70, (.move (.tmp 5)), none⟩, ⟨11, some 71, (.binOp .quo 3 (.tmp 70) (.const (Value.int .i64 64)) 3), none⟩, ⟨12, some 72, (.binOp .rem 3 (.tmp 71) (.const (Value.int .i64 64)) 3), none⟩, ⟨13, some 73, (.binOp .add 3 (.const (Value.int .i64 128)) (.tmp 72) 3), none⟩, ⟨14, some 74, (.convert 3 5 (.tmp 73)), none⟩, ⟨15, some 75, (.move (.tmp 5)), none⟩, ⟨16, some 76, (.binOp .rem 3 (.tmp 75) (.const (Value.int .i64 64)) 3), none⟩, ⟨17, some 77, (.binOp .add 3 (.const (Value.int .i64 128)) (.tmp 76) 3), none⟩, ⟨18, some 78, (.convert 3 5 (.tmp 77)), none⟩, ⟨19, some 79, (.buildSlice 33 4 #[(0, .tmp 64), (1, .tmp 69), (2, .tmp 74), (3, .tmp 78)]), none⟩, ⟨20, some 80, (.call { callee := .builtin .append, args := #[.tmp 60, .tmp 79], argTypes := #[33, 33] }), none⟩, ⟨21, some 3, (.assign (.tmp 80)), none⟩]) .skip)))))))))))) (.reg 4 [⟨0, some 11, (.move (.tmp 4)), none⟩, ⟨1, some 12, (.binOp .add 3 (.tmp 11) (.const (Value.int .i64 1)) 3), none⟩, ⟨2, some 4, (.assign (.tmp 12)), none⟩])))))) (.seq (.reg 15 [⟨0, some 81, (.move (.tmp 3)), none⟩, ⟨1, some 82, (.convert 33 9 (.tmp 81)), none⟩, ⟨2, some 2, (.assign (.tmp 82)), none⟩]) .ret))))
theorem comp36 : ∀ c, Tryd.f36.body = some c → comp c = cc36 := by
  intro c h
  have : c = Tryd.f36.body.get rfl := by rw [← Option.some_inj, ← h]; rfl
  rw [this]; rfl
theorem of_text (l : List Int) (hl : l.length ≤ 1000000) (h32 : ∀ n ∈ l, -2147483648 ≤ n ∧ n < 2147483648) : CallW env 36 [.lst 1 (rns l)] (fun r hs => r = .v (.string (strI (l.flatMap encI))) ∧ hs = []) := by
  refine Ev.func tabOK [0, 2, 3, 4, 5, 10, 19, 20, 27, 40, 58] 0 Tryd.func36 rfl rfl (by simp [Tryd.ntmps36]) (by rfl) (comp36 _ rfl) (rs := [.tmp 2]) rfl ?_; rw [cc36]; show Ev.Wp _ _ _ _ ⟨[(0, _)], [], 0⟩
  repeat' (first | ((with_reducible refine Ev.sided ?_ ?_); (conv => whnf)) | ((with_reducible refine Ev.w_put ?_); (conv => whnf)) | ((with_reducible refine Ev.w_step ?_); (conv => whnf)) | ((with_reducible refine Ev.w_opt ?_); (conv => whnf)) | ((with_reducible refine Ev.chk_k ?_ ?_); rotate_left; (focus first | rfl | (simp only [Ev.nbeq, Bool.and_true, Bool.true_and, Bool.not_false]; done) | ((repeat' (first | exact Ev.nbeq _ | rfl | refine Bool.and_eq_true_iff.2 ⟨?_, ?_⟩)); done)); conv => whnf) | with_reducible refine Ev.c_dec (fun _ => ?_) (fun _ => ?_) | with_reducible refine Ev.c_not ?_ | with_reducible refine Ev.c_t ?_ | with_reducible refine Ev.c_f ?_ | with_reducible refine Ev.c_br (fun _ => ?_) (fun _ => ?_) | ((with_reducible refine Ev.br_not ?_); conv => whnf) | with_reducible refine Ev.br_dec (fun _ => ?_) (fun _ => ?_) | with_reducible refine Ev.br (fun _ => ?_) (fun _ => ?_) | with_reducible refine Ev.eo_ret ?_ | with_reducible refine Ev.eo_norm ?_ | with_reducible refine Ev.t_norm ?_ | with_reducible refine Ev.k_seq ?_ | ((with_reducible refine Ev.k_reg (hs := []) (tabOK' _ _) (fun Q hQ => ?_)); (simp only [Ev.runE_cons, Ev.runE_nil]); conv => whnf) | (with_reducible refine hQ _ ?_; clear hQ Q) | with_reducible refine Ev.k_cond rfl ?_ | with_reducible refine Ev.k_skip ?_ | with_reducible refine Ev.k_block ?_ | with_reducible refine Ev.k_exit ?_ | with_reducible refine Ev.k_ret ?_ | with_reducible refine Ev.t_ret ?_ | with_reducible refine Ev.t_exit ?_ | with_reducible refine Ev.b_norm ?_ | with_reducible refine Ev.b_ret ?_ | with_reducible refine Ev.b_here ?_ | with_reducible refine Ev.b_off rfl ?_ | ((with_reducible refine Ev.e_ret (fun F hF => ?_)); conv => whnf) | ((with_reducible refine Ev.e_norm (fun F hF => ?_)); conv => whnf) | (with_reducible refine hF _ ?_; clear hF F) | (refine Ev.Side.of ?_; exact Nat.le_of_ble_eq_true rfl))
  refine Ev.loop (fun k s => ∃ (i v c : Nat) (out : List Int), s = ⟨[(0, .lst 1 (rns l)), (2, .v (.string ⟨#[]⟩)), (3, .own 512 v 0 out.length), (4, .v (.int .i64 i))], [(512, ⟨1, 5, v, 0, false, bys out⟩)], c⟩ ∧
      k + i = l.length ∧ out = (l.take i).flatMap encI ∧ out.length ≤ 4 * i) ?_ ?_
  · exact Ev.to ⟨[(0, _), (2, _), (3, .own 512 0 0 0), (4, .v (.int .i64 ((0 : Nat) : Int)))], [(512, ⟨1, 5, 0, 0, false, bys []⟩)], 8⟩ ⟨rfl, rfl, rfl, rfl, trivial⟩ ⟨rfl, trivial⟩ (Nat.le_refl _) ⟨l.length, 0, 0, 8, [], rfl, by omega, rfl, by simp⟩
  rintro k s1 ⟨i, v, c, out, rfl, hk, ho, hb⟩
  repeat' (first | ((with_reducible refine Ev.sided ?_ ?_); (conv => whnf)) | ((with_reducible refine Ev.w_put ?_); (conv => whnf)) | ((with_reducible refine Ev.w_step ?_); (conv => whnf)) | ((with_reducible refine Ev.w_opt ?_); (conv => whnf)) | ((with_reducible refine Ev.chk_k ?_ ?_); rotate_left; (focus first | rfl | (simp only [Ev.nbeq, Bool.and_true, Bool.true_and, Bool.not_false]; done) | ((repeat' (first | exact Ev.nbeq _ | rfl | refine Bool.and_eq_true_iff.2 ⟨?_, ?_⟩)); done)); conv => whnf) | with_reducible refine Ev.c_dec (fun _ => ?_) (fun _ => ?_) | with_reducible refine Ev.c_not ?_ | with_reducible refine Ev.c_t ?_ | with_reducible refine Ev.c_f ?_ | with_reducible refine Ev.c_br (fun _ => ?_) (fun _ => ?_) | ((with_reducible refine Ev.br_not ?_); conv => whnf) | with_reducible refine Ev.br_dec (fun _ => ?_) (fun _ => ?_) | with_reducible refine Ev.br (fun _ => ?_) (fun _ => ?_) | with_reducible refine Ev.eo_ret ?_ | with_reducible refine Ev.eo_norm ?_ | with_reducible refine Ev.t_norm ?_ | with_reducible refine Ev.k_seq ?_ | ((with_reducible refine Ev.k_reg (hs := []) (tabOK' _ _) (fun Q hQ => ?_)); (simp only [Ev.runE_cons, Ev.runE_nil]); conv => whnf) | (with_reducible refine hQ _ ?_; clear hQ Q) | with_reducible refine Ev.k_cond rfl ?_ | with_reducible refine Ev.k_skip ?_ | with_reducible refine Ev.k_block ?_ | with_reducible refine Ev.k_exit ?_ | with_reducible refine Ev.k_ret ?_ | with_reducible refine Ev.t_ret ?_ | with_reducible refine Ev.t_exit ?_ | with_reducible refine Ev.b_norm ?_ | with_reducible refine Ev.b_ret ?_ | with_reducible refine Ev.b_here ?_ | with_reducible refine Ev.b_off rfl ?_ | ((with_reducible refine Ev.e_ret (fun F hF => ?_)); conv => whnf) | ((with_reducible refine Ev.e_norm (fun F hF => ?_)); conv => whnf) | (with_reducible refine hF _ ?_; clear hF F) | ((refine Ev.call_det (size_call _) rfl rfl ?_); conv => whnf) | ((refine Ev.el_map ?_ (fun hi => ?_); rotate_left); conv => whnf) | (refine Ev.Side.of ?_; exact Nat.le_of_ble_eq_true rfl))
  · have hi' : i < l.length := by simpa using hi
    have hn : IntKind.i64.wrap (l[(↑i : Int).toNat]'hi) = l[i] := by
      simp only [Int.toNat_natCast]; rw [Ev.wrap64]; have := h32 _ (List.getElem_mem hi'); omega
    have hz : sizeF l[i] = 1 := by rw [← hn]; assumption
    obtain ⟨b0, b1, b2, b3, b4⟩ := sizeF_b hz (by decide)
    have he : encI l[i] = [l[i]] := by unfold encI; simp [hz]
    refine Ev.again (k - 1) ⟨[(0, _), (2, _), (3, .own 512 (c + 8) 0 (out ++ encI l[i]).length), (4, .v (.int .i64 ((i + 1 : Nat) : Int)))], [(512, ⟨1, 5, c + 8, 0, false, bys (out ++ encI l[i])⟩)], c + 8 + 8⟩ (by omega) ⟨rfl, rfl, Ev.slot_eq rfl ?_, Ev.slot_int rfl (by rw [Ev.wrap64]; omega), trivial⟩ ⟨Ev.slot_eq rfl ?_, trivial⟩ (Nat.le_refl _) ⟨i + 1, c + 8, c + 8 + 8, out ++ encI l[i], rfl, by omega, ?_, ?_⟩
    · rw [he]; simp
    · rw [he]
      simp only [Blk.mk.injEq, true_and, and_true, List.drop_zero, bys, List.map_append, List.map_cons, List.map_nil, List.take_succ_cons, List.take_zero, hn]
      simp only [w1 (n := l[i]) ⟨b0, by omega⟩, wb b0, wc (n := l[i]) (b := 64) b0 (by omega), wc (n := l[i]) (b := 4096) b0 (by omega)]
    · rw [ho, List.take_succ_eq_append_getElem hi', List.flatMap_append]; simp
    · rw [he, List.length_append]; simp; omega
  · refine Ev.Side.of ?_
    have hm : 2000000003 ≤ maxLen := by decide
    have hi' : i < l.length := by simpa using hi
    simp [bys]
    omega
  · have hi' : i < l.length := by simpa using hi
    have hn : IntKind.i64.wrap (l[(↑i : Int).toNat]'hi) = l[i] := by
      simp only [Int.toNat_natCast]; rw [Ev.wrap64]; have := h32 _ (List.getElem_mem hi'); omega
    have hz : sizeF l[i] = 2 := by rw [← hn]; assumption
    obtain ⟨b0, b1, b2, b3, b4⟩ := sizeF_b hz (by decide)
    have he : encI l[i] = [192 + l[i] / 64, 128 + l[i] % 64] := by unfold encI; simp [hz]
    refine Ev.again (k - 1) ⟨[(0, _), (2, _), (3, .own 512 (c + 8) 0 (out ++ encI l[i]).length), (4, .v (.int .i64 ((i + 1 : Nat) : Int)))], [(512, ⟨1, 5, c + 8, 0, false, bys (out ++ encI l[i])⟩)], c + 8 + 8⟩ (by omega) ⟨rfl, rfl, Ev.slot_eq rfl ?_, Ev.slot_int rfl (by rw [Ev.wrap64]; omega), trivial⟩ ⟨Ev.slot_eq rfl ?_, trivial⟩ (Nat.le_refl _) ⟨i + 1, c + 8, c + 8 + 8, out ++ encI l[i], rfl, by omega, ?_, ?_⟩
    · rw [he]; simp
    · rw [he]
      simp only [Blk.mk.injEq, true_and, and_true, List.drop_zero, bys, List.map_append, List.map_cons, List.map_nil, List.take_succ_cons, List.take_zero, hn]
      simp only [wa (n := l[i]) (c := 192) (b := 64) b0 (by omega), wa (n := l[i]) (c := 224) (b := 4096) b0 (by omega), wa (n := l[i]) (c := 240) (b := 262144) b0 (by omega), wb b0, wc (n := l[i]) (b := 64) b0 (by omega), wc (n := l[i]) (b := 4096) b0 (by omega)]
    · rw [ho, List.take_succ_eq_append_getElem hi', List.flatMap_append]; simp
    · rw [he, List.length_append]; simp; omega
  · refine Ev.Side.of ?_
    have hm : 2000000003 ≤ maxLen := by decide
    have hi' : i < l.length := by simpa using hi
    simp [bys]
    omega
  · exact Ev.Side.of (by decide)
  · exact Ev.Side.of (by decide)
  · have hi' : i < l.length := by simpa using hi
    have hn : IntKind.i64.wrap (l[(↑i : Int).toNat]'hi) = l[i] := by
      simp only [Int.toNat_natCast]; rw [Ev.wrap64]; have := h32 _ (List.getElem_mem hi'); omega
    have hz : sizeF l[i] = 3 := by rw [← hn]; assumption
    obtain ⟨b0, b1, b2, b3, b4⟩ := sizeF_b hz (by decide)
    have he : encI l[i] = [224 + l[i] / 4096, 128 + l[i] / 64 % 64, 128 + l[i] % 64] := by unfold encI; simp [hz]
    refine Ev.again (k - 1) ⟨[(0, _), (2, _), (3, .own 512 (c + 8) 0 (out ++ encI l[i]).length), (4, .v (.int .i64 ((i + 1 : Nat) : Int)))], [(512, ⟨1, 5, c + 8, 0, false, bys (out ++ encI l[i])⟩)], c + 8 + 8⟩ (by omega) ⟨rfl, rfl, Ev.slot_eq rfl ?_, Ev.slot_int rfl (by rw [Ev.wrap64]; omega), trivial⟩ ⟨Ev.slot_eq rfl ?_, trivial⟩ (Nat.le_refl _) ⟨i + 1, c + 8, c + 8 + 8, out ++ encI l[i], rfl, by omega, ?_, ?_⟩
    · rw [he]; simp
    · rw [he]
      simp only [Blk.mk.injEq, true_and, and_true, List.drop_zero, bys, List.map_append, List.map_cons, List.map_nil, List.take_succ_cons, List.take_zero, hn]
      simp only [wa (n := l[i]) (c := 224) (b := 4096) b0 (by omega), wa (n := l[i]) (c := 240) (b := 262144) b0 (by omega), wb b0, wc (n := l[i]) (b := 64) b0 (by omega), wc (n := l[i]) (b := 4096) b0 (by omega)]
    · rw [ho, List.take_succ_eq_append_getElem hi', List.flatMap_append]; simp
    · rw [he, List.length_append]; simp; omega
  · refine Ev.Side.of ?_
    have hm : 2000000003 ≤ maxLen := by decide
    have hi' : i < l.length := by simpa using hi
    simp [bys]
    omega
  · exact Ev.Side.of (by decide)
  · exact Ev.Side.of (by decide)
  · exact Ev.Side.of (by decide)
  · exact Ev.Side.of (by decide)
  · have hi' : i < l.length := by simpa using hi
    have hn : IntKind.i64.wrap (l[(↑i : Int).toNat]'hi) = l[i] := by
      simp only [Int.toNat_natCast]; rw [Ev.wrap64]; have := h32 _ (List.getElem_mem hi'); omega
    have hz : sizeF l[i] = 4 := by rw [← hn]; assumption
    obtain ⟨b0, b1, b2, b3, b4⟩ := sizeF_b hz (by decide)
    have he : encI l[i] = [240 + l[i] / 262144, 128 + l[i] / 4096 % 64, 128 + l[i] / 64 % 64, 128 + l[i] % 64] := by unfold encI; simp [hz]
    refine Ev.again (k - 1) ⟨[(0, _), (2, _), (3, .own 512 (c + 8) 0 (out ++ encI l[i]).length), (4, .v (.int .i64 ((i + 1 : Nat) : Int)))], [(512, ⟨1, 5, c + 8, 0, false, bys (out ++ encI l[i])⟩)], c + 8 + 8⟩ (by omega) ⟨rfl, rfl, Ev.slot_eq rfl ?_, Ev.slot_int rfl (by rw [Ev.wrap64]; omega), trivial⟩ ⟨Ev.slot_eq rfl ?_, trivial⟩ (Nat.le_refl _) ⟨i + 1, c + 8, c + 8 + 8, out ++ encI l[i], rfl, by omega, ?_, ?_⟩
    · rw [he]; simp
    · rw [he]
      simp only [Blk.mk.injEq, true_and, and_true, List.drop_zero, bys, List.map_append, List.map_cons, List.map_nil, List.take_succ_cons, List.take_zero, hn]
      simp only [wa (n := l[i]) (c := 240) (b := 262144) b0 (by omega), wb b0, wc (n := l[i]) (b := 64) b0 (by omega), wc (n := l[i]) (b := 4096) b0 (by omega)]
    · rw [ho, List.take_succ_eq_append_getElem hi', List.flatMap_append]; simp
    · rw [he, List.length_append]; simp; omega
  · refine Ev.Side.of ?_
    have hm : 2000000003 ≤ maxLen := by decide
    have hi' : i < l.length := by simpa using hi
    simp [bys]
    omega
  · exact Ev.Side.of (by decide)
  · exact Ev.Side.of (by decide)
  · exact Ev.Side.of (by decide)
  · exact Ev.Side.of (by decide)
  · exact Ev.Side.of (by decide)
  · exact Ev.Side.of (by decide)
  · have hi' : i < l.length := by simpa using hi
    have hn : IntKind.i64.wrap (l[(↑i : Int).toNat]'hi) = l[i] := by
      simp only [Int.toNat_natCast]; rw [Ev.wrap64]; have := h32 _ (List.getElem_mem hi'); omega
    rename_i z1 z2 z3 z4
    simp only [hn] at z1 z2 z3 z4
    have he : encI l[i] = [] := by unfold encI; simp [z1, z2, z3, z4]
    refine Ev.again (k - 1) ⟨[(0, _), (2, _), (3, _), (4, .v (.int .i64 ((i + 1 : Nat) : Int)))], [(512, _)], _⟩ (by omega) ⟨rfl, rfl, rfl, Ev.slot_int rfl (by rw [Ev.wrap64]; omega), trivial⟩ ⟨rfl, trivial⟩ (Nat.le_refl _) ⟨i + 1, v, c, out, rfl, by omega, ?_, by omega⟩
    rw [ho, List.take_succ_eq_append_getElem hi', List.flatMap_append]; simp [he]
  · refine Ev.Side.of ?_
    rename_i hlt
    simp only [rns, List.length_map] at hlt; omega
  · refine Ev.Side.of ?_
    rename_i hlt
    omega
  · rename_i hlt
    have ei : i = l.length := by simp only [rns, List.length_map] at hlt; omega
    have e : List.mapM toByte (List.take out.length (List.drop 0 (bys out))) = some (out.map fun n => UInt8.ofNat n.toNat) := by
      rw [List.drop_zero, List.take_of_length_le (by simp [bys])]; exact toBytes out
    simp only [e]
    conv => whnf
    repeat' (first | ((with_reducible refine Ev.sided ?_ ?_); (conv => whnf)) | ((with_reducible refine Ev.w_put ?_); (conv => whnf)) | ((with_reducible refine Ev.w_step ?_); (conv => whnf)) | ((with_reducible refine Ev.w_opt ?_); (conv => whnf)) | ((with_reducible refine Ev.chk_k ?_ ?_); rotate_left; (focus first | rfl | (simp only [Ev.nbeq, Bool.and_true, Bool.true_and, Bool.not_false]; done) | ((repeat' (first | exact Ev.nbeq _ | rfl | refine Bool.and_eq_true_iff.2 ⟨?_, ?_⟩)); done)); conv => whnf) | with_reducible refine Ev.c_dec (fun _ => ?_) (fun _ => ?_) | with_reducible refine Ev.c_not ?_ | with_reducible refine Ev.c_t ?_ | with_reducible refine Ev.c_f ?_ | with_reducible refine Ev.c_br (fun _ => ?_) (fun _ => ?_) | ((with_reducible refine Ev.br_not ?_); conv => whnf) | with_reducible refine Ev.br_dec (fun _ => ?_) (fun _ => ?_) | with_reducible refine Ev.br (fun _ => ?_) (fun _ => ?_) | with_reducible refine Ev.eo_ret ?_ | with_reducible refine Ev.eo_norm ?_ | with_reducible refine Ev.t_norm ?_ | with_reducible refine Ev.k_seq ?_ | ((with_reducible refine Ev.k_reg (hs := []) (tabOK' _ _) (fun Q hQ => ?_)); (simp only [Ev.runE_cons, Ev.runE_nil]); conv => whnf) | (with_reducible refine hQ _ ?_; clear hQ Q) | with_reducible refine Ev.k_cond rfl ?_ | with_reducible refine Ev.k_skip ?_ | with_reducible refine Ev.k_block ?_ | with_reducible refine Ev.k_exit ?_ | with_reducible refine Ev.k_ret ?_ | with_reducible refine Ev.t_ret ?_ | with_reducible refine Ev.t_exit ?_ | with_reducible refine Ev.b_norm ?_ | with_reducible refine Ev.b_ret ?_ | with_reducible refine Ev.b_here ?_ | with_reducible refine Ev.b_off rfl ?_ | ((with_reducible refine Ev.e_ret (fun F hF => ?_)); conv => whnf) | ((with_reducible refine Ev.e_norm (fun F hF => ?_)); conv => whnf) | (with_reducible refine hF _ ?_; clear hF F) | (refine Ev.Side.of ?_; exact Nat.le_of_ble_eq_true rfl))
    subst ho; subst ei
    rw [List.take_of_length_le (Nat.le_refl _)]
    exact ⟨rfl, rfl⟩
  · refine Ev.Side.of ?_; simp [bys]
end Go.Proofs.YtdgpilapblipbaaDoor.Abs
