/- The types' facts, as the calculus asks for them. -/
import Derived.Test.YtdgpilapblipbaaDoorAbsDrawC
import Derived.Test.YtdgpilapblipbaaDoorProg
import Derived.Lib.DecodeN
namespace Go.Proofs.YtdgpilapblipbaaDoor.Abs
open Go
theorem ti_0 : ti Tryd.prog 0 = some (some (Value.tuple #[]), 1, 0) := by rfl
theorem tsz_0 : tsz Tryd.prog 0 = some (false, 1) := by rfl
theorem kindOf_0 : kindOf Tryd.prog 0 = some TK.other := by rfl
theorem ti_1 : ti Tryd.prog 1 = some (some Value.nilFunc, 1, 8) := by rfl
theorem tsz_1 : tsz Tryd.prog 1 = some (false, 1) := by rfl
theorem kindOf_1 : kindOf Tryd.prog 1 = some TK.other := by rfl
theorem ti_2 : ti Tryd.prog 2 = some (some (Value.int IntKind.i64 0), 1, 8) := by rfl
theorem tsz_2 : tsz Tryd.prog 2 = some (false, 1) := by rfl
theorem kindOf_2 : kindOf Tryd.prog 2 = some (TK.int IntKind.i64) := by rfl
theorem ti_3 : ti Tryd.prog 3 = some (some (Value.int IntKind.i64 0), 1, 8) := by rfl
theorem tsz_3 : tsz Tryd.prog 3 = some (false, 1) := by rfl
theorem kindOf_3 : kindOf Tryd.prog 3 = some (TK.int IntKind.i64) := by rfl
theorem ti_4 : ti Tryd.prog 4 = some (some (Value.bool false), 1, 1) := by rfl
theorem tsz_4 : tsz Tryd.prog 4 = some (false, 1) := by rfl
theorem kindOf_4 : kindOf Tryd.prog 4 = some TK.bool := by rfl
theorem ti_5 : ti Tryd.prog 5 = some (some (Value.int IntKind.u8 0), 1, 1) := by rfl
theorem tsz_5 : tsz Tryd.prog 5 = some (false, 1) := by rfl
theorem kindOf_5 : kindOf Tryd.prog 5 = some (TK.int IntKind.u8) := by rfl
theorem ti_6 : ti Tryd.prog 6 = some (some (Value.int IntKind.u8 0), 1, 1) := by rfl
theorem tsz_6 : tsz Tryd.prog 6 = some (false, 1) := by rfl
theorem kindOf_6 : kindOf Tryd.prog 6 = some (TK.int IntKind.u8) := by rfl
theorem ti_7 : ti Tryd.prog 7 = some (some (Value.agg #[Value.int IntKind.i64 0, Value.int IntKind.i64 0, Value.bool false, Value.int IntKind.u8 0]), 4, 24) := by rfl
theorem tsz_7 : tsz Tryd.prog 7 = some (true, 4) := by rfl
theorem lay_7 : lay Tryd.prog 7 = some ([AV.v (Value.int IntKind.i64 0), AV.v (Value.int IntKind.i64 0), AV.v (Value.bool false), AV.v (Value.int IntKind.u8 0)], [(0, 1), (1, 1), (2, 1), (3, 1)]) := by rfl
theorem kindOf_7 : kindOf Tryd.prog 7 = some TK.other := by rfl
theorem fld_7_0 : fld Tryd.prog 7 0 = some (0, 2, 1) := by rfl
theorem fld_7_1 : fld Tryd.prog 7 1 = some (1, 3, 1) := by rfl
theorem fld_7_2 : fld Tryd.prog 7 2 = some (2, 4, 1) := by rfl
theorem fld_7_3 : fld Tryd.prog 7 3 = some (3, 6, 1) := by rfl
theorem ti_8 : ti Tryd.prog 8 = some (some (Value.agg #[Value.int IntKind.i64 0, Value.int IntKind.i64 0, Value.bool false, Value.int IntKind.u8 0]), 4, 24) := by rfl
theorem tsz_8 : tsz Tryd.prog 8 = some (true, 4) := by rfl
theorem lay_8 : lay Tryd.prog 8 = some ([AV.v (Value.int IntKind.i64 0), AV.v (Value.int IntKind.i64 0), AV.v (Value.bool false), AV.v (Value.int IntKind.u8 0)], [(0, 1), (1, 1), (2, 1), (3, 1)]) := by rfl
theorem kindOf_8 : kindOf Tryd.prog 8 = some TK.other := by rfl
theorem fld_8_0 : fld Tryd.prog 8 0 = some (0, 2, 1) := by rfl
theorem fld_8_1 : fld Tryd.prog 8 1 = some (1, 3, 1) := by rfl
theorem fld_8_2 : fld Tryd.prog 8 2 = some (2, 4, 1) := by rfl
theorem fld_8_3 : fld Tryd.prog 8 3 = some (3, 6, 1) := by rfl
theorem ti_9 : ti Tryd.prog 9 = some (some (Value.string (⟨#[]⟩ : ByteArray)), 1, 16) := by rfl
theorem tsz_9 : tsz Tryd.prog 9 = some (false, 1) := by rfl
theorem kindOf_9 : kindOf Tryd.prog 9 = some TK.str := by rfl
theorem ti_10 : ti Tryd.prog 10 = some (some (Value.string (⟨#[]⟩ : ByteArray)), 1, 16) := by rfl
theorem tsz_10 : tsz Tryd.prog 10 = some (false, 1) := by rfl
theorem kindOf_10 : kindOf Tryd.prog 10 = some TK.str := by rfl
theorem ti_11 : ti Tryd.prog 11 = some (some (Value.string (⟨#[]⟩ : ByteArray)), 1, 16) := by rfl
theorem tsz_11 : tsz Tryd.prog 11 = some (false, 1) := by rfl
theorem kindOf_11 : kindOf Tryd.prog 11 = some TK.str := by rfl
theorem ti_12 : ti Tryd.prog 12 = some (some (Value.int IntKind.u64 0), 1, 8) := by rfl
theorem tsz_12 : tsz Tryd.prog 12 = some (false, 1) := by rfl
theorem kindOf_12 : kindOf Tryd.prog 12 = some (TK.int IntKind.u64) := by rfl
theorem ti_13 : ti Tryd.prog 13 = some (some (Value.agg #[Value.string (⟨#[]⟩ : ByteArray), Value.int IntKind.u64 0]), 2, 24) := by rfl
theorem tsz_13 : tsz Tryd.prog 13 = some (true, 2) := by rfl
theorem lay_13 : lay Tryd.prog 13 = some ([AV.v (Value.string (⟨#[]⟩ : ByteArray)), AV.v (Value.int IntKind.u64 0)], [(0, 1), (1, 1)]) := by rfl
theorem kindOf_13 : kindOf Tryd.prog 13 = some TK.other := by rfl
theorem fld_13_0 : fld Tryd.prog 13 0 = some (0, 9, 1) := by rfl
theorem fld_13_1 : fld Tryd.prog 13 1 = some (1, 12, 1) := by rfl
theorem ti_14 : ti Tryd.prog 14 = some (some (Value.agg #[Value.string (⟨#[]⟩ : ByteArray), Value.int IntKind.u64 0]), 2, 24) := by rfl
theorem tsz_14 : tsz Tryd.prog 14 = some (true, 2) := by rfl
theorem lay_14 : lay Tryd.prog 14 = some ([AV.v (Value.string (⟨#[]⟩ : ByteArray)), AV.v (Value.int IntKind.u64 0)], [(0, 1), (1, 1)]) := by rfl
theorem kindOf_14 : kindOf Tryd.prog 14 = some TK.other := by rfl
theorem fld_14_0 : fld Tryd.prog 14 0 = some (0, 9, 1) := by rfl
theorem fld_14_1 : fld Tryd.prog 14 1 = some (1, 12, 1) := by rfl
theorem ti_15 : ti Tryd.prog 15 = some (some (Value.pointer none), 1, 8) := by rfl
theorem tsz_15 : tsz Tryd.prog 15 = some (false, 1) := by rfl
theorem kindOf_15 : kindOf Tryd.prog 15 = some TK.ptr := by rfl
theorem ti_16 : ti Tryd.prog 16 = some (some (Value.pointer none), 1, 8) := by rfl
theorem tsz_16 : tsz Tryd.prog 16 = some (false, 1) := by rfl
theorem kindOf_16 : kindOf Tryd.prog 16 = some TK.ptr := by rfl
theorem ti_17 : ti Tryd.prog 17 = some (some (Value.pointer none), 1, 8) := by rfl
theorem tsz_17 : tsz Tryd.prog 17 = some (false, 1) := by rfl
theorem kindOf_17 : kindOf Tryd.prog 17 = some TK.ptr := by rfl
theorem ti_18 : ti Tryd.prog 18 = some (some (Value.agg #[Value.pointer none]), 1, 8) := by rfl
theorem tsz_18 : tsz Tryd.prog 18 = some (true, 1) := by rfl
theorem lay_18 : lay Tryd.prog 18 = some ([AV.v (Value.pointer none)], [(0, 1)]) := by rfl
theorem kindOf_18 : kindOf Tryd.prog 18 = some TK.other := by rfl
theorem fld_18_0 : fld Tryd.prog 18 0 = some (0, 17, 1) := by rfl
theorem ti_19 : ti Tryd.prog 19 = some (some (Value.agg #[Value.pointer none]), 1, 8) := by rfl
theorem tsz_19 : tsz Tryd.prog 19 = some (true, 1) := by rfl
theorem lay_19 : lay Tryd.prog 19 = some ([AV.v (Value.pointer none)], [(0, 1)]) := by rfl
theorem kindOf_19 : kindOf Tryd.prog 19 = some TK.other := by rfl
theorem fld_19_0 : fld Tryd.prog 19 0 = some (0, 17, 1) := by rfl
theorem ti_20 : ti Tryd.prog 20 = some (some Value.nilIface, 1, 16) := by rfl
theorem tsz_20 : tsz Tryd.prog 20 = some (false, 1) := by rfl
theorem kindOf_20 : kindOf Tryd.prog 20 = some TK.other := by rfl
theorem ti_21 : ti Tryd.prog 21 = some (some (Value.int IntKind.i32 0), 1, 4) := by rfl
theorem tsz_21 : tsz Tryd.prog 21 = some (false, 1) := by rfl
theorem kindOf_21 : kindOf Tryd.prog 21 = some (TK.int IntKind.i32) := by rfl
theorem ti_22 : ti Tryd.prog 22 = some (some (Value.agg #[Value.int IntKind.i64 0, Value.int IntKind.i64 0, Value.string (⟨#[]⟩ : ByteArray)]), 3, 32) := by rfl
theorem tsz_22 : tsz Tryd.prog 22 = some (true, 3) := by rfl
theorem lay_22 : lay Tryd.prog 22 = some ([AV.v (Value.int IntKind.i64 0), AV.v (Value.int IntKind.i64 0), AV.v (Value.string (⟨#[]⟩ : ByteArray))], [(0, 1), (1, 1), (2, 1)]) := by rfl
theorem kindOf_22 : kindOf Tryd.prog 22 = some TK.other := by rfl
theorem fld_22_0 : fld Tryd.prog 22 0 = some (0, 3, 1) := by rfl
theorem fld_22_1 : fld Tryd.prog 22 1 = some (1, 3, 1) := by rfl
theorem fld_22_2 : fld Tryd.prog 22 2 = some (2, 9, 1) := by rfl
theorem ti_23 : ti Tryd.prog 23 = some (some (Value.agg #[Value.int IntKind.i64 0, Value.int IntKind.i64 0, Value.string (⟨#[]⟩ : ByteArray)]), 3, 32) := by rfl
theorem tsz_23 : tsz Tryd.prog 23 = some (true, 3) := by rfl
theorem lay_23 : lay Tryd.prog 23 = some ([AV.v (Value.int IntKind.i64 0), AV.v (Value.int IntKind.i64 0), AV.v (Value.string (⟨#[]⟩ : ByteArray))], [(0, 1), (1, 1), (2, 1)]) := by rfl
theorem kindOf_23 : kindOf Tryd.prog 23 = some TK.other := by rfl
theorem fld_23_0 : fld Tryd.prog 23 0 = some (0, 3, 1) := by rfl
theorem fld_23_1 : fld Tryd.prog 23 1 = some (1, 3, 1) := by rfl
theorem fld_23_2 : fld Tryd.prog 23 2 = some (2, 9, 1) := by rfl
theorem ti_24 : ti Tryd.prog 24 = some (some Value.nilFunc, 1, 8) := by rfl
theorem tsz_24 : tsz Tryd.prog 24 = some (false, 1) := by rfl
theorem kindOf_24 : kindOf Tryd.prog 24 = some TK.other := by rfl
theorem ti_25 : ti Tryd.prog 25 = some (some Value.nilFunc, 1, 8) := by rfl
theorem tsz_25 : tsz Tryd.prog 25 = some (false, 1) := by rfl
theorem kindOf_25 : kindOf Tryd.prog 25 = some TK.other := by rfl
theorem ti_26 : ti Tryd.prog 26 = some (some (Value.int IntKind.i64 0), 1, 8) := by rfl
theorem tsz_26 : tsz Tryd.prog 26 = some (false, 1) := by rfl
theorem kindOf_26 : kindOf Tryd.prog 26 = some (TK.int IntKind.i64) := by rfl
theorem ti_27 : ti Tryd.prog 27 = some (some Value.nilFunc, 1, 8) := by rfl
theorem tsz_27 : tsz Tryd.prog 27 = some (false, 1) := by rfl
theorem kindOf_27 : kindOf Tryd.prog 27 = some TK.other := by rfl
theorem ti_28 : ti Tryd.prog 28 = some (some Value.nilFunc, 1, 8) := by rfl
theorem tsz_28 : tsz Tryd.prog 28 = some (false, 1) := by rfl
theorem kindOf_28 : kindOf Tryd.prog 28 = some TK.other := by rfl
theorem ti_29 : ti Tryd.prog 29 = some (some Value.nilFunc, 1, 8) := by rfl
theorem tsz_29 : tsz Tryd.prog 29 = some (false, 1) := by rfl
theorem kindOf_29 : kindOf Tryd.prog 29 = some TK.other := by rfl
theorem ti_30 : ti Tryd.prog 30 = some (some Value.nilFunc, 1, 8) := by rfl
theorem tsz_30 : tsz Tryd.prog 30 = some (false, 1) := by rfl
theorem kindOf_30 : kindOf Tryd.prog 30 = some TK.other := by rfl
theorem ti_31 : ti Tryd.prog 31 = some (some Value.nilFunc, 1, 8) := by rfl
theorem tsz_31 : tsz Tryd.prog 31 = some (false, 1) := by rfl
theorem kindOf_31 : kindOf Tryd.prog 31 = some TK.other := by rfl
theorem ti_32 : ti Tryd.prog 32 = some (some Value.nilFunc, 1, 8) := by rfl
theorem tsz_32 : tsz Tryd.prog 32 = some (false, 1) := by rfl
theorem kindOf_32 : kindOf Tryd.prog 32 = some TK.other := by rfl
theorem ti_33 : ti Tryd.prog 33 = some (some (Value.slice none 0 0), 1, 24) := by rfl
theorem tsz_33 : tsz Tryd.prog 33 = some (false, 1) := by rfl
theorem sle_33 : sle Tryd.prog 33 = some (5, some (Value.int IntKind.u8 0), 1, 1) := by rfl
theorem arr_33 : arr Tryd.prog 33 = none := by rfl
theorem kindOf_33 : kindOf Tryd.prog 33 = some (TK.sl 5) := by rfl
theorem ti_34 : ti Tryd.prog 34 = some (some Value.nilFunc, 1, 8) := by rfl
theorem tsz_34 : tsz Tryd.prog 34 = some (false, 1) := by rfl
theorem kindOf_34 : kindOf Tryd.prog 34 = some TK.other := by rfl
theorem ti_35 : ti Tryd.prog 35 = some (some (Value.slice none 0 0), 1, 24) := by rfl
theorem tsz_35 : tsz Tryd.prog 35 = some (false, 1) := by rfl
theorem sle_35 : sle Tryd.prog 35 = some (23, some (Value.agg #[Value.int IntKind.i64 0, Value.int IntKind.i64 0, Value.string (⟨#[]⟩ : ByteArray)]), 3, 32) := by rfl
theorem arr_35 : arr Tryd.prog 35 = none := by rfl
theorem kindOf_35 : kindOf Tryd.prog 35 = some (TK.sl 23) := by rfl
theorem ti_36 : ti Tryd.prog 36 = some (some Value.nilFunc, 1, 8) := by rfl
theorem tsz_36 : tsz Tryd.prog 36 = some (false, 1) := by rfl
theorem kindOf_36 : kindOf Tryd.prog 36 = some TK.other := by rfl
theorem ti_37 : ti Tryd.prog 37 = some (some (Value.tuple #[Value.slice none 0 0, Value.int IntKind.i64 0]), 1, 0) := by rfl
theorem tsz_37 : tsz Tryd.prog 37 = some (false, 1) := by rfl
theorem kindOf_37 : kindOf Tryd.prog 37 = some TK.other := by rfl
theorem ti_38 : ti Tryd.prog 38 = some (some Value.nilFunc, 1, 8) := by rfl
theorem tsz_38 : tsz Tryd.prog 38 = some (false, 1) := by rfl
theorem kindOf_38 : kindOf Tryd.prog 38 = some TK.other := by rfl
theorem ti_39 : ti Tryd.prog 39 = some (some Value.nilFunc, 1, 8) := by rfl
theorem tsz_39 : tsz Tryd.prog 39 = some (false, 1) := by rfl
theorem kindOf_39 : kindOf Tryd.prog 39 = some TK.other := by rfl
theorem ti_40 : ti Tryd.prog 40 = some (some Value.nilFunc, 1, 8) := by rfl
theorem tsz_40 : tsz Tryd.prog 40 = some (false, 1) := by rfl
theorem kindOf_40 : kindOf Tryd.prog 40 = some TK.other := by rfl
theorem ti_41 : ti Tryd.prog 41 = some (some Value.nilFunc, 1, 8) := by rfl
theorem tsz_41 : tsz Tryd.prog 41 = some (false, 1) := by rfl
theorem kindOf_41 : kindOf Tryd.prog 41 = some TK.other := by rfl
theorem ti_42 : ti Tryd.prog 42 = some (some Value.nilFunc, 1, 8) := by rfl
theorem tsz_42 : tsz Tryd.prog 42 = some (false, 1) := by rfl
theorem kindOf_42 : kindOf Tryd.prog 42 = some TK.other := by rfl
theorem ti_43 : ti Tryd.prog 43 = some (some Value.nilFunc, 1, 8) := by rfl
theorem tsz_43 : tsz Tryd.prog 43 = some (false, 1) := by rfl
theorem kindOf_43 : kindOf Tryd.prog 43 = some TK.other := by rfl
theorem ti_44 : ti Tryd.prog 44 = some (some Value.nilFunc, 1, 8) := by rfl
theorem tsz_44 : tsz Tryd.prog 44 = some (false, 1) := by rfl
theorem kindOf_44 : kindOf Tryd.prog 44 = some TK.other := by rfl
theorem ti_45 : ti Tryd.prog 45 = some (some (Value.int IntKind.u32 0), 1, 4) := by rfl
theorem tsz_45 : tsz Tryd.prog 45 = some (false, 1) := by rfl
theorem kindOf_45 : kindOf Tryd.prog 45 = some (TK.int IntKind.u32) := by rfl
theorem ti_46 : ti Tryd.prog 46 = some (some Value.nilFunc, 1, 8) := by rfl
theorem tsz_46 : tsz Tryd.prog 46 = some (false, 1) := by rfl
theorem kindOf_46 : kindOf Tryd.prog 46 = some TK.other := by rfl
theorem ti_47 : ti Tryd.prog 47 = some (some Value.nilFunc, 1, 8) := by rfl
theorem tsz_47 : tsz Tryd.prog 47 = some (false, 1) := by rfl
theorem kindOf_47 : kindOf Tryd.prog 47 = some TK.other := by rfl
theorem ti_48 : ti Tryd.prog 48 = some (some (Value.agg #[Value.bool false, Value.bool false]), 2, 2) := by rfl
theorem tsz_48 : tsz Tryd.prog 48 = some (true, 2) := by rfl
theorem lay_48 : lay Tryd.prog 48 = some ([AV.v (Value.bool false), AV.v (Value.bool false)], [(0, 1), (1, 1)]) := by rfl
theorem kindOf_48 : kindOf Tryd.prog 48 = some TK.other := by rfl
theorem fld_48_0 : fld Tryd.prog 48 0 = some (0, 4, 1) := by rfl
theorem fld_48_1 : fld Tryd.prog 48 1 = some (1, 4, 1) := by rfl
theorem ti_49 : ti Tryd.prog 49 = some (some (Value.agg #[Value.bool false, Value.bool false]), 2, 2) := by rfl
theorem tsz_49 : tsz Tryd.prog 49 = some (true, 2) := by rfl
theorem lay_49 : lay Tryd.prog 49 = some ([AV.v (Value.bool false), AV.v (Value.bool false)], [(0, 1), (1, 1)]) := by rfl
theorem kindOf_49 : kindOf Tryd.prog 49 = some TK.other := by rfl
theorem fld_49_0 : fld Tryd.prog 49 0 = some (0, 4, 1) := by rfl
theorem fld_49_1 : fld Tryd.prog 49 1 = some (1, 4, 1) := by rfl
theorem ti_50 : ti Tryd.prog 50 = some (some (Value.tuple #[Value.agg #[Value.bool false, Value.bool false], Value.bool false]), 1, 0) := by rfl
theorem tsz_50 : tsz Tryd.prog 50 = some (false, 1) := by rfl
theorem kindOf_50 : kindOf Tryd.prog 50 = some TK.other := by rfl
theorem ti_51 : ti Tryd.prog 51 = some (some Value.nilFunc, 1, 8) := by rfl
theorem tsz_51 : tsz Tryd.prog 51 = some (false, 1) := by rfl
theorem kindOf_51 : kindOf Tryd.prog 51 = some TK.other := by rfl
theorem ti_52 : ti Tryd.prog 52 = some (some Value.nilFunc, 1, 8) := by rfl
theorem tsz_52 : tsz Tryd.prog 52 = some (false, 1) := by rfl
theorem kindOf_52 : kindOf Tryd.prog 52 = some TK.other := by rfl
theorem ti_53 : ti Tryd.prog 53 = some (some (Value.agg #[Value.int IntKind.i32 0, Value.int IntKind.i32 0, Value.int IntKind.i32 0, Value.int IntKind.i32 0, Value.int IntKind.i32 0, Value.int IntKind.i32 0, Value.int IntKind.i32 0, Value.int IntKind.i32 0]), 8, 32) := by rfl
theorem tsz_53 : tsz Tryd.prog 53 = some (true, 8) := by rfl
theorem sle_53 : sle Tryd.prog 53 = none := by rfl
theorem arr_53 : arr Tryd.prog 53 = some (8, 21, 1) := by rfl
theorem lay_53 : lay Tryd.prog 53 = some ([AV.v (Value.int IntKind.i32 0), AV.v (Value.int IntKind.i32 0), AV.v (Value.int IntKind.i32 0), AV.v (Value.int IntKind.i32 0), AV.v (Value.int IntKind.i32 0), AV.v (Value.int IntKind.i32 0), AV.v (Value.int IntKind.i32 0), AV.v (Value.int IntKind.i32 0)], [(0, 1), (1, 1), (2, 1), (3, 1), (4, 1), (5, 1), (6, 1), (7, 1)]) := by rfl
theorem kindOf_53 : kindOf Tryd.prog 53 = some TK.other := by rfl
theorem ti_54 : ti Tryd.prog 54 = some (some (Value.slice none 0 0), 1, 24) := by rfl
theorem tsz_54 : tsz Tryd.prog 54 = some (false, 1) := by rfl
theorem sle_54 : sle Tryd.prog 54 = some (21, some (Value.int IntKind.i32 0), 1, 4) := by rfl
theorem arr_54 : arr Tryd.prog 54 = none := by rfl
theorem kindOf_54 : kindOf Tryd.prog 54 = some (TK.sl 21) := by rfl
theorem ti_55 : ti Tryd.prog 55 = some (some Value.nilFunc, 1, 8) := by rfl
theorem tsz_55 : tsz Tryd.prog 55 = some (false, 1) := by rfl
theorem kindOf_55 : kindOf Tryd.prog 55 = some TK.other := by rfl
theorem ti_56 : ti Tryd.prog 56 = some (some Value.nilFunc, 1, 8) := by rfl
theorem tsz_56 : tsz Tryd.prog 56 = some (false, 1) := by rfl
theorem kindOf_56 : kindOf Tryd.prog 56 = some TK.other := by rfl
theorem ti_57 : ti Tryd.prog 57 = some (some Value.nilFunc, 1, 8) := by rfl
theorem tsz_57 : tsz Tryd.prog 57 = some (false, 1) := by rfl
theorem kindOf_57 : kindOf Tryd.prog 57 = some TK.other := by rfl
theorem ti_58 : ti Tryd.prog 58 = some (some (Value.slice none 0 0), 1, 24) := by rfl
theorem tsz_58 : tsz Tryd.prog 58 = some (false, 1) := by rfl
theorem sle_58 : sle Tryd.prog 58 = some (23, some (Value.agg #[Value.int IntKind.i64 0, Value.int IntKind.i64 0, Value.string (⟨#[]⟩ : ByteArray)]), 3, 32) := by rfl
theorem arr_58 : arr Tryd.prog 58 = none := by rfl
theorem kindOf_58 : kindOf Tryd.prog 58 = some (TK.sl 23) := by rfl
theorem ti_59 : ti Tryd.prog 59 = some (some (Value.agg #[Value.bool false, Value.bool false, Value.bool false, Value.bool false, Value.bool false, Value.bool false, Value.bool false, Value.bool false]), 8, 8) := by rfl
theorem tsz_59 : tsz Tryd.prog 59 = some (true, 8) := by rfl
theorem sle_59 : sle Tryd.prog 59 = none := by rfl
theorem arr_59 : arr Tryd.prog 59 = some (4, 49, 2) := by rfl
theorem lay_59 : lay Tryd.prog 59 = some ([AV.v (Value.bool false), AV.v (Value.bool false), AV.v (Value.bool false), AV.v (Value.bool false), AV.v (Value.bool false), AV.v (Value.bool false), AV.v (Value.bool false), AV.v (Value.bool false)], [(0, 2), (2, 2), (4, 2), (6, 2)]) := by rfl
theorem kindOf_59 : kindOf Tryd.prog 59 = some TK.other := by rfl
theorem ti_60 : ti Tryd.prog 60 = some (some (Value.slice none 0 0), 1, 24) := by rfl
theorem tsz_60 : tsz Tryd.prog 60 = some (false, 1) := by rfl
theorem sle_60 : sle Tryd.prog 60 = some (3, some (Value.int IntKind.i64 0), 1, 8) := by rfl
theorem arr_60 : arr Tryd.prog 60 = none := by rfl
theorem kindOf_60 : kindOf Tryd.prog 60 = some (TK.sl 3) := by rfl
theorem ti_61 : ti Tryd.prog 61 = some (some (Value.tuple #[Value.slice none 0 0, Value.bool false]), 1, 0) := by rfl
theorem tsz_61 : tsz Tryd.prog 61 = some (false, 1) := by rfl
theorem kindOf_61 : kindOf Tryd.prog 61 = some TK.other := by rfl
theorem ti_62 : ti Tryd.prog 62 = some (some Value.nilFunc, 1, 8) := by rfl
theorem tsz_62 : tsz Tryd.prog 62 = some (false, 1) := by rfl
theorem kindOf_62 : kindOf Tryd.prog 62 = some TK.other := by rfl
theorem ti_63 : ti Tryd.prog 63 = some (some Value.nilFunc, 1, 8) := by rfl
theorem tsz_63 : tsz Tryd.prog 63 = some (false, 1) := by rfl
theorem kindOf_63 : kindOf Tryd.prog 63 = some TK.other := by rfl
theorem ti_64 : ti Tryd.prog 64 = some (some Value.nilFunc, 1, 8) := by rfl
theorem tsz_64 : tsz Tryd.prog 64 = some (false, 1) := by rfl
theorem kindOf_64 : kindOf Tryd.prog 64 = some TK.other := by rfl
theorem tsz_65 : tsz Tryd.prog 65 = some (true, 256) := by rfl
theorem sle_65 : sle Tryd.prog 65 = none := by rfl
theorem arr_65 : arr Tryd.prog 65 = some (256, 5, 1) := by rfl
theorem kindOf_65 : kindOf Tryd.prog 65 = some TK.other := by rfl
theorem ti_66 : ti Tryd.prog 66 = some (some (Value.agg #[Value.int IntKind.u8 0, Value.int IntKind.u8 0]), 2, 2) := by rfl
theorem tsz_66 : tsz Tryd.prog 66 = some (true, 2) := by rfl
theorem lay_66 : lay Tryd.prog 66 = some ([AV.v (Value.int IntKind.u8 0), AV.v (Value.int IntKind.u8 0)], [(0, 1), (1, 1)]) := by rfl
theorem kindOf_66 : kindOf Tryd.prog 66 = some TK.other := by rfl
theorem fld_66_0 : fld Tryd.prog 66 0 = some (0, 5, 1) := by rfl
theorem fld_66_1 : fld Tryd.prog 66 1 = some (1, 5, 1) := by rfl
theorem ti_67 : ti Tryd.prog 67 = some (some (Value.agg #[Value.int IntKind.u8 0, Value.int IntKind.u8 0]), 2, 2) := by rfl
theorem tsz_67 : tsz Tryd.prog 67 = some (true, 2) := by rfl
theorem lay_67 : lay Tryd.prog 67 = some ([AV.v (Value.int IntKind.u8 0), AV.v (Value.int IntKind.u8 0)], [(0, 1), (1, 1)]) := by rfl
theorem kindOf_67 : kindOf Tryd.prog 67 = some TK.other := by rfl
theorem fld_67_0 : fld Tryd.prog 67 0 = some (0, 5, 1) := by rfl
theorem fld_67_1 : fld Tryd.prog 67 1 = some (1, 5, 1) := by rfl
theorem ti_68 : ti Tryd.prog 68 = some (some (Value.agg #[Value.int IntKind.u8 0, Value.int IntKind.u8 0, Value.int IntKind.u8 0, Value.int IntKind.u8 0, Value.int IntKind.u8 0, Value.int IntKind.u8 0, Value.int IntKind.u8 0, Value.int IntKind.u8 0, Value.int IntKind.u8 0, Value.int IntKind.u8 0, Value.int IntKind.u8 0, Value.int IntKind.u8 0, Value.int IntKind.u8 0, Value.int IntKind.u8 0, Value.int IntKind.u8 0, Value.int IntKind.u8 0, Value.int IntKind.u8 0, Value.int IntKind.u8 0, Value.int IntKind.u8 0, Value.int IntKind.u8 0, Value.int IntKind.u8 0, Value.int IntKind.u8 0, Value.int IntKind.u8 0, Value.int IntKind.u8 0, Value.int IntKind.u8 0, Value.int IntKind.u8 0, Value.int IntKind.u8 0, Value.int IntKind.u8 0, Value.int IntKind.u8 0, Value.int IntKind.u8 0, Value.int IntKind.u8 0, Value.int IntKind.u8 0]), 32, 32) := by rfl
theorem tsz_68 : tsz Tryd.prog 68 = some (true, 32) := by rfl
theorem sle_68 : sle Tryd.prog 68 = none := by rfl
theorem arr_68 : arr Tryd.prog 68 = some (16, 67, 2) := by rfl
theorem lay_68 : lay Tryd.prog 68 = some ([AV.v (Value.int IntKind.u8 0), AV.v (Value.int IntKind.u8 0), AV.v (Value.int IntKind.u8 0), AV.v (Value.int IntKind.u8 0), AV.v (Value.int IntKind.u8 0), AV.v (Value.int IntKind.u8 0), AV.v (Value.int IntKind.u8 0), AV.v (Value.int IntKind.u8 0), AV.v (Value.int IntKind.u8 0), AV.v (Value.int IntKind.u8 0), AV.v (Value.int IntKind.u8 0), AV.v (Value.int IntKind.u8 0), AV.v (Value.int IntKind.u8 0), AV.v (Value.int IntKind.u8 0), AV.v (Value.int IntKind.u8 0), AV.v (Value.int IntKind.u8 0), AV.v (Value.int IntKind.u8 0), AV.v (Value.int IntKind.u8 0), AV.v (Value.int IntKind.u8 0), AV.v (Value.int IntKind.u8 0), AV.v (Value.int IntKind.u8 0), AV.v (Value.int IntKind.u8 0), AV.v (Value.int IntKind.u8 0), AV.v (Value.int IntKind.u8 0), AV.v (Value.int IntKind.u8 0), AV.v (Value.int IntKind.u8 0), AV.v (Value.int IntKind.u8 0), AV.v (Value.int IntKind.u8 0), AV.v (Value.int IntKind.u8 0), AV.v (Value.int IntKind.u8 0), AV.v (Value.int IntKind.u8 0), AV.v (Value.int IntKind.u8 0)], [(0, 2), (2, 2), (4, 2), (6, 2), (8, 2), (10, 2), (12, 2), (14, 2), (16, 2), (18, 2), (20, 2), (22, 2), (24, 2), (26, 2), (28, 2), (30, 2)]) := by rfl
theorem kindOf_68 : kindOf Tryd.prog 68 = some TK.other := by rfl
theorem ti_69 : ti Tryd.prog 69 = some (some (Value.int IntKind.u64 0), 1, 8) := by rfl
theorem tsz_69 : tsz Tryd.prog 69 = some (false, 1) := by rfl
theorem kindOf_69 : kindOf Tryd.prog 69 = some (TK.int IntKind.u64) := by rfl
theorem ti_70 : ti Tryd.prog 70 = some (some (Value.tuple #[Value.int IntKind.i64 0, Value.int IntKind.i64 0]), 1, 0) := by rfl
theorem tsz_70 : tsz Tryd.prog 70 = some (false, 1) := by rfl
theorem kindOf_70 : kindOf Tryd.prog 70 = some TK.other := by rfl
theorem ti_71 : ti Tryd.prog 71 = some (some Value.nilFunc, 1, 8) := by rfl
theorem tsz_71 : tsz Tryd.prog 71 = some (false, 1) := by rfl
theorem kindOf_71 : kindOf Tryd.prog 71 = some TK.other := by rfl
theorem ti_72 : ti Tryd.prog 72 = some (some (Value.int IntKind.u64 0), 1, 8) := by rfl
theorem tsz_72 : tsz Tryd.prog 72 = some (false, 1) := by rfl
theorem kindOf_72 : kindOf Tryd.prog 72 = some (TK.int IntKind.u64) := by rfl
theorem ti_73 : ti Tryd.prog 73 = some (some Value.nilFunc, 1, 8) := by rfl
theorem tsz_73 : tsz Tryd.prog 73 = some (false, 1) := by rfl
theorem kindOf_73 : kindOf Tryd.prog 73 = some TK.other := by rfl
theorem ti_74 : ti Tryd.prog 74 = some (some (Value.agg #[Value.pointer none, Value.pointer none, Value.pointer none, Value.string (⟨#[]⟩ : ByteArray)]), 4, 40) := by rfl
theorem tsz_74 : tsz Tryd.prog 74 = some (true, 4) := by rfl
theorem lay_74 : lay Tryd.prog 74 = some ([AV.v (Value.pointer none), AV.v (Value.pointer none), AV.v (Value.pointer none), AV.v (Value.string (⟨#[]⟩ : ByteArray))], [(0, 1), (1, 1), (2, 1), (3, 1)]) := by rfl
theorem kindOf_74 : kindOf Tryd.prog 74 = some TK.other := by rfl
theorem fld_74_0 : fld Tryd.prog 74 0 = some (0, 17, 1) := by rfl
theorem fld_74_1 : fld Tryd.prog 74 1 = some (1, 17, 1) := by rfl
theorem fld_74_2 : fld Tryd.prog 74 2 = some (2, 17, 1) := by rfl
theorem fld_74_3 : fld Tryd.prog 74 3 = some (3, 9, 1) := by rfl
theorem ti_75 : ti Tryd.prog 75 = some (some (Value.agg #[Value.pointer none, Value.pointer none, Value.pointer none, Value.string (⟨#[]⟩ : ByteArray)]), 4, 40) := by rfl
theorem tsz_75 : tsz Tryd.prog 75 = some (true, 4) := by rfl
theorem lay_75 : lay Tryd.prog 75 = some ([AV.v (Value.pointer none), AV.v (Value.pointer none), AV.v (Value.pointer none), AV.v (Value.string (⟨#[]⟩ : ByteArray))], [(0, 1), (1, 1), (2, 1), (3, 1)]) := by rfl
theorem kindOf_75 : kindOf Tryd.prog 75 = some TK.other := by rfl
theorem fld_75_0 : fld Tryd.prog 75 0 = some (0, 17, 1) := by rfl
theorem fld_75_1 : fld Tryd.prog 75 1 = some (1, 17, 1) := by rfl
theorem fld_75_2 : fld Tryd.prog 75 2 = some (2, 17, 1) := by rfl
theorem fld_75_3 : fld Tryd.prog 75 3 = some (3, 9, 1) := by rfl
theorem ti_76 : ti Tryd.prog 76 = some (some (Value.agg #[]), 0, 0) := by rfl
theorem tsz_76 : tsz Tryd.prog 76 = some (true, 0) := by rfl
theorem sle_76 : sle Tryd.prog 76 = none := by rfl
theorem arr_76 : arr Tryd.prog 76 = some (0, 16, 1) := by rfl
theorem lay_76 : lay Tryd.prog 76 = some ([], []) := by rfl
theorem kindOf_76 : kindOf Tryd.prog 76 = some TK.other := by rfl
theorem ti_77 : ti Tryd.prog 77 = some (some (Value.agg #[]), 0, 0) := by rfl
theorem tsz_77 : tsz Tryd.prog 77 = some (true, 0) := by rfl
theorem lay_77 : lay Tryd.prog 77 = some ([], [(0, 0)]) := by rfl
theorem kindOf_77 : kindOf Tryd.prog 77 = some TK.other := by rfl
theorem fld_77_0 : fld Tryd.prog 77 0 = some (0, 76, 0) := by rfl
theorem ti_78 : ti Tryd.prog 78 = some (some (Value.agg #[]), 0, 0) := by rfl
theorem tsz_78 : tsz Tryd.prog 78 = some (true, 0) := by rfl
theorem lay_78 : lay Tryd.prog 78 = some ([], [(0, 0)]) := by rfl
theorem kindOf_78 : kindOf Tryd.prog 78 = some TK.other := by rfl
theorem fld_78_0 : fld Tryd.prog 78 0 = some (0, 76, 0) := by rfl
theorem ti_79 : ti Tryd.prog 79 = some (some Value.nilFunc, 1, 8) := by rfl
theorem tsz_79 : tsz Tryd.prog 79 = some (false, 1) := by rfl
theorem kindOf_79 : kindOf Tryd.prog 79 = some TK.other := by rfl
theorem ti_80 : ti Tryd.prog 80 = some (some (Value.int IntKind.u8 0), 1, 1) := by rfl
theorem tsz_80 : tsz Tryd.prog 80 = some (false, 1) := by rfl
theorem kindOf_80 : kindOf Tryd.prog 80 = some (TK.int IntKind.u8) := by rfl
theorem ti_81 : ti Tryd.prog 81 = some (some (Value.int IntKind.u8 0), 1, 1) := by rfl
theorem tsz_81 : tsz Tryd.prog 81 = some (false, 1) := by rfl
theorem kindOf_81 : kindOf Tryd.prog 81 = some (TK.int IntKind.u8) := by rfl
theorem ti_82 : ti Tryd.prog 82 = some (some Value.nilFunc, 1, 8) := by rfl
theorem tsz_82 : tsz Tryd.prog 82 = some (false, 1) := by rfl
theorem kindOf_82 : kindOf Tryd.prog 82 = some TK.other := by rfl
theorem ti_83 : ti Tryd.prog 83 = some (some (Value.pointer none), 1, 8) := by rfl
theorem tsz_83 : tsz Tryd.prog 83 = some (false, 1) := by rfl
theorem kindOf_83 : kindOf Tryd.prog 83 = some TK.ptr := by rfl
theorem ti_84 : ti Tryd.prog 84 = some (some (Value.int IntKind.i32 0), 1, 4) := by rfl
theorem tsz_84 : tsz Tryd.prog 84 = some (false, 1) := by rfl
theorem kindOf_84 : kindOf Tryd.prog 84 = some (TK.int IntKind.i32) := by rfl
theorem ti_85 : ti Tryd.prog 85 = some (some (Value.int IntKind.i32 0), 1, 4) := by rfl
theorem tsz_85 : tsz Tryd.prog 85 = some (false, 1) := by rfl
theorem kindOf_85 : kindOf Tryd.prog 85 = some (TK.int IntKind.i32) := by rfl
theorem ti_86 : ti Tryd.prog 86 = some (some (Value.agg #[Value.int IntKind.u64 0, Value.int IntKind.u64 0, Value.int IntKind.u32 0, Value.int IntKind.u8 0, Value.int IntKind.u8 0, Value.int IntKind.u8 0, Value.int IntKind.u8 0, Value.nilFunc, Value.pointer none, Value.int IntKind.i32 0, Value.int IntKind.i32 0]), 11, 48) := by rfl
theorem tsz_86 : tsz Tryd.prog 86 = some (true, 11) := by rfl
theorem lay_86 : lay Tryd.prog 86 = some ([AV.v (Value.int IntKind.u64 0), AV.v (Value.int IntKind.u64 0), AV.v (Value.int IntKind.u32 0), AV.v (Value.int IntKind.u8 0), AV.v (Value.int IntKind.u8 0), AV.v (Value.int IntKind.u8 0), AV.v (Value.int IntKind.u8 0), AV.v Value.nilFunc, AV.v (Value.pointer none), AV.v (Value.int IntKind.i32 0), AV.v (Value.int IntKind.i32 0)], [(0, 1), (1, 1), (2, 1), (3, 1), (4, 1), (5, 1), (6, 1), (7, 1), (8, 1), (9, 1), (10, 1)]) := by rfl
theorem kindOf_86 : kindOf Tryd.prog 86 = some TK.other := by rfl
theorem fld_86_0 : fld Tryd.prog 86 0 = some (0, 12, 1) := by rfl
theorem fld_86_1 : fld Tryd.prog 86 1 = some (1, 12, 1) := by rfl
theorem fld_86_2 : fld Tryd.prog 86 2 = some (2, 45, 1) := by rfl
theorem fld_86_3 : fld Tryd.prog 86 3 = some (3, 80, 1) := by rfl
theorem fld_86_4 : fld Tryd.prog 86 4 = some (4, 5, 1) := by rfl
theorem fld_86_5 : fld Tryd.prog 86 5 = some (5, 5, 1) := by rfl
theorem fld_86_6 : fld Tryd.prog 86 6 = some (6, 81, 1) := by rfl
theorem fld_86_7 : fld Tryd.prog 86 7 = some (7, 82, 1) := by rfl
theorem fld_86_8 : fld Tryd.prog 86 8 = some (8, 83, 1) := by rfl
theorem fld_86_9 : fld Tryd.prog 86 9 = some (9, 84, 1) := by rfl
theorem fld_86_10 : fld Tryd.prog 86 10 = some (10, 85, 1) := by rfl
theorem ti_87 : ti Tryd.prog 87 = some (some (Value.agg #[Value.int IntKind.u64 0, Value.int IntKind.u64 0, Value.int IntKind.u32 0, Value.int IntKind.u8 0, Value.int IntKind.u8 0, Value.int IntKind.u8 0, Value.int IntKind.u8 0, Value.nilFunc, Value.pointer none, Value.int IntKind.i32 0, Value.int IntKind.i32 0]), 11, 48) := by rfl
theorem tsz_87 : tsz Tryd.prog 87 = some (true, 11) := by rfl
theorem lay_87 : lay Tryd.prog 87 = some ([AV.v (Value.int IntKind.u64 0), AV.v (Value.int IntKind.u64 0), AV.v (Value.int IntKind.u32 0), AV.v (Value.int IntKind.u8 0), AV.v (Value.int IntKind.u8 0), AV.v (Value.int IntKind.u8 0), AV.v (Value.int IntKind.u8 0), AV.v Value.nilFunc, AV.v (Value.pointer none), AV.v (Value.int IntKind.i32 0), AV.v (Value.int IntKind.i32 0)], [(0, 1), (1, 1), (2, 1), (3, 1), (4, 1), (5, 1), (6, 1), (7, 1), (8, 1), (9, 1), (10, 1)]) := by rfl
theorem kindOf_87 : kindOf Tryd.prog 87 = some TK.other := by rfl
theorem fld_87_0 : fld Tryd.prog 87 0 = some (0, 12, 1) := by rfl
theorem fld_87_1 : fld Tryd.prog 87 1 = some (1, 12, 1) := by rfl
theorem fld_87_2 : fld Tryd.prog 87 2 = some (2, 45, 1) := by rfl
theorem fld_87_3 : fld Tryd.prog 87 3 = some (3, 80, 1) := by rfl
theorem fld_87_4 : fld Tryd.prog 87 4 = some (4, 5, 1) := by rfl
theorem fld_87_5 : fld Tryd.prog 87 5 = some (5, 5, 1) := by rfl
theorem fld_87_6 : fld Tryd.prog 87 6 = some (6, 81, 1) := by rfl
theorem fld_87_7 : fld Tryd.prog 87 7 = some (7, 82, 1) := by rfl
theorem fld_87_8 : fld Tryd.prog 87 8 = some (8, 83, 1) := by rfl
theorem fld_87_9 : fld Tryd.prog 87 9 = some (9, 84, 1) := by rfl
theorem fld_87_10 : fld Tryd.prog 87 10 = some (10, 85, 1) := by rfl
theorem ti_88 : ti Tryd.prog 88 = some (some (Value.pointer none), 1, 8) := by rfl
theorem tsz_88 : tsz Tryd.prog 88 = some (false, 1) := by rfl
theorem kindOf_88 : kindOf Tryd.prog 88 = some TK.other := by rfl
def glob0 : List AV := [.v (.bool false), .v (.bool false), .v (.bool true), .v (.bool true), .v (.bool false), .v (.bool false), .v (.bool true), .v (.bool false)]
def glob1 : List AV := (List.range 256).map fun c => AV.v (Value.int IntKind.u8 (Lib.firstT c))
def glob2 : List AV := (List.range 16).flatMap fun i => [AV.v (Value.int IntKind.u8 (Lib.accLo i)), AV.v (Value.int IntKind.u8 (Lib.accHi i))]
def envG : Nat → Option (List AV)
  | 0 => some glob0
  | 1 => some glob1
  | 2 => some glob2
  | _ => none
noncomputable def env : Env := ⟨Tryd.prog, envG, [], 0⟩
theorem env_P : env.P = Tryd.prog := rfl
theorem env_G : env.G = envG := rfl
def tab : Tab where
  knd := [(0, TK.other), (1, TK.other), (2, TK.int IntKind.i64), (3, TK.int IntKind.i64), (4, TK.bool), (5, TK.int IntKind.u8), (6, TK.int IntKind.u8), (7, TK.other), (8, TK.other), (9, TK.str), (10, TK.str), (11, TK.str), (12, TK.int IntKind.u64), (13, TK.other), (14, TK.other), (15, TK.ptr), (16, TK.ptr), (17, TK.ptr), (18, TK.other), (19, TK.other), (20, TK.other), (21, TK.int IntKind.i32), (22, TK.other), (23, TK.other), (24, TK.other), (25, TK.other), (26, TK.int IntKind.i64), (27, TK.other), (28, TK.other), (29, TK.other), (30, TK.other), (31, TK.other), (32, TK.other), (33, TK.sl 5), (34, TK.other), (35, TK.sl 23), (36, TK.other), (37, TK.other), (38, TK.other), (39, TK.other), (40, TK.other), (41, TK.other), (42, TK.other), (43, TK.other), (44, TK.other), (45, TK.int IntKind.u32), (46, TK.other), (47, TK.other), (48, TK.other), (49, TK.other), (50, TK.other), (51, TK.other), (52, TK.other), (53, TK.other), (54, TK.sl 21), (55, TK.other), (56, TK.other), (57, TK.other), (58, TK.sl 23), (59, TK.other), (60, TK.sl 3), (61, TK.other), (62, TK.other), (63, TK.other), (64, TK.other), (65, TK.other), (66, TK.other), (67, TK.other), (68, TK.other), (69, TK.int IntKind.u64), (70, TK.other), (71, TK.other), (72, TK.int IntKind.u64), (73, TK.other), (74, TK.other), (75, TK.other), (76, TK.other), (77, TK.other), (78, TK.other), (79, TK.other), (80, TK.int IntKind.u8), (81, TK.int IntKind.u8), (82, TK.other), (83, TK.ptr), (84, TK.int IntKind.i32), (85, TK.int IntKind.i32), (86, TK.other), (87, TK.other), (88, TK.other)]
  tz := [(0, (false, 1)), (1, (false, 1)), (2, (false, 1)), (3, (false, 1)), (4, (false, 1)), (5, (false, 1)), (6, (false, 1)), (7, (true, 4)), (8, (true, 4)), (9, (false, 1)), (10, (false, 1)), (11, (false, 1)), (12, (false, 1)), (13, (true, 2)), (14, (true, 2)), (15, (false, 1)), (16, (false, 1)), (17, (false, 1)), (18, (true, 1)), (19, (true, 1)), (20, (false, 1)), (21, (false, 1)), (22, (true, 3)), (23, (true, 3)), (24, (false, 1)), (25, (false, 1)), (26, (false, 1)), (27, (false, 1)), (28, (false, 1)), (29, (false, 1)), (30, (false, 1)), (31, (false, 1)), (32, (false, 1)), (33, (false, 1)), (34, (false, 1)), (35, (false, 1)), (36, (false, 1)), (37, (false, 1)), (38, (false, 1)), (39, (false, 1)), (40, (false, 1)), (41, (false, 1)), (42, (false, 1)), (43, (false, 1)), (44, (false, 1)), (45, (false, 1)), (46, (false, 1)), (47, (false, 1)), (48, (true, 2)), (49, (true, 2)), (50, (false, 1)), (51, (false, 1)), (52, (false, 1)), (53, (true, 8)), (54, (false, 1)), (55, (false, 1)), (56, (false, 1)), (57, (false, 1)), (58, (false, 1)), (59, (true, 8)), (60, (false, 1)), (61, (false, 1)), (62, (false, 1)), (63, (false, 1)), (64, (false, 1)), (65, (true, 256)), (66, (true, 2)), (67, (true, 2)), (68, (true, 32)), (69, (false, 1)), (70, (false, 1)), (71, (false, 1)), (72, (false, 1)), (73, (false, 1)), (74, (true, 4)), (75, (true, 4)), (76, (true, 0)), (77, (true, 0)), (78, (true, 0)), (79, (false, 1)), (80, (false, 1)), (81, (false, 1)), (82, (false, 1)), (83, (false, 1)), (84, (false, 1)), (85, (false, 1)), (86, (true, 11)), (87, (true, 11)), (88, (false, 1))]
  zc := [(1, [AV.v (Value.nilFunc)]), (2, [AV.v (Value.int IntKind.i64 0)]), (3, [AV.v (Value.int IntKind.i64 0)]), (4, [AV.v (Value.bool false)]), (5, [AV.v (Value.int IntKind.u8 0)]), (6, [AV.v (Value.int IntKind.u8 0)]), (7, ([Value.int IntKind.i64 0, Value.int IntKind.i64 0, Value.bool false, Value.int IntKind.u8 0].map AV.v)), (8, ([Value.int IntKind.i64 0, Value.int IntKind.i64 0, Value.bool false, Value.int IntKind.u8 0].map AV.v)), (9, [AV.v (Value.string (⟨#[]⟩ : ByteArray))]), (10, [AV.v (Value.string (⟨#[]⟩ : ByteArray))]), (11, [AV.v (Value.string (⟨#[]⟩ : ByteArray))]), (12, [AV.v (Value.int IntKind.u64 0)]), (13, ([Value.string (⟨#[]⟩ : ByteArray), Value.int IntKind.u64 0].map AV.v)), (14, ([Value.string (⟨#[]⟩ : ByteArray), Value.int IntKind.u64 0].map AV.v)), (15, [AV.v (Value.pointer none)]), (16, [AV.v (Value.pointer none)]), (17, [AV.v (Value.pointer none)]), (18, ([Value.pointer none].map AV.v)), (19, ([Value.pointer none].map AV.v)), (20, [AV.v (Value.nilIface)]), (21, [AV.v (Value.int IntKind.i32 0)]), (22, ([Value.int IntKind.i64 0, Value.int IntKind.i64 0, Value.string (⟨#[]⟩ : ByteArray)].map AV.v)), (23, ([Value.int IntKind.i64 0, Value.int IntKind.i64 0, Value.string (⟨#[]⟩ : ByteArray)].map AV.v)), (24, [AV.v (Value.nilFunc)]), (25, [AV.v (Value.nilFunc)]), (26, [AV.v (Value.int IntKind.i64 0)]), (27, [AV.v (Value.nilFunc)]), (28, [AV.v (Value.nilFunc)]), (29, [AV.v (Value.nilFunc)]), (30, [AV.v (Value.nilFunc)]), (31, [AV.v (Value.nilFunc)]), (32, [AV.v (Value.nilFunc)]), (33, [AV.v (Value.slice none 0 0)]), (34, [AV.v (Value.nilFunc)]), (35, [AV.v (Value.slice none 0 0)]), (36, [AV.v (Value.nilFunc)]), (38, [AV.v (Value.nilFunc)]), (39, [AV.v (Value.nilFunc)]), (40, [AV.v (Value.nilFunc)]), (41, [AV.v (Value.nilFunc)]), (42, [AV.v (Value.nilFunc)]), (43, [AV.v (Value.nilFunc)]), (44, [AV.v (Value.nilFunc)]), (45, [AV.v (Value.int IntKind.u32 0)]), (46, [AV.v (Value.nilFunc)]), (47, [AV.v (Value.nilFunc)]), (48, ([Value.bool false, Value.bool false].map AV.v)), (49, ([Value.bool false, Value.bool false].map AV.v)), (51, [AV.v (Value.nilFunc)]), (52, [AV.v (Value.nilFunc)]), (53, ([Value.int IntKind.i32 0, Value.int IntKind.i32 0, Value.int IntKind.i32 0, Value.int IntKind.i32 0, Value.int IntKind.i32 0, Value.int IntKind.i32 0, Value.int IntKind.i32 0, Value.int IntKind.i32 0].map AV.v)), (54, [AV.v (Value.slice none 0 0)]), (55, [AV.v (Value.nilFunc)]), (56, [AV.v (Value.nilFunc)]), (57, [AV.v (Value.nilFunc)]), (58, [AV.v (Value.slice none 0 0)]), (59, ([Value.bool false, Value.bool false, Value.bool false, Value.bool false, Value.bool false, Value.bool false, Value.bool false, Value.bool false].map AV.v)), (60, [AV.v (Value.slice none 0 0)]), (62, [AV.v (Value.nilFunc)]), (63, [AV.v (Value.nilFunc)]), (64, [AV.v (Value.nilFunc)]), (66, ([Value.int IntKind.u8 0, Value.int IntKind.u8 0].map AV.v)), (67, ([Value.int IntKind.u8 0, Value.int IntKind.u8 0].map AV.v)), (68, ([Value.int IntKind.u8 0, Value.int IntKind.u8 0, Value.int IntKind.u8 0, Value.int IntKind.u8 0, Value.int IntKind.u8 0, Value.int IntKind.u8 0, Value.int IntKind.u8 0, Value.int IntKind.u8 0, Value.int IntKind.u8 0, Value.int IntKind.u8 0, Value.int IntKind.u8 0, Value.int IntKind.u8 0, Value.int IntKind.u8 0, Value.int IntKind.u8 0, Value.int IntKind.u8 0, Value.int IntKind.u8 0, Value.int IntKind.u8 0, Value.int IntKind.u8 0, Value.int IntKind.u8 0, Value.int IntKind.u8 0, Value.int IntKind.u8 0, Value.int IntKind.u8 0, Value.int IntKind.u8 0, Value.int IntKind.u8 0, Value.int IntKind.u8 0, Value.int IntKind.u8 0, Value.int IntKind.u8 0, Value.int IntKind.u8 0, Value.int IntKind.u8 0, Value.int IntKind.u8 0, Value.int IntKind.u8 0, Value.int IntKind.u8 0].map AV.v)), (69, [AV.v (Value.int IntKind.u64 0)]), (71, [AV.v (Value.nilFunc)]), (72, [AV.v (Value.int IntKind.u64 0)]), (73, [AV.v (Value.nilFunc)]), (74, ([Value.pointer none, Value.pointer none, Value.pointer none, Value.string (⟨#[]⟩ : ByteArray)].map AV.v)), (75, ([Value.pointer none, Value.pointer none, Value.pointer none, Value.string (⟨#[]⟩ : ByteArray)].map AV.v)), (76, ([].map AV.v)), (77, ([].map AV.v)), (78, ([].map AV.v)), (79, [AV.v (Value.nilFunc)]), (80, [AV.v (Value.int IntKind.u8 0)]), (81, [AV.v (Value.int IntKind.u8 0)]), (82, [AV.v (Value.nilFunc)]), (83, [AV.v (Value.pointer none)]), (84, [AV.v (Value.int IntKind.i32 0)]), (85, [AV.v (Value.int IntKind.i32 0)]), (86, ([Value.int IntKind.u64 0, Value.int IntKind.u64 0, Value.int IntKind.u32 0, Value.int IntKind.u8 0, Value.int IntKind.u8 0, Value.int IntKind.u8 0, Value.int IntKind.u8 0, Value.nilFunc, Value.pointer none, Value.int IntKind.i32 0, Value.int IntKind.i32 0].map AV.v)), (87, ([Value.int IntKind.u64 0, Value.int IntKind.u64 0, Value.int IntKind.u32 0, Value.int IntKind.u8 0, Value.int IntKind.u8 0, Value.int IntKind.u8 0, Value.int IntKind.u8 0, Value.nilFunc, Value.pointer none, Value.int IntKind.i32 0, Value.int IntKind.i32 0].map AV.v)), (88, [AV.v (Value.pointer none)])]
  sl := [(33, (5, 1, 1, [AV.v (Value.int IntKind.u8 0)])), (35, (23, 3, 32, ([Value.int IntKind.i64 0, Value.int IntKind.i64 0, Value.string (⟨#[]⟩ : ByteArray)].map AV.v))), (54, (21, 1, 4, [AV.v (Value.int IntKind.i32 0)])), (58, (23, 3, 32, ([Value.int IntKind.i64 0, Value.int IntKind.i64 0, Value.string (⟨#[]⟩ : ByteArray)].map AV.v))), (60, (3, 1, 8, [AV.v (Value.int IntKind.i64 0)]))]
  ar := [(53, (8, 21, 1)), (59, (4, 49, 2)), (65, (256, 5, 1)), (68, (16, 67, 2)), (76, (0, 16, 1))]
  ly := [(7, ([AV.v (Value.int IntKind.i64 0), AV.v (Value.int IntKind.i64 0), AV.v (Value.bool false), AV.v (Value.int IntKind.u8 0)], [(0, 1), (1, 1), (2, 1), (3, 1)])), (8, ([AV.v (Value.int IntKind.i64 0), AV.v (Value.int IntKind.i64 0), AV.v (Value.bool false), AV.v (Value.int IntKind.u8 0)], [(0, 1), (1, 1), (2, 1), (3, 1)])), (13, ([AV.v (Value.string (⟨#[]⟩ : ByteArray)), AV.v (Value.int IntKind.u64 0)], [(0, 1), (1, 1)])), (14, ([AV.v (Value.string (⟨#[]⟩ : ByteArray)), AV.v (Value.int IntKind.u64 0)], [(0, 1), (1, 1)])), (18, ([AV.v (Value.pointer none)], [(0, 1)])), (19, ([AV.v (Value.pointer none)], [(0, 1)])), (22, ([AV.v (Value.int IntKind.i64 0), AV.v (Value.int IntKind.i64 0), AV.v (Value.string (⟨#[]⟩ : ByteArray))], [(0, 1), (1, 1), (2, 1)])), (23, ([AV.v (Value.int IntKind.i64 0), AV.v (Value.int IntKind.i64 0), AV.v (Value.string (⟨#[]⟩ : ByteArray))], [(0, 1), (1, 1), (2, 1)])), (48, ([AV.v (Value.bool false), AV.v (Value.bool false)], [(0, 1), (1, 1)])), (49, ([AV.v (Value.bool false), AV.v (Value.bool false)], [(0, 1), (1, 1)])), (53, ([AV.v (Value.int IntKind.i32 0), AV.v (Value.int IntKind.i32 0), AV.v (Value.int IntKind.i32 0), AV.v (Value.int IntKind.i32 0), AV.v (Value.int IntKind.i32 0), AV.v (Value.int IntKind.i32 0), AV.v (Value.int IntKind.i32 0), AV.v (Value.int IntKind.i32 0)], [(0, 1), (1, 1), (2, 1), (3, 1), (4, 1), (5, 1), (6, 1), (7, 1)])), (59, ([AV.v (Value.bool false), AV.v (Value.bool false), AV.v (Value.bool false), AV.v (Value.bool false), AV.v (Value.bool false), AV.v (Value.bool false), AV.v (Value.bool false), AV.v (Value.bool false)], [(0, 2), (2, 2), (4, 2), (6, 2)])), (66, ([AV.v (Value.int IntKind.u8 0), AV.v (Value.int IntKind.u8 0)], [(0, 1), (1, 1)])), (67, ([AV.v (Value.int IntKind.u8 0), AV.v (Value.int IntKind.u8 0)], [(0, 1), (1, 1)])), (68, ([AV.v (Value.int IntKind.u8 0), AV.v (Value.int IntKind.u8 0), AV.v (Value.int IntKind.u8 0), AV.v (Value.int IntKind.u8 0), AV.v (Value.int IntKind.u8 0), AV.v (Value.int IntKind.u8 0), AV.v (Value.int IntKind.u8 0), AV.v (Value.int IntKind.u8 0), AV.v (Value.int IntKind.u8 0), AV.v (Value.int IntKind.u8 0), AV.v (Value.int IntKind.u8 0), AV.v (Value.int IntKind.u8 0), AV.v (Value.int IntKind.u8 0), AV.v (Value.int IntKind.u8 0), AV.v (Value.int IntKind.u8 0), AV.v (Value.int IntKind.u8 0), AV.v (Value.int IntKind.u8 0), AV.v (Value.int IntKind.u8 0), AV.v (Value.int IntKind.u8 0), AV.v (Value.int IntKind.u8 0), AV.v (Value.int IntKind.u8 0), AV.v (Value.int IntKind.u8 0), AV.v (Value.int IntKind.u8 0), AV.v (Value.int IntKind.u8 0), AV.v (Value.int IntKind.u8 0), AV.v (Value.int IntKind.u8 0), AV.v (Value.int IntKind.u8 0), AV.v (Value.int IntKind.u8 0), AV.v (Value.int IntKind.u8 0), AV.v (Value.int IntKind.u8 0), AV.v (Value.int IntKind.u8 0), AV.v (Value.int IntKind.u8 0)], [(0, 2), (2, 2), (4, 2), (6, 2), (8, 2), (10, 2), (12, 2), (14, 2), (16, 2), (18, 2), (20, 2), (22, 2), (24, 2), (26, 2), (28, 2), (30, 2)])), (74, ([AV.v (Value.pointer none), AV.v (Value.pointer none), AV.v (Value.pointer none), AV.v (Value.string (⟨#[]⟩ : ByteArray))], [(0, 1), (1, 1), (2, 1), (3, 1)])), (75, ([AV.v (Value.pointer none), AV.v (Value.pointer none), AV.v (Value.pointer none), AV.v (Value.string (⟨#[]⟩ : ByteArray))], [(0, 1), (1, 1), (2, 1), (3, 1)])), (76, ([], [])), (77, ([], [(0, 0)])), (78, ([], [(0, 0)])), (86, ([AV.v (Value.int IntKind.u64 0), AV.v (Value.int IntKind.u64 0), AV.v (Value.int IntKind.u32 0), AV.v (Value.int IntKind.u8 0), AV.v (Value.int IntKind.u8 0), AV.v (Value.int IntKind.u8 0), AV.v (Value.int IntKind.u8 0), AV.v Value.nilFunc, AV.v (Value.pointer none), AV.v (Value.int IntKind.i32 0), AV.v (Value.int IntKind.i32 0)], [(0, 1), (1, 1), (2, 1), (3, 1), (4, 1), (5, 1), (6, 1), (7, 1), (8, 1), (9, 1), (10, 1)])), (87, ([AV.v (Value.int IntKind.u64 0), AV.v (Value.int IntKind.u64 0), AV.v (Value.int IntKind.u32 0), AV.v (Value.int IntKind.u8 0), AV.v (Value.int IntKind.u8 0), AV.v (Value.int IntKind.u8 0), AV.v (Value.int IntKind.u8 0), AV.v Value.nilFunc, AV.v (Value.pointer none), AV.v (Value.int IntKind.i32 0), AV.v (Value.int IntKind.i32 0)], [(0, 1), (1, 1), (2, 1), (3, 1), (4, 1), (5, 1), (6, 1), (7, 1), (8, 1), (9, 1), (10, 1)]))]
  fd := [(7, [(0, 2, 1), (1, 3, 1), (2, 4, 1), (3, 6, 1)]), (8, [(0, 2, 1), (1, 3, 1), (2, 4, 1), (3, 6, 1)]), (13, [(0, 9, 1), (1, 12, 1)]), (14, [(0, 9, 1), (1, 12, 1)]), (18, [(0, 17, 1)]), (19, [(0, 17, 1)]), (22, [(0, 3, 1), (1, 3, 1), (2, 9, 1)]), (23, [(0, 3, 1), (1, 3, 1), (2, 9, 1)]), (48, [(0, 4, 1), (1, 4, 1)]), (49, [(0, 4, 1), (1, 4, 1)]), (66, [(0, 5, 1), (1, 5, 1)]), (67, [(0, 5, 1), (1, 5, 1)]), (74, [(0, 17, 1), (1, 17, 1), (2, 17, 1), (3, 9, 1)]), (75, [(0, 17, 1), (1, 17, 1), (2, 17, 1), (3, 9, 1)]), (77, [(0, 76, 0)]), (78, [(0, 76, 0)]), (86, [(0, 12, 1), (1, 12, 1), (2, 45, 1), (3, 80, 1), (4, 5, 1), (5, 5, 1), (6, 81, 1), (7, 82, 1), (8, 83, 1), (9, 84, 1), (10, 85, 1)]), (87, [(0, 12, 1), (1, 12, 1), (2, 45, 1), (3, 80, 1), (4, 5, 1), (5, 5, 1), (6, 81, 1), (7, 82, 1), (8, 83, 1), (9, 84, 1), (10, 85, 1)])]
  eq := []
theorem tabOK : TabOK env.P tab where
  knd := get_all (p := fun t x => kindOf Tryd.prog t = some x) (List.forall_mem_cons.2 ⟨kindOf_0, (List.forall_mem_cons.2 ⟨kindOf_1, (List.forall_mem_cons.2 ⟨kindOf_2, (List.forall_mem_cons.2 ⟨kindOf_3, (List.forall_mem_cons.2 ⟨kindOf_4, (List.forall_mem_cons.2 ⟨kindOf_5, (List.forall_mem_cons.2 ⟨kindOf_6, (List.forall_mem_cons.2 ⟨kindOf_7, (List.forall_mem_cons.2 ⟨kindOf_8, (List.forall_mem_cons.2 ⟨kindOf_9, (List.forall_mem_cons.2 ⟨kindOf_10, (List.forall_mem_cons.2 ⟨kindOf_11, (List.forall_mem_cons.2 ⟨kindOf_12, (List.forall_mem_cons.2 ⟨kindOf_13, (List.forall_mem_cons.2 ⟨kindOf_14, (List.forall_mem_cons.2 ⟨kindOf_15, (List.forall_mem_cons.2 ⟨kindOf_16, (List.forall_mem_cons.2 ⟨kindOf_17, (List.forall_mem_cons.2 ⟨kindOf_18, (List.forall_mem_cons.2 ⟨kindOf_19, (List.forall_mem_cons.2 ⟨kindOf_20, (List.forall_mem_cons.2 ⟨kindOf_21, (List.forall_mem_cons.2 ⟨kindOf_22, (List.forall_mem_cons.2 ⟨kindOf_23, (List.forall_mem_cons.2 ⟨kindOf_24, (List.forall_mem_cons.2 ⟨kindOf_25, (List.forall_mem_cons.2 ⟨kindOf_26, (List.forall_mem_cons.2 ⟨kindOf_27, (List.forall_mem_cons.2 ⟨kindOf_28, (List.forall_mem_cons.2 ⟨kindOf_29, (List.forall_mem_cons.2 ⟨kindOf_30, (List.forall_mem_cons.2 ⟨kindOf_31, (List.forall_mem_cons.2 ⟨kindOf_32, (List.forall_mem_cons.2 ⟨kindOf_33, (List.forall_mem_cons.2 ⟨kindOf_34, (List.forall_mem_cons.2 ⟨kindOf_35, (List.forall_mem_cons.2 ⟨kindOf_36, (List.forall_mem_cons.2 ⟨kindOf_37, (List.forall_mem_cons.2 ⟨kindOf_38, (List.forall_mem_cons.2 ⟨kindOf_39, (List.forall_mem_cons.2 ⟨kindOf_40, (List.forall_mem_cons.2 ⟨kindOf_41, (List.forall_mem_cons.2 ⟨kindOf_42, (List.forall_mem_cons.2 ⟨kindOf_43, (List.forall_mem_cons.2 ⟨kindOf_44, (List.forall_mem_cons.2 ⟨kindOf_45, (List.forall_mem_cons.2 ⟨kindOf_46, (List.forall_mem_cons.2 ⟨kindOf_47, (List.forall_mem_cons.2 ⟨kindOf_48, (List.forall_mem_cons.2 ⟨kindOf_49, (List.forall_mem_cons.2 ⟨kindOf_50, (List.forall_mem_cons.2 ⟨kindOf_51, (List.forall_mem_cons.2 ⟨kindOf_52, (List.forall_mem_cons.2 ⟨kindOf_53, (List.forall_mem_cons.2 ⟨kindOf_54, (List.forall_mem_cons.2 ⟨kindOf_55, (List.forall_mem_cons.2 ⟨kindOf_56, (List.forall_mem_cons.2 ⟨kindOf_57, (List.forall_mem_cons.2 ⟨kindOf_58, (List.forall_mem_cons.2 ⟨kindOf_59, (List.forall_mem_cons.2 ⟨kindOf_60, (List.forall_mem_cons.2 ⟨kindOf_61, (List.forall_mem_cons.2 ⟨kindOf_62, (List.forall_mem_cons.2 ⟨kindOf_63, (List.forall_mem_cons.2 ⟨kindOf_64, (List.forall_mem_cons.2 ⟨kindOf_65, (List.forall_mem_cons.2 ⟨kindOf_66, (List.forall_mem_cons.2 ⟨kindOf_67, (List.forall_mem_cons.2 ⟨kindOf_68, (List.forall_mem_cons.2 ⟨kindOf_69, (List.forall_mem_cons.2 ⟨kindOf_70, (List.forall_mem_cons.2 ⟨kindOf_71, (List.forall_mem_cons.2 ⟨kindOf_72, (List.forall_mem_cons.2 ⟨kindOf_73, (List.forall_mem_cons.2 ⟨kindOf_74, (List.forall_mem_cons.2 ⟨kindOf_75, (List.forall_mem_cons.2 ⟨kindOf_76, (List.forall_mem_cons.2 ⟨kindOf_77, (List.forall_mem_cons.2 ⟨kindOf_78, (List.forall_mem_cons.2 ⟨kindOf_79, (List.forall_mem_cons.2 ⟨kindOf_80, (List.forall_mem_cons.2 ⟨kindOf_81, (List.forall_mem_cons.2 ⟨kindOf_82, (List.forall_mem_cons.2 ⟨kindOf_83, (List.forall_mem_cons.2 ⟨kindOf_84, (List.forall_mem_cons.2 ⟨kindOf_85, (List.forall_mem_cons.2 ⟨kindOf_86, (List.forall_mem_cons.2 ⟨kindOf_87, (List.forall_mem_cons.2 ⟨kindOf_88, (fun _ h => nomatch h)⟩)⟩)⟩)⟩)⟩)⟩)⟩)⟩)⟩)⟩)⟩)⟩)⟩)⟩)⟩)⟩)⟩)⟩)⟩)⟩)⟩)⟩)⟩)⟩)⟩)⟩)⟩)⟩)⟩)⟩)⟩)⟩)⟩)⟩)⟩)⟩)⟩)⟩)⟩)⟩)⟩)⟩)⟩)⟩)⟩)⟩)⟩)⟩)⟩)⟩)⟩)⟩)⟩)⟩)⟩)⟩)⟩)⟩)⟩)⟩)⟩)⟩)⟩)⟩)⟩)⟩)⟩)⟩)⟩)⟩)⟩)⟩)⟩)⟩)⟩)⟩)⟩)⟩)⟩)⟩)⟩)⟩)⟩)⟩)⟩)⟩)⟩)⟩)⟩)
  tz := get_all (p := fun t x => tsz Tryd.prog t = some x) (List.forall_mem_cons.2 ⟨tsz_0, (List.forall_mem_cons.2 ⟨tsz_1, (List.forall_mem_cons.2 ⟨tsz_2, (List.forall_mem_cons.2 ⟨tsz_3, (List.forall_mem_cons.2 ⟨tsz_4, (List.forall_mem_cons.2 ⟨tsz_5, (List.forall_mem_cons.2 ⟨tsz_6, (List.forall_mem_cons.2 ⟨tsz_7, (List.forall_mem_cons.2 ⟨tsz_8, (List.forall_mem_cons.2 ⟨tsz_9, (List.forall_mem_cons.2 ⟨tsz_10, (List.forall_mem_cons.2 ⟨tsz_11, (List.forall_mem_cons.2 ⟨tsz_12, (List.forall_mem_cons.2 ⟨tsz_13, (List.forall_mem_cons.2 ⟨tsz_14, (List.forall_mem_cons.2 ⟨tsz_15, (List.forall_mem_cons.2 ⟨tsz_16, (List.forall_mem_cons.2 ⟨tsz_17, (List.forall_mem_cons.2 ⟨tsz_18, (List.forall_mem_cons.2 ⟨tsz_19, (List.forall_mem_cons.2 ⟨tsz_20, (List.forall_mem_cons.2 ⟨tsz_21, (List.forall_mem_cons.2 ⟨tsz_22, (List.forall_mem_cons.2 ⟨tsz_23, (List.forall_mem_cons.2 ⟨tsz_24, (List.forall_mem_cons.2 ⟨tsz_25, (List.forall_mem_cons.2 ⟨tsz_26, (List.forall_mem_cons.2 ⟨tsz_27, (List.forall_mem_cons.2 ⟨tsz_28, (List.forall_mem_cons.2 ⟨tsz_29, (List.forall_mem_cons.2 ⟨tsz_30, (List.forall_mem_cons.2 ⟨tsz_31, (List.forall_mem_cons.2 ⟨tsz_32, (List.forall_mem_cons.2 ⟨tsz_33, (List.forall_mem_cons.2 ⟨tsz_34, (List.forall_mem_cons.2 ⟨tsz_35, (List.forall_mem_cons.2 ⟨tsz_36, (List.forall_mem_cons.2 ⟨tsz_37, (List.forall_mem_cons.2 ⟨tsz_38, (List.forall_mem_cons.2 ⟨tsz_39, (List.forall_mem_cons.2 ⟨tsz_40, (List.forall_mem_cons.2 ⟨tsz_41, (List.forall_mem_cons.2 ⟨tsz_42, (List.forall_mem_cons.2 ⟨tsz_43, (List.forall_mem_cons.2 ⟨tsz_44, (List.forall_mem_cons.2 ⟨tsz_45, (List.forall_mem_cons.2 ⟨tsz_46, (List.forall_mem_cons.2 ⟨tsz_47, (List.forall_mem_cons.2 ⟨tsz_48, (List.forall_mem_cons.2 ⟨tsz_49, (List.forall_mem_cons.2 ⟨tsz_50, (List.forall_mem_cons.2 ⟨tsz_51, (List.forall_mem_cons.2 ⟨tsz_52, (List.forall_mem_cons.2 ⟨tsz_53, (List.forall_mem_cons.2 ⟨tsz_54, (List.forall_mem_cons.2 ⟨tsz_55, (List.forall_mem_cons.2 ⟨tsz_56, (List.forall_mem_cons.2 ⟨tsz_57, (List.forall_mem_cons.2 ⟨tsz_58, (List.forall_mem_cons.2 ⟨tsz_59, (List.forall_mem_cons.2 ⟨tsz_60, (List.forall_mem_cons.2 ⟨tsz_61, (List.forall_mem_cons.2 ⟨tsz_62, (List.forall_mem_cons.2 ⟨tsz_63, (List.forall_mem_cons.2 ⟨tsz_64, (List.forall_mem_cons.2 ⟨tsz_65, (List.forall_mem_cons.2 ⟨tsz_66, (List.forall_mem_cons.2 ⟨tsz_67, (List.forall_mem_cons.2 ⟨tsz_68, (List.forall_mem_cons.2 ⟨tsz_69, (List.forall_mem_cons.2 ⟨tsz_70, (List.forall_mem_cons.2 ⟨tsz_71, (List.forall_mem_cons.2 ⟨tsz_72, (List.forall_mem_cons.2 ⟨tsz_73, (List.forall_mem_cons.2 ⟨tsz_74, (List.forall_mem_cons.2 ⟨tsz_75, (List.forall_mem_cons.2 ⟨tsz_76, (List.forall_mem_cons.2 ⟨tsz_77, (List.forall_mem_cons.2 ⟨tsz_78, (List.forall_mem_cons.2 ⟨tsz_79, (List.forall_mem_cons.2 ⟨tsz_80, (List.forall_mem_cons.2 ⟨tsz_81, (List.forall_mem_cons.2 ⟨tsz_82, (List.forall_mem_cons.2 ⟨tsz_83, (List.forall_mem_cons.2 ⟨tsz_84, (List.forall_mem_cons.2 ⟨tsz_85, (List.forall_mem_cons.2 ⟨tsz_86, (List.forall_mem_cons.2 ⟨tsz_87, (List.forall_mem_cons.2 ⟨tsz_88, (fun _ h => nomatch h)⟩)⟩)⟩)⟩)⟩)⟩)⟩)⟩)⟩)⟩)⟩)⟩)⟩)⟩)⟩)⟩)⟩)⟩)⟩)⟩)⟩)⟩)⟩)⟩)⟩)⟩)⟩)⟩)⟩)⟩)⟩)⟩)⟩)⟩)⟩)⟩)⟩)⟩)⟩)⟩)⟩)⟩)⟩)⟩)⟩)⟩)⟩)⟩)⟩)⟩)⟩)⟩)⟩)⟩)⟩)⟩)⟩)⟩)⟩)⟩)⟩)⟩)⟩)⟩)⟩)⟩)⟩)⟩)⟩)⟩)⟩)⟩)⟩)⟩)⟩)⟩)⟩)⟩)⟩)⟩)⟩)⟩)⟩)⟩)⟩)⟩)⟩)⟩)⟩)
  zc := get_all (p := fun t cs => ∃ z n b, ti Tryd.prog t = some (some z, n, b) ∧ cellsOf (ofV z) = some cs) (List.forall_mem_cons.2 ⟨⟨_, _, _, ti_1, rfl⟩, (List.forall_mem_cons.2 ⟨⟨_, _, _, ti_2, rfl⟩, (List.forall_mem_cons.2 ⟨⟨_, _, _, ti_3, rfl⟩, (List.forall_mem_cons.2 ⟨⟨_, _, _, ti_4, rfl⟩, (List.forall_mem_cons.2 ⟨⟨_, _, _, ti_5, rfl⟩, (List.forall_mem_cons.2 ⟨⟨_, _, _, ti_6, rfl⟩, (List.forall_mem_cons.2 ⟨⟨_, _, _, ti_7, rfl⟩, (List.forall_mem_cons.2 ⟨⟨_, _, _, ti_8, rfl⟩, (List.forall_mem_cons.2 ⟨⟨_, _, _, ti_9, rfl⟩, (List.forall_mem_cons.2 ⟨⟨_, _, _, ti_10, rfl⟩, (List.forall_mem_cons.2 ⟨⟨_, _, _, ti_11, rfl⟩, (List.forall_mem_cons.2 ⟨⟨_, _, _, ti_12, rfl⟩, (List.forall_mem_cons.2 ⟨⟨_, _, _, ti_13, rfl⟩, (List.forall_mem_cons.2 ⟨⟨_, _, _, ti_14, rfl⟩, (List.forall_mem_cons.2 ⟨⟨_, _, _, ti_15, rfl⟩, (List.forall_mem_cons.2 ⟨⟨_, _, _, ti_16, rfl⟩, (List.forall_mem_cons.2 ⟨⟨_, _, _, ti_17, rfl⟩, (List.forall_mem_cons.2 ⟨⟨_, _, _, ti_18, rfl⟩, (List.forall_mem_cons.2 ⟨⟨_, _, _, ti_19, rfl⟩, (List.forall_mem_cons.2 ⟨⟨_, _, _, ti_20, rfl⟩, (List.forall_mem_cons.2 ⟨⟨_, _, _, ti_21, rfl⟩, (List.forall_mem_cons.2 ⟨⟨_, _, _, ti_22, rfl⟩, (List.forall_mem_cons.2 ⟨⟨_, _, _, ti_23, rfl⟩, (List.forall_mem_cons.2 ⟨⟨_, _, _, ti_24, rfl⟩, (List.forall_mem_cons.2 ⟨⟨_, _, _, ti_25, rfl⟩, (List.forall_mem_cons.2 ⟨⟨_, _, _, ti_26, rfl⟩, (List.forall_mem_cons.2 ⟨⟨_, _, _, ti_27, rfl⟩, (List.forall_mem_cons.2 ⟨⟨_, _, _, ti_28, rfl⟩, (List.forall_mem_cons.2 ⟨⟨_, _, _, ti_29, rfl⟩, (List.forall_mem_cons.2 ⟨⟨_, _, _, ti_30, rfl⟩, (List.forall_mem_cons.2 ⟨⟨_, _, _, ti_31, rfl⟩, (List.forall_mem_cons.2 ⟨⟨_, _, _, ti_32, rfl⟩, (List.forall_mem_cons.2 ⟨⟨_, _, _, ti_33, rfl⟩, (List.forall_mem_cons.2 ⟨⟨_, _, _, ti_34, rfl⟩, (List.forall_mem_cons.2 ⟨⟨_, _, _, ti_35, rfl⟩, (List.forall_mem_cons.2 ⟨⟨_, _, _, ti_36, rfl⟩, (List.forall_mem_cons.2 ⟨⟨_, _, _, ti_38, rfl⟩, (List.forall_mem_cons.2 ⟨⟨_, _, _, ti_39, rfl⟩, (List.forall_mem_cons.2 ⟨⟨_, _, _, ti_40, rfl⟩, (List.forall_mem_cons.2 ⟨⟨_, _, _, ti_41, rfl⟩, (List.forall_mem_cons.2 ⟨⟨_, _, _, ti_42, rfl⟩, (List.forall_mem_cons.2 ⟨⟨_, _, _, ti_43, rfl⟩, (List.forall_mem_cons.2 ⟨⟨_, _, _, ti_44, rfl⟩, (List.forall_mem_cons.2 ⟨⟨_, _, _, ti_45, rfl⟩, (List.forall_mem_cons.2 ⟨⟨_, _, _, ti_46, rfl⟩, (List.forall_mem_cons.2 ⟨⟨_, _, _, ti_47, rfl⟩, (List.forall_mem_cons.2 ⟨⟨_, _, _, ti_48, rfl⟩, (List.forall_mem_cons.2 ⟨⟨_, _, _, ti_49, rfl⟩, (List.forall_mem_cons.2 ⟨⟨_, _, _, ti_51, rfl⟩, (List.forall_mem_cons.2 ⟨⟨_, _, _, ti_52, rfl⟩, (List.forall_mem_cons.2 ⟨⟨_, _, _, ti_53, rfl⟩, (List.forall_mem_cons.2 ⟨⟨_, _, _, ti_54, rfl⟩, (List.forall_mem_cons.2 ⟨⟨_, _, _, ti_55, rfl⟩, (List.forall_mem_cons.2 ⟨⟨_, _, _, ti_56, rfl⟩, (List.forall_mem_cons.2 ⟨⟨_, _, _, ti_57, rfl⟩, (List.forall_mem_cons.2 ⟨⟨_, _, _, ti_58, rfl⟩, (List.forall_mem_cons.2 ⟨⟨_, _, _, ti_59, rfl⟩, (List.forall_mem_cons.2 ⟨⟨_, _, _, ti_60, rfl⟩, (List.forall_mem_cons.2 ⟨⟨_, _, _, ti_62, rfl⟩, (List.forall_mem_cons.2 ⟨⟨_, _, _, ti_63, rfl⟩, (List.forall_mem_cons.2 ⟨⟨_, _, _, ti_64, rfl⟩, (List.forall_mem_cons.2 ⟨⟨_, _, _, ti_66, rfl⟩, (List.forall_mem_cons.2 ⟨⟨_, _, _, ti_67, rfl⟩, (List.forall_mem_cons.2 ⟨⟨_, _, _, ti_68, rfl⟩, (List.forall_mem_cons.2 ⟨⟨_, _, _, ti_69, rfl⟩, (List.forall_mem_cons.2 ⟨⟨_, _, _, ti_71, rfl⟩, (List.forall_mem_cons.2 ⟨⟨_, _, _, ti_72, rfl⟩, (List.forall_mem_cons.2 ⟨⟨_, _, _, ti_73, rfl⟩, (List.forall_mem_cons.2 ⟨⟨_, _, _, ti_74, rfl⟩, (List.forall_mem_cons.2 ⟨⟨_, _, _, ti_75, rfl⟩, (List.forall_mem_cons.2 ⟨⟨_, _, _, ti_76, rfl⟩, (List.forall_mem_cons.2 ⟨⟨_, _, _, ti_77, rfl⟩, (List.forall_mem_cons.2 ⟨⟨_, _, _, ti_78, rfl⟩, (List.forall_mem_cons.2 ⟨⟨_, _, _, ti_79, rfl⟩, (List.forall_mem_cons.2 ⟨⟨_, _, _, ti_80, rfl⟩, (List.forall_mem_cons.2 ⟨⟨_, _, _, ti_81, rfl⟩, (List.forall_mem_cons.2 ⟨⟨_, _, _, ti_82, rfl⟩, (List.forall_mem_cons.2 ⟨⟨_, _, _, ti_83, rfl⟩, (List.forall_mem_cons.2 ⟨⟨_, _, _, ti_84, rfl⟩, (List.forall_mem_cons.2 ⟨⟨_, _, _, ti_85, rfl⟩, (List.forall_mem_cons.2 ⟨⟨_, _, _, ti_86, rfl⟩, (List.forall_mem_cons.2 ⟨⟨_, _, _, ti_87, rfl⟩, (List.forall_mem_cons.2 ⟨⟨_, _, _, ti_88, rfl⟩, (fun _ h => nomatch h)⟩)⟩)⟩)⟩)⟩)⟩)⟩)⟩)⟩)⟩)⟩)⟩)⟩)⟩)⟩)⟩)⟩)⟩)⟩)⟩)⟩)⟩)⟩)⟩)⟩)⟩)⟩)⟩)⟩)⟩)⟩)⟩)⟩)⟩)⟩)⟩)⟩)⟩)⟩)⟩)⟩)⟩)⟩)⟩)⟩)⟩)⟩)⟩)⟩)⟩)⟩)⟩)⟩)⟩)⟩)⟩)⟩)⟩)⟩)⟩)⟩)⟩)⟩)⟩)⟩)⟩)⟩)⟩)⟩)⟩)⟩)⟩)⟩)⟩)⟩)⟩)⟩)⟩)⟩)⟩)⟩)⟩)⟩)
  sl := fun t e n b cs => get_all (l := tab.sl) (p := fun t (x : TypeId × Nat × Nat × List AV) => ∃ z, sle Tryd.prog t = some (x.1, some z, x.2.1, x.2.2.1) ∧ cellsOf (ofV z) = some x.2.2.2 ∧ z.cells.size = x.2.1 ∧ 0 < x.2.1 ∧ x.2.2.2.length = x.2.1) (List.forall_mem_cons.2 ⟨⟨_, sle_33, rfl, rfl, Nat.succ_pos _, rfl⟩, (List.forall_mem_cons.2 ⟨⟨_, sle_35, rfl, rfl, Nat.succ_pos _, rfl⟩, (List.forall_mem_cons.2 ⟨⟨_, sle_54, rfl, rfl, Nat.succ_pos _, rfl⟩, (List.forall_mem_cons.2 ⟨⟨_, sle_58, rfl, rfl, Nat.succ_pos _, rfl⟩, (List.forall_mem_cons.2 ⟨⟨_, sle_60, rfl, rfl, Nat.succ_pos _, rfl⟩, (fun _ h => nomatch h)⟩)⟩)⟩)⟩)⟩) t (e, n, b, cs)
  ar := get_all (p := fun t x => arr Tryd.prog t = some x) (List.forall_mem_cons.2 ⟨arr_53, (List.forall_mem_cons.2 ⟨arr_59, (List.forall_mem_cons.2 ⟨arr_65, (List.forall_mem_cons.2 ⟨arr_68, (List.forall_mem_cons.2 ⟨arr_76, (fun _ h => nomatch h)⟩)⟩)⟩)⟩)⟩)
  ly := get_all (p := fun t x => lay Tryd.prog t = some x) (List.forall_mem_cons.2 ⟨lay_7, (List.forall_mem_cons.2 ⟨lay_8, (List.forall_mem_cons.2 ⟨lay_13, (List.forall_mem_cons.2 ⟨lay_14, (List.forall_mem_cons.2 ⟨lay_18, (List.forall_mem_cons.2 ⟨lay_19, (List.forall_mem_cons.2 ⟨lay_22, (List.forall_mem_cons.2 ⟨lay_23, (List.forall_mem_cons.2 ⟨lay_48, (List.forall_mem_cons.2 ⟨lay_49, (List.forall_mem_cons.2 ⟨lay_53, (List.forall_mem_cons.2 ⟨lay_59, (List.forall_mem_cons.2 ⟨lay_66, (List.forall_mem_cons.2 ⟨lay_67, (List.forall_mem_cons.2 ⟨lay_68, (List.forall_mem_cons.2 ⟨lay_74, (List.forall_mem_cons.2 ⟨lay_75, (List.forall_mem_cons.2 ⟨lay_76, (List.forall_mem_cons.2 ⟨lay_77, (List.forall_mem_cons.2 ⟨lay_78, (List.forall_mem_cons.2 ⟨lay_86, (List.forall_mem_cons.2 ⟨lay_87, (fun _ h => nomatch h)⟩)⟩)⟩)⟩)⟩)⟩)⟩)⟩)⟩)⟩)⟩)⟩)⟩)⟩)⟩)⟩)⟩)⟩)⟩)⟩)⟩)⟩)
  fd := fun t l h f x hx => by
    have := get_all (l := tab.fd) (p := fun t l => Ev.fdAll Tryd.prog t 0 l) (List.forall_mem_cons.2 ⟨⟨fld_7_0, fld_7_1, fld_7_2, fld_7_3, trivial⟩, (List.forall_mem_cons.2 ⟨⟨fld_8_0, fld_8_1, fld_8_2, fld_8_3, trivial⟩, (List.forall_mem_cons.2 ⟨⟨fld_13_0, fld_13_1, trivial⟩, (List.forall_mem_cons.2 ⟨⟨fld_14_0, fld_14_1, trivial⟩, (List.forall_mem_cons.2 ⟨⟨fld_18_0, trivial⟩, (List.forall_mem_cons.2 ⟨⟨fld_19_0, trivial⟩, (List.forall_mem_cons.2 ⟨⟨fld_22_0, fld_22_1, fld_22_2, trivial⟩, (List.forall_mem_cons.2 ⟨⟨fld_23_0, fld_23_1, fld_23_2, trivial⟩, (List.forall_mem_cons.2 ⟨⟨fld_48_0, fld_48_1, trivial⟩, (List.forall_mem_cons.2 ⟨⟨fld_49_0, fld_49_1, trivial⟩, (List.forall_mem_cons.2 ⟨⟨fld_66_0, fld_66_1, trivial⟩, (List.forall_mem_cons.2 ⟨⟨fld_67_0, fld_67_1, trivial⟩, (List.forall_mem_cons.2 ⟨⟨fld_74_0, fld_74_1, fld_74_2, fld_74_3, trivial⟩, (List.forall_mem_cons.2 ⟨⟨fld_75_0, fld_75_1, fld_75_2, fld_75_3, trivial⟩, (List.forall_mem_cons.2 ⟨⟨fld_77_0, trivial⟩, (List.forall_mem_cons.2 ⟨⟨fld_78_0, trivial⟩, (List.forall_mem_cons.2 ⟨⟨fld_86_0, fld_86_1, fld_86_2, fld_86_3, fld_86_4, fld_86_5, fld_86_6, fld_86_7, fld_86_8, fld_86_9, fld_86_10, trivial⟩, (List.forall_mem_cons.2 ⟨⟨fld_87_0, fld_87_1, fld_87_2, fld_87_3, fld_87_4, fld_87_5, fld_87_6, fld_87_7, fld_87_8, fld_87_9, fld_87_10, trivial⟩, (fun _ h => nomatch h)⟩)⟩)⟩)⟩)⟩)⟩)⟩)⟩)⟩)⟩)⟩)⟩)⟩)⟩)⟩)⟩)⟩)⟩) t l h
    have := Ev.fdAll_get this f x hx
    rwa [Nat.zero_add] at this
  eq := fun t h => by simp [tab] at h
theorem mixed' (keep : List Nat) (N : Nat) : (Env.P ⟨env.P, env.G, keep, N⟩).follows .mixedOrders = true := by rfl
theorem tabOK' (keep : List Nat) (N : Nat) : TabOK (Env.P ⟨env.P, env.G, keep, N⟩) tab := tabOK
end Go.Proofs.YtdgpilapblipbaaDoor.Abs
