/- ChainCut, whatever the input, is true: the row and its tied card. No condition. -/
import Derived.Test.YthdjbgbfboppcaaDoorZC5
namespace Go.Proofs.YthdjbgbfboppcaaDoor.Abs
open Go
set_option maxRecDepth 100000
set_option linter.unusedSimpArgs false
set_option linter.unusedVariables false
attribute [local irreducible] Ev.Unr Ev.Go' Ev.bytK Ev.runK Ev.FinL Ev.brC Ev.Side Ev.Wp Ev.Again Ev.To Ev.Fin
open Go.Lib Go.RowKit
def cc6 : CC := (.seq (.reg 0 [⟨0, some 6, (.assign (.const (Value.bool false))), none⟩]) (.seq (.reg 1 [⟨0, some 20, (.call { callee := .value (.func 26), args := #[], argTypes := #[] }), none⟩, ⟨1, some 7, (.assign (.tmp 20)), none⟩]) (.seq (.reg 2 [⟨0, some 21, (.move (.tmp 0)), none⟩, ⟨1, some 22, (.move (.tmp 1)), none⟩, ⟨2, some 23, (.call { callee := .value (.func 27), args := #[.tmp 21, .tmp 22], argTypes := #[9, 38] }), none⟩, ⟨3, some 8, (.alloc 42), none⟩, ⟨4, none, (.store 42 (.tmp 8) (.tmp 23)), none⟩]) (.seq (.reg 3 [⟨0, some 24, (.move (.tmp 2)), none⟩, ⟨1, some 25, (.convert 5 3 (.tmp 24)), none⟩, ⟨2, some 26, (.fieldAddr 42 (.tmp 8) 2), none⟩, ⟨3, some 27, (.load 38 (.tmp 26)), none⟩, ⟨4, some 28, (.call { callee := .builtin .len, args := #[.tmp 27], argTypes := #[38] }), none⟩, ⟨5, some 29, (.binOp .add 3 (.tmp 28) (.const (Value.int .i64 1)) 3), none⟩, ⟨6, some 30, (.binOp .rem 3 (.tmp 25) (.tmp 29) 3), none⟩, ⟨7, some 9, (.assign (.tmp 30)), none⟩]) (.seq (.reg 4 [⟨0, some 32, (.load 42 (.tmp 8)), none⟩, ⟨1, some 33, (.move (.tmp 9)), none⟩, ⟨2, some 34, (.call { callee := .value (.func 29), args := #[.tmp 32, .tmp 33], argTypes := #[42, 3] }), none⟩, ⟨3, some 31, (.move (.tmp 34)), none⟩, ⟨4, some 35, (.extract (.tmp 31) 0), none⟩, ⟨5, some 36, (.extract (.tmp 31) 1), none⟩, ⟨6, some 10, (.assign (.tmp 35)), none⟩, ⟨7, some 11, (.assign (.tmp 36)), none⟩]) (.seq (.draw 5 [⟨0, some 37, (.fieldAddr 42 (.tmp 8) 0), none⟩, ⟨1, some 38, (.load 9 (.tmp 37)), none⟩, ⟨2, some 39, (.fieldAddr 42 (.tmp 8) 1), none⟩, ⟨3, some 40, (.load 40 (.tmp 39)), none⟩, ⟨4, some 41, (.move (.tmp 9)), none⟩, ⟨5, some 42, (.binOp .add 3 (.tmp 41) (.const (Value.int .i64 1)) 3), none⟩, ⟨6, some 43, (.slice 40 (.tmp 40) none (some (.tmp 42)) none), none⟩, ⟨7, some 44, (.fieldAddr 42 (.tmp 8) 2), none⟩, ⟨8, some 45, (.load 38 (.tmp 44)), none⟩, ⟨9, some 46, (.move (.tmp 9)), none⟩, ⟨10, some 47, (.slice 38 (.tmp 45) none (some (.tmp 46)) none), none⟩, ⟨11, some 48, (.build 42 #[(0, .tmp 38), (1, .tmp 43), (2, .tmp 47)]), none⟩, ⟨12, some 12, (.alloc 42), none⟩, ⟨13, none, (.store 42 (.tmp 12) (.tmp 48)), none⟩] [[], [0], [], [2], [], [4], [3, 5], [], [7], [], [8, 9], [1, 6, 10], [], [12, 11, 0, 1, 2, 3, 4, 5, 6, 7, 8, 9, 10, 11, 12]]) (.seq (.draw 6 [⟨0, some 49, (.move (.tmp 10)), none⟩, ⟨1, some 50, (.fieldAddr 42 (.tmp 8) 1), none⟩, ⟨2, some 51, (.load 40 (.tmp 50)), none⟩, ⟨3, some 52, (.move (.tmp 9)), none⟩, ⟨4, some 53, (.slice 40 (.tmp 51) (some (.tmp 52)) none none), none⟩, ⟨5, some 54, (.fieldAddr 42 (.tmp 8) 2), none⟩, ⟨6, some 55, (.load 38 (.tmp 54)), none⟩, ⟨7, some 56, (.move (.tmp 9)), none⟩, ⟨8, some 57, (.slice 38 (.tmp 55) (some (.tmp 56)) none none), none⟩, ⟨9, some 58, (.build 42 #[(0, .tmp 49), (1, .tmp 53), (2, .tmp 57)]), none⟩, ⟨10, some 13, (.alloc 42), none⟩, ⟨11, none, (.store 42 (.tmp 13) (.tmp 58)), none⟩] [[], [], [1], [], [2, 3], [], [5], [], [6, 7], [0, 4, 8], [], [10, 9, 0, 1, 2, 3, 4, 5, 6, 7, 8, 9, 10]]) (.seq (.reg 7 [⟨0, some 60, (.load 42 (.tmp 12)), none⟩, ⟨1, some 61, (.move (.tmp 9)), none⟩, ⟨2, some 62, (.call { callee := .value (.func 29), args := #[.tmp 60, .tmp 61], argTypes := #[42, 3] }), none⟩, ⟨3, some 59, (.move (.tmp 62)), none⟩, ⟨4, some 63, (.extract (.tmp 59) 0), none⟩, ⟨5, some 64, (.extract (.tmp 59) 1), none⟩, ⟨6, some 14, (.assign (.tmp 63)), none⟩, ⟨7, some 15, (.assign (.tmp 64)), none⟩]) (.seq (.reg 8 [⟨0, some 66, (.load 42 (.tmp 13)), none⟩, ⟨1, some 67, (.fieldAddr 42 (.tmp 13) 2), none⟩, ⟨2, some 68, (.load 38 (.tmp 67)), none⟩, ⟨3, some 69, (.call { callee := .builtin .len, args := #[.tmp 68], argTypes := #[38] }), none⟩, ⟨4, some 70, (.call { callee := .value (.func 29), args := #[.tmp 66, .tmp 69], argTypes := #[42, 3] }), none⟩, ⟨5, some 65, (.move (.tmp 70)), none⟩, ⟨6, some 71, (.extract (.tmp 65) 0), none⟩, ⟨7, some 72, (.extract (.tmp 65) 1), none⟩, ⟨8, some 16, (.assign (.tmp 71)), none⟩, ⟨9, some 17, (.assign (.tmp 72)), none⟩]) (.seq (.reg 9 [⟨0, some 74, (.load 42 (.tmp 8)), none⟩, ⟨1, some 75, (.fieldAddr 42 (.tmp 8) 2), none⟩, ⟨2, some 76, (.load 38 (.tmp 75)), none⟩, ⟨3, some 77, (.call { callee := .builtin .len, args := #[.tmp 76], argTypes := #[38] }), none⟩, ⟨4, some 78, (.call { callee := .value (.func 29), args := #[.tmp 74, .tmp 77], argTypes := #[42, 3] }), none⟩, ⟨5, some 73, (.move (.tmp 78)), none⟩, ⟨6, some 79, (.extract (.tmp 73) 0), none⟩, ⟨7, some 80, (.extract (.tmp 73) 1), none⟩, ⟨8, some 18, (.assign (.tmp 79)), none⟩, ⟨9, some 19, (.assign (.tmp 80)), none⟩]) (.seq (.reg 10 [⟨0, some 81, (.move (.tmp 7)), none⟩, ⟨1, some 82, (.move (.tmp 81)), none⟩, ⟨2, some 83, (.move (.tmp 11)), (some (82, true))⟩, ⟨3, some 84, (.binOp .eql 26 (.tmp 83) (.const (Value.int .i64 0)) 26), (some (82, true))⟩, ⟨4, some 85, (.pick (.tmp 82) (.tmp 84) (.const (Value.bool false))), none⟩, ⟨5, some 86, (.move (.tmp 85)), none⟩, ⟨6, some 87, (.move (.tmp 15)), (some (86, true))⟩, ⟨7, some 88, (.binOp .eql 26 (.tmp 87) (.const (Value.int .i64 0)) 26), (some (86, true))⟩, ⟨8, some 89, (.pick (.tmp 86) (.tmp 88) (.const (Value.bool false))), none⟩, ⟨9, some 90, (.move (.tmp 89)), none⟩, ⟨10, some 91, (.move (.tmp 17)), (some (90, true))⟩, ⟨11, some 92, (.binOp .eql 26 (.tmp 91) (.const (Value.int .i64 0)) 26), (some (90, true))⟩, ⟨12, some 93, (.pick (.tmp 90) (.tmp 92) (.const (Value.bool false))), none⟩, ⟨13, some 94, (.move (.tmp 93)), none⟩, ⟨14, some 95, (.move (.tmp 19)), (some (94, true))⟩, ⟨15, some 96, (.binOp .eql 26 (.tmp 95) (.const (Value.int .i64 0)) 26), (some (94, true))⟩, ⟨16, some 97, (.pick (.tmp 94) (.tmp 96) (.const (Value.bool false))), none⟩, ⟨17, some 98, (.move (.tmp 97)), none⟩, ⟨18, some 99, (.move (.tmp 10)), (some (98, true))⟩, ⟨19, some 100, (.move (.tmp 14)), (some (98, true))⟩, ⟨20, some 101, (.binOp .eql 9 (.tmp 99) (.tmp 100) 9), (some (98, true))⟩, ⟨21, some 102, (.pick (.tmp 98) (.tmp 101) (.const (Value.bool false))), none⟩, ⟨22, some 103, (.move (.tmp 102)), none⟩, ⟨23, some 104, (.move (.tmp 16)), (some (103, true))⟩, ⟨24, some 105, (.move (.tmp 18)), (some (103, true))⟩, ⟨25, some 106, (.binOp .eql 9 (.tmp 104) (.tmp 105) 9), (some (103, true))⟩, ⟨26, some 107, (.pick (.tmp 103) (.tmp 106) (.const (Value.bool false))), none⟩, ⟨27, some 108, (.move (.tmp 107)), none⟩, ⟨28, some 109, (.load 42 (.tmp 12)), (some (108, true))⟩, ⟨29, some 110, (.call { callee := .value (.func 28), args := #[.tmp 109], argTypes := #[42] }), (some (108, true))⟩, ⟨30, some 111, (.binOp .eql 26 (.tmp 110) (.const (Value.int .i64 0)) 26), (some (108, true))⟩, ⟨31, some 112, (.pick (.tmp 108) (.tmp 111) (.const (Value.bool false))), none⟩, ⟨32, some 113, (.move (.tmp 112)), none⟩, ⟨33, some 114, (.load 42 (.tmp 13)), (some (113, true))⟩, ⟨34, some 115, (.call { callee := .value (.func 28), args := #[.tmp 114], argTypes := #[42] }), (some (113, true))⟩, ⟨35, some 116, (.binOp .eql 26 (.tmp 115) (.const (Value.int .i64 0)) 26), (some (113, true))⟩, ⟨36, some 117, (.pick (.tmp 113) (.tmp 116) (.const (Value.bool false))), none⟩, ⟨37, some 6, (.assign (.tmp 117)), none⟩]) .ret)))))))))))
theorem comp6 : ∀ c, Tryd.f6.body = some c → comp c = cc6 := by
  intro c h
  have : c = Tryd.f6.body.get rfl := by rw [← Option.some_inj, ← h]; rfl
  rw [this]; rfl
theorem lgS_cut {c : Lg} (h : LgS c) (k : Nat) {t : ByteArray} (ht : t.size ≤ 1000000000) : LgS ⟨c.base, c.revs.take (k + 1), c.segs.take k⟩ ∧ LgS ⟨t, c.revs.drop k, c.segs.drop k⟩ := by
  obtain ⟨h1, h2, h3, h4⟩ := h
  refine ⟨⟨h1, by simp only [List.length_take]; omega, by simp only [List.length_take]; omega, fun x hx => h4 x (List.mem_of_mem_take hx)⟩, ⟨ht, by simp only [List.length_drop]; omega, by simp only [List.length_drop]; omega, fun x hx => h4 x (List.mem_of_mem_drop hx)⟩⟩
theorem totb_drop (l : List (List Sp)) (i : Nat) : totb (l.drop i) ≤ totb l := by
  have : totb l = totb (l.take i) + totb (l.drop i) := by
    conv => lhs; rw [← List.take_append_drop i l]
    unfold totb; rw [List.map_append, List.sum_append]
  omega
theorem chainCut_call (t : ByteArray) (l : List (List Sp)) (a : Int) (ha : 0 ≤ a ∧ a < 256) : CallW env 6 [.v (.string t), .lst 1 (rowsA l), .v (.int .u8 a)] (fun r hs => r = .v (.bool true) ∧ hs = []) := by
  have hF := fit16_call t l
  obtain ⟨f1, f2, f3, f4, f5⟩ := fit_good t l
  generalize fitL' t l = c at *
  have hrl := rowsA_len c.segs
  have hil := ints_len c.revs
  have hlen := (chE_zero f1).2.2.2.1
  obtain ⟨k, hk, hkl⟩ : ∃ k : Nat, (IntKind.i64.wrap a).tmod (IntKind.i64.wrap (((rowsA c.segs).length : Int) + 1)) = (k : Int) ∧ k ≤ c.segs.length := by
    have e1 : IntKind.i64.wrap a = a := wrap_id (by omega)
    have e2 : IntKind.i64.wrap (((rowsA c.segs).length : Int) + 1) = (c.segs.length : Int) + 1 := by rw [hrl, wrap_id (by omega)]
    rw [e1, e2, Int.tmod_eq_emod_of_nonneg ha.1]
    have h1 := Int.emod_nonneg a (b := (c.segs.length : Int) + 1) (by omega)
    have h2 := Int.emod_lt_of_pos a (b := (c.segs.length : Int) + 1) (by omega)
    exact ⟨(a % ((c.segs.length : Int) + 1)).toNat, by omega, by omega⟩
  have hb : c.base.size + totb c.segs ≤ 1000000000 := by omega
  have hx : ∀ x ∈ c.segs, x.length ≤ 100000000 := fun x hx => (f2.2.2.2 x hx).1
  obtain ⟨g1, g2, g3, g4⟩ := cut_good f1 hx hb hkl
  have hsz := (at_good f1 hx hb k).2.2.2
  obtain ⟨s1, s2⟩ := lgS_cut f2 k (t := atT c k) (by omega)
  have t1 := totb_take c.segs k
  have t2 := totb_drop c.segs k
  have hA := at_ok f2 f1 hb hkl
  have hB := at_ok s1 g1 (i := k) (by show c.base.size + totb (c.segs.take k) ≤ _; omega) (by simp only [List.length_take]; omega)
  have hC := at_ok s2 g2 (i := c.segs.length - k) (by show (atT c k).size + totb (c.segs.drop k) ≤ _; omega) (by simp only [List.length_drop]; omega)
  have hD : CallW env 29 [lgA c, .v (.int .i64 (rowsA c.segs).length)] (fun r hs => r = .tup [.v (.string (atT c c.segs.length)), .v (.int .i64 0)] ∧ hs = []) := by rw [hrl]; exact at_ok f2 f1 hb (i := c.segs.length) (Nat.le_refl _)
  rw [g4] at hB
  rw [g3] at hC
  have hM := cmay_call _ s1
  have hN := cmay_call _ s2
  rw [g1] at hM
  rw [g2] at hN
  have hw1 : (IntKind.i64.wrap ((k : Int) + 1)).toNat - 0 = k + 1 := by rw [wrap_id (by omega)]; omega
  have a1 : lgA ⟨c.base, c.revs.take (k + 1), c.segs.take k⟩ = .agg [.v (.string c.base), .lst 1 (List.take ((IntKind.i64.wrap ((k : Int) + 1)).toNat - 0) (List.drop 0 (ints c.revs))), .lst 1 (List.take ((k : Int).toNat - 0) (List.drop 0 (rowsA c.segs)))] := by
    rw [hw1, List.drop_zero, List.drop_zero, Nat.sub_zero, Int.toNat_natCast]; simp [lgA, ints, rowsA, List.map_take]
  have a2 : lgA ⟨atT c k, c.revs.drop k, c.segs.drop k⟩ = .agg [.v (.string (atT c k)), .lst 1 (List.take ((ints c.revs).length - (k : Int).toNat) (List.drop (k : Int).toNat (ints c.revs))), .lst 1 (List.take ((rowsA c.segs).length - (k : Int).toNat) (List.drop (k : Int).toNat (rowsA c.segs)))] := by
    rw [Int.toNat_natCast, List.take_of_length_le (by rw [List.length_drop]; exact Nat.le_refl _), List.take_of_length_le (by rw [List.length_drop]; exact Nat.le_refl _)]; simp [lgA, ints, rowsA, List.map_drop]
  rw [a1] at hB hM
  rw [a2] at hC hN
  have hlr : (List.take ((rowsA c.segs).length - (k : Int).toNat) (List.drop (k : Int).toNat (rowsA c.segs))).length = c.segs.length - k := by rw [Int.toNat_natCast, List.length_take, List.length_drop, hrl]; omega
  rw [← hlr] at hC
  refine Ev.func tabOK [0, 1, 2, 6, 7, 8, 9, 10, 11, 12, 13, 14, 15, 16, 17, 18, 19] 0 Tryd.func6 rfl rfl (by simp [Tryd.ntmps6]) (by rfl) (comp6 _ rfl) (rs := [.tmp 6]) rfl ?_; rw [cc6]; show Ev.Wp _ _ _ _ ⟨[(0, _), (1, _), (2, _)], [], 0⟩
  repeat' (first | (((with_reducible refine Ev.br_pos ?_ ?_); focus (decide)); conv => whnf) | (((with_reducible refine Ev.br_neg ?_ ?_); focus (decide)); conv => whnf) | (((with_reducible refine Ev.c_pos ?_ ?_); focus (decide))) | (((with_reducible refine Ev.c_neg ?_ ?_); focus (decide))) | (with_reducible refine Ev.br_pos rfl ?_) | (with_reducible refine Ev.c_pos rfl ?_) | (conv in (Int.tmod (IntKind.i64.wrap a) _) => rw [hk]) | ((with_reducible first | refine Ev.sided ?_ ?_ | refine Ev.w_put ?_ | refine Ev.w_step ?_ | refine Ev.w_opt ?_); (conv => whnf)) | ((with_reducible refine Ev.chk_k ?_ ?_); rotate_left; (focus first | rfl | (simp only [Ev.nbeq, Bool.and_true, Bool.true_and, Bool.not_false]; done) | ((repeat' (first | exact Ev.nbeq _ | rfl | refine Bool.and_eq_true_iff.2 ⟨?_, ?_⟩)); done)); conv => whnf) | (with_reducible first | refine Ev.c_dec (fun _ => ?_) (fun _ => ?_) | refine Ev.c_not ?_ | refine Ev.c_t ?_ | refine Ev.c_f ?_ | refine Ev.c_br (fun _ => ?_) (fun _ => ?_)) | ((with_reducible refine Ev.br_not ?_); conv => whnf) | (with_reducible first | refine Ev.br_dec (fun _ => ?_) (fun _ => ?_) | refine Ev.br (fun _ => ?_) (fun _ => ?_) | refine Ev.eo_ret ?_ | refine Ev.eo_norm ?_ | refine Ev.t_norm ?_ | refine Ev.k_seq ?_) | ((with_reducible refine Ev.k_reg (hs := []) (tabOK' _ _) (fun Q hQ => ?_)); (simp only [Ev.runE_cons, Ev.runE_nil]); conv => whnf) | (with_reducible refine hQ _ ?_; clear hQ Q) | (with_reducible first | refine Ev.k_cond rfl ?_ | refine Ev.k_skip ?_ | refine Ev.k_block ?_ | refine Ev.k_exit ?_ | refine Ev.k_ret ?_ | refine Ev.t_ret ?_ | refine Ev.t_exit ?_ | refine Ev.b_norm ?_ | refine Ev.b_ret ?_ | refine Ev.b_here ?_ | refine Ev.b_off rfl ?_) | ((with_reducible first | refine Ev.e_ret (fun F hF => ?_) | refine Ev.e_norm (fun F hF => ?_) | refine Ev.eh_ret (fun F hF => ?_) | refine Ev.eh_norm (fun F hF => ?_) | refine Ev.go_k (fun c' => ?_) | refine Ev.byt_cut ?_ | refine Ev.byt_all ?_ | refine Ev.run_cut ?_ | refine Ev.run_all ?_); conv => whnf) | (with_reducible refine hF _ ?_; clear hF F) | (with_reducible refine Ev.u_step ?_) | ((first | refine Ev.call_det (shown16_call) rfl rfl ?_ | refine Ev.call_det (hF) rfl rfl ?_ | refine Ev.call_det (hA) rfl rfl ?_ | refine Ev.call_det (hB) rfl rfl ?_ | refine Ev.call_det (hC) rfl rfl ?_ | refine Ev.call_det (hD) rfl rfl ?_ | refine Ev.call_det (hM) rfl rfl ?_ | refine Ev.call_det (hN) rfl rfl ?_); conv => whnf) | ((first | refine Ev.call_det (shown16_call) ?_ rfl ?_ | refine Ev.call_det (hF) ?_ rfl ?_ | refine Ev.call_det (hA) ?_ rfl ?_ | refine Ev.call_det (hB) ?_ rfl ?_ | refine Ev.call_det (hC) ?_ rfl ?_ | refine Ev.call_det (hD) ?_ rfl ?_ | refine Ev.call_det (hM) ?_ rfl ?_ | refine Ev.call_det (hN) ?_ rfl ?_); (focus (repeat' (first | with_reducible rfl | refine Ev.cons_eq ?_ ?_)) <;> (first | rfl | (refine Ev.lst_eq (Ev.take_all ?_ rfl); first | omega | (simp; done) | (simp; omega)) | (refine Ev.int_eq ?_; omega) | (simp; done))); conv => whnf) | ((refine Ev.k_drawV (id := 5) (hs := []) (tabOK' _ _) (mixed' _ _) [(0, false), (1, false), (2, false), (3, false), (4, false), (5, true), (6, true), (7, false), (8, false), (9, false), (10, true), (11, true), (12, false), (13, false)] (by decide) rfl rfl (fun Q hQ => ?_)); (simp only [Ev.runV_consF, Ev.runV_consT, Ev.runV_nil]); conv => whnf) | ((refine Ev.k_drawV (id := 6) (hs := []) (tabOK' _ _) (mixed' _ _) [(0, false), (1, false), (2, false), (3, false), (4, true), (5, false), (6, false), (7, false), (8, true), (9, true), (10, false), (11, false)] (by decide) rfl rfl (fun Q hQ => ?_)); (simp only [Ev.runV_consF, Ev.runV_consT, Ev.runV_nil]); conv => whnf) | ((refine Ev.el_map0 ?_ (fun hi => ?_)); rotate_left; conv => whnf) | ((refine Ev.el_mapN ?_ (fun hi => ?_)); rotate_left; conv => whnf) | (refine Ev.Side.of ?_; exact Nat.le_of_ble_eq_true rfl) | (refine Ev.Side.of ?_; omega) | (refine Ev.Side.of ?_; simp only [Ev.wrap64]; omega) | (refine Ev.app_one ?_ rfl ?_ (by decide) <;> (first | omega | (simp; done) | (simp; omega))) | (refine Ev.app_nil1 rfl (by decide)) | (refine Ev.app_ys ?_ ?_ ?_ (by decide) <;> (first | omega | exact sps_all _ | exact bts_all _ | exact ints_all _ | exact spss_all _ | (simp; done) | (simp; omega))) | (refine Ev.app_nil ?_ ?_ (by decide) <;> (first | omega | exact sps_all _ | exact bts_all _ | exact ints_all _ | exact spss_all _ | (simp; done) | (simp; omega))) | (refine Ev.Side.of ?_; first | omega | (simp; done) | (simp; omega)))
  all_goals exact ⟨rfl, rfl⟩
end Go.Proofs.YthdjbgbfboppcaaDoor.Abs

namespace Go.Proofs.YthdjbgbfboppcaaDoor
open Go Go.ChangeShapes Go.WideShapes Go.ChangeAt Go.RowKit
open Go.ChangeMaps (open_string shut_string)
set_option linter.unusedVariables false
theorem chainCut_list : Rows.chainCutRow.laid = Rows.wordsTakenRow.laid := by rfl
set_option maxRecDepth 100000 in
theorem chainCut_lifted (os : Os) (started : os.Started) (H : Type) (enc : TypeId × Value → H) :
    ReturnsInHanded {} Tryd.checked os 6 .any (fun w args => (Rows.chainCutSpec.pre enc Tryd.prog Tryd.f6 [] false w args ∧ laidMetH Tryd.prog Rows.chainCutRow.laid w) ∧ sizedMet enc Tryd.prog Tryd.f6 (OpenSpec.ofChange Rows.chainCutSpec) false w args)
      (Rows.chainCutSpec.post enc Tryd.prog Tryd.f6 false true false false) := by
  refine returnsInHanded_of_change_and (C := Tryd.checked) (X := fun w _ => laidMetH Tryd.prog Rows.chainCutRow.laid w) (fun _ _ _ hh h => h.of_heap hh) own started (by kernel_rfl) Tryd.func6
    (ChangeSpec.witness_at (enc := enc) (C := Tryd.checked) (os := os) (X := fun w _ => laidMetH Tryd.prog Rows.chainCutRow.laid w) false (laidWorld os) #[.string ⟨#[]⟩, .slice none 0 0, .int .u8 0] 8 rfl (by kernel_rfl) (by kernel_rfl) (by kernel_rfl) (by kernel_rfl) (by kernel_rfl) (by rw [chainCut_list]; exact laid_metH os _)) ?_
  intro W base args ds gs before hval0 hW _ _ hL _
  have hval : ∀ (j : Nat) t v, Tryd.f6.params[j]? = some t → args[j]? = some v → Value.okWide Tryd.prog W .any base t v := hval0
  have hW' := hW
  obtain ⟨p, q, hA0, hV, rfl, hfz, hnd⟩ := hW
  have hA : DataW.TrodAll enc Tryd.prog W 0 (fun _ => true) true Tryd.f6.params.toList args.toList ds p := hA0
  rw [Tryd.params6] at hA hval
  obtain ⟨v0, vs0, d0, ds0, p0, q0, hargs, rfl, rfl, h0, r0⟩ := trodAll_cons hA
  obtain ⟨v1, vs1, d1, ds1, p1, q1, rfl, rfl, rfl, h1, r1⟩ := trodAll_cons r0
  obtain ⟨v2, vs2, d2, ds2, p2, q2, rfl, rfl, rfl, h2, r2⟩ := trodAll_cons r1
  obtain ⟨rfl, rfl, rfl⟩ := trodAll_nil r2
  obtain rfl : args = #[v0, v1, v2] := by cases args; simp_all
  obtain ⟨rfl, rfl⟩ := trodVars_none hV
  have w0 := hval 0 9 v0 rfl rfl
  obtain ⟨a0, g0, b0⟩ : ∃ a : ByteArray, a.size ≤ maxLen ∧ Abs.PRel (Abs.fullM W) (.v (.string a)) v0 := by
    obtain ⟨n, e, _, _, w⟩ := open_string Tryd.underlying9 w0 h0
    exact ⟨n, w, by rw [e]; exact .v _⟩
  have w1 := hval 1 38 v1 rfl rfl
  obtain ⟨a1, g1, b1⟩ := (Abs.Opn.one (show Abs.Opn Tryd.prog W 38 _ _ from (Abs.Opn.slice (sz := 1) Tryd.underlying38 (by kernel_rfl) (by decide) (fun _ => rfl) (Abs.Opn.slice (sz := 3) Tryd.underlying25 (by kernel_rfl) (by decide) (fun _ => rfl) (Abs.Opn.span (Abs.Opn.st3 Tryd.underlying35 (by kernel_rfl) ⟨rfl, rfl, rfl⟩ ⟨by kernel_rfl, by kernel_rfl, by kernel_rfl⟩ (Abs.Opn.int Tryd.underlying3) (Abs.Opn.int Tryd.underlying3) (Abs.Opn.str Tryd.underlying9)))))) h1 (Abs.slice_noagg Tryd.underlying38 w1))
  have w2 := hval 2 5 v2 rfl rfl
  obtain ⟨a2, g2, b2⟩ : ∃ a, (Lit.int .u8 a).wf = true ∧ Abs.PRel (Abs.fullM W) (.v (.int .u8 a)) v2 := by
    obtain ⟨n, e, _, _, w⟩ := open_int Tryd.underlying5 w2 h2
    exact ⟨n, w, by rw [e]; exact .v _⟩
  have hG := globs_of_laid (by rw [chainCut_list] at hL; exact hL)
  have hC := Abs.chainCut_call a0 a1 a2 (by have := bounds_u8 g2; omega)
  refine (Abs.law_full hC (vs := #[v0, v1, v2]) hG rfl (fun i x v hx hv => ?_)).mono ?_
  · rcases i with _ | _ | _ | i <;> simp at hx hv <;> subst hx <;> subst hv <;> assumption
  rintro e W' ⟨rfl, bel⟩
  exact ⟨_, rfl, _, _, _, [], _, [], hW', trodAll_mk1 (shut_bool Tryd.underlying4 _), trodAll_cons_mk (Below.trod (by kernel_rfl) (by kernel_rfl) (of_decide_eq_true (by kernel_rfl)) h0 bel (let ⟨_, hf⟩ := h0; DataW.trod_lt _ _ _ _ hf)) (trodAll_cons_mk (Below.trod (by kernel_rfl) (by kernel_rfl) (of_decide_eq_true (by kernel_rfl)) h1 bel (let ⟨_, hf⟩ := h1; DataW.trod_lt _ _ _ _ hf)) (trodAll_cons_mk (Below.trod (by kernel_rfl) (by kernel_rfl) (of_decide_eq_true (by kernel_rfl)) h2 bel (let ⟨_, hf⟩ := h2; DataW.trod_lt _ _ _ _ hf)) (trodAll_mk0))), rfl, bel.frame _, fun h => by cases h⟩
theorem chainCut_holds : Rows.ChainCutSaid :=
  OpenClaim.holds_of_wide 6 Tryd.f6 rfl rfl rfl rfl rfl rfl rfl ⟨rfl, rfl, rfl, rfl, rfl⟩ rfl rfl rfl rfl rfl (by kernel_rfl) Tryd.func6 (by kernel_rfl)
    (of_decide_eq_true (by kernel_rfl)) (by unfold Func.isWrapper; first | (rw [if_pos (by decide +kernel)]; kernel_rfl) | (rw [if_neg (by decide +kernel)]; exact ⟨rfl, rfl⟩))
    (fun os started H enc _ => chainCut_lifted os started H enc)
theorem chainCut_card_holds : Rows.ChainCutCardSaid :=
  Claim7.holds_tied_plain_at .later [] [.data, .data, .pinned] true (true, "150321277a3984d84d245d0b5218c155a5808e68a39a0d8efc7b1b6f7c0b0c8a") false
    chainCut_holds (fun _ h => by cases h) (by kernel_rfl) (fun _ h => by cases h) chainCut_row_tie rfl ⟨rfl, rfl⟩ (by kernel_rfl) rfl
    (fun f fn hf hfn => by
      obtain rfl : f = 6 := Option.some.inj ((show Tryd.prog.funcNamed "epitome/epitomelaw16.ChainCut" = some 6 by kernel_rfl).symm.trans hf) |>.symm
      obtain rfl : fn = Tryd.f6 := (Option.some.inj (Tryd.func6.symm.trans hfn)).symm
      exact ⟨by kernel_rfl, fun j t ht => by
        rw [Tryd.params6] at ht
        have h3 : t = 5 ∨ t = 9 ∨ t = 38 := by
          rcases j with _ | _ | _ | j <;> simp at ht <;> subst ht <;> simp
        rcases h3 with rfl | rfl | rfl
        · exact (show Tryd.prog.wantsStandIn 5 = false by kernel_rfl)
        · exact (show Tryd.prog.wantsStandIn 9 = false by kernel_rfl)
        · exact (show Tryd.prog.wantsStandIn 38 = false by kernel_rfl)⟩)
    (by kernel_rfl)
end Go.Proofs.YthdjbgbfboppcaaDoor
