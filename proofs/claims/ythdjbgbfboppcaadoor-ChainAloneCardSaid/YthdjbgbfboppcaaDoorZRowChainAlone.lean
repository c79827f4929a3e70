/- ChainAlone, whatever the input, is true: the row and its tied card. No condition. -/
import Derived.Test.YthdjbgbfboppcaaDoorZC5
namespace Go.Proofs.YthdjbgbfboppcaaDoor.Abs
open Go
set_option maxRecDepth 100000
set_option linter.unusedSimpArgs false
set_option linter.unusedVariables false
attribute [local irreducible] Ev.Unr Ev.Go' Ev.bytK Ev.runK Ev.FinL Ev.brC Ev.Side Ev.Wp Ev.Again Ev.To Ev.Fin
open Go.Lib Go.RowKit
def cc9 : CC := (.seq (.reg 0 [⟨0, some 4, (.assign (.const (Value.bool false))), none⟩]) (.seq (.reg 1 [⟨0, some 17, (.call { callee := .value (.func 26), args := #[], argTypes := #[] }), none⟩, ⟨1, some 5, (.assign (.tmp 17)), none⟩]) (.seq (.reg 2 [⟨0, some 18, (.move (.tmp 0)), none⟩, ⟨1, some 19, (.move (.tmp 0)), none⟩, ⟨2, some 20, (.call { callee := .builtin .len, args := #[.tmp 19], argTypes := #[9] }), none⟩, ⟨3, some 21, (.call { callee := .builtin .min, args := #[.tmp 20, .const (Value.int .i64 60)], argTypes := #[3, 3] }), none⟩, ⟨4, some 22, (.slice 9 (.tmp 18) none (some (.tmp 21)) none), none⟩, ⟨5, some 6, (.assign (.tmp 22)), none⟩]) (.seq (.reg 3 [⟨0, some 23, (.move (.tmp 6)), none⟩, ⟨1, some 24, (.move (.tmp 1)), none⟩, ⟨2, some 25, (.buildSlice 40 1 #[(0, .tmp 24)]), none⟩, ⟨3, some 26, (.build 42 #[(0, .tmp 23), (1, .tmp 25)]), none⟩, ⟨4, some 27, (.call { callee := .value (.func 28), args := #[.tmp 26], argTypes := #[42] }), none⟩, ⟨5, some 7, (.assign (.tmp 27)), none⟩]) (.seq (.reg 4 [⟨0, some 28, (.move (.tmp 6)), none⟩, ⟨1, some 29, (.build 42 #[(0, .tmp 28)]), none⟩, ⟨2, some 30, (.call { callee := .value (.func 28), args := #[.tmp 29], argTypes := #[42] }), none⟩, ⟨3, some 8, (.assign (.tmp 30)), none⟩]) (.seq (.reg 5 [⟨0, some 31, (.move (.tmp 6)), none⟩, ⟨1, some 32, (.buildSlice 40 2 #[(0, .const (Value.int .i64 0)), (1, .const (Value.int .i64 1))]), none⟩, ⟨2, some 33, (.build 42 #[(0, .tmp 31), (1, .tmp 32)]), none⟩, ⟨3, some 34, (.call { callee := .value (.func 28), args := #[.tmp 33], argTypes := #[42] }), none⟩, ⟨4, some 9, (.assign (.tmp 34)), none⟩]) (.seq (.reg 6 [⟨0, some 10, (.assign (.const (Value.int .i64 0))), none⟩]) (.seq (.seq (.reg 7 [⟨0, some 35, (.move (.tmp 1)), none⟩, ⟨1, some 36, (.binOp .lss 3 (.tmp 35) (.const (Value.int .i64 0)) 3), none⟩, ⟨2, some 37, (.move (.tmp 36)), none⟩, ⟨3, some 38, (.move (.tmp 1)), (some (37, false))⟩, ⟨4, some 39, (.binOp .gtr 3 (.tmp 38) (.const (Value.int .i64 268435455)) 3), (some (37, false))⟩, ⟨5, some 40, (.pick (.tmp 37) (.const (Value.bool true)) (.tmp 39)), none⟩]) (.cond (.tmp 40) (.reg 8 [⟨0, some 10, (.assign (.const (Value.int .i64 6))), none⟩]) .skip)) (.seq (.reg 9 [⟨0, some 11, (.assign (.const (Value.int .i64 6))), none⟩]) (.seq (.reg 10 [⟨0, some 42, (.move (.tmp 6)), none⟩, ⟨1, some 43, (.build 42 #[(0, .tmp 42)]), none⟩, ⟨2, some 44, (.call { callee := .value (.func 32), args := #[.tmp 43], argTypes := #[42] }), none⟩, ⟨3, some 41, (.move (.tmp 44)), none⟩, ⟨4, some 45, (.extract (.tmp 41) 0), none⟩, ⟨5, some 46, (.extract (.tmp 41) 1), none⟩, ⟨6, some 12, (.assign (.tmp 45)), none⟩, ⟨7, some 13, (.assign (.tmp 46)), none⟩]) (.seq (.reg 11 [⟨0, some 47, (.move (.tmp 6)), none⟩, ⟨1, some 48, (.call { callee := .value (.func 38), args := #[.tmp 47], argTypes := #[9] }), none⟩, ⟨2, some 14, (.assign (.tmp 48)), none⟩]) (.seq (.seq (.reg 12 [⟨0, some 49, (.move (.tmp 14)), none⟩, ⟨1, some 50, (.unOp .not 4 (.tmp 49)), none⟩]) (.cond (.tmp 50) (.seq (.reg 13 [⟨0, some 10, (.assign (.const (Value.int .i64 3))), none⟩]) (.reg 14 [⟨0, some 11, (.assign (.const (Value.int .i64 3))), none⟩])) .skip)) (.seq (.reg 15 [⟨0, some 52, (.move (.tmp 6)), none⟩, ⟨1, some 53, (.buildSlice 40 1 #[(0, .const (Value.int .i64 0))]), none⟩, ⟨2, some 54, (.build 42 #[(0, .tmp 52), (1, .tmp 53)]), none⟩, ⟨3, some 55, (.call { callee := .value (.func 29), args := #[.tmp 54, .const (Value.int .i64 0)], argTypes := #[42, 3] }), none⟩, ⟨4, some 51, (.move (.tmp 55)), none⟩, ⟨5, some 56, (.extract (.tmp 51) 0), none⟩, ⟨6, some 57, (.extract (.tmp 51) 1), none⟩, ⟨7, some 15, (.assign (.tmp 56)), none⟩, ⟨8, some 16, (.assign (.tmp 57)), none⟩]) (.seq (.reg 16 [⟨0, some 58, (.move (.tmp 5)), none⟩, ⟨1, some 59, (.move (.tmp 58)), none⟩, ⟨2, some 60, (.move (.tmp 7)), (some (59, true))⟩, ⟨3, some 61, (.move (.tmp 10)), (some (59, true))⟩, ⟨4, some 62, (.binOp .eql 26 (.tmp 60) (.tmp 61) 26), (some (59, true))⟩, ⟨5, some 63, (.pick (.tmp 59) (.tmp 62) (.const (Value.bool false))), none⟩, ⟨6, some 64, (.move (.tmp 63)), none⟩, ⟨7, some 65, (.move (.tmp 8)), (some (64, true))⟩, ⟨8, some 66, (.move (.tmp 11)), (some (64, true))⟩, ⟨9, some 67, (.binOp .eql 26 (.tmp 65) (.tmp 66) 26), (some (64, true))⟩, ⟨10, some 68, (.pick (.tmp 64) (.tmp 67) (.const (Value.bool false))), none⟩, ⟨11, some 69, (.move (.tmp 68)), none⟩, ⟨12, some 70, (.move (.tmp 9)), (some (69, true))⟩, ⟨13, some 71, (.move (.tmp 11)), (some (69, true))⟩, ⟨14, some 72, (.binOp .eql 26 (.tmp 70) (.tmp 71) 26), (some (69, true))⟩, ⟨15, some 73, (.pick (.tmp 69) (.tmp 72) (.const (Value.bool false))), none⟩, ⟨16, some 74, (.move (.tmp 73)), none⟩, ⟨17, some 75, (.move (.tmp 13)), (some (74, true))⟩, ⟨18, some 76, (.move (.tmp 11)), (some (74, true))⟩, ⟨19, some 77, (.binOp .eql 26 (.tmp 75) (.tmp 76) 26), (some (74, true))⟩, ⟨20, some 78, (.pick (.tmp 74) (.tmp 77) (.const (Value.bool false))), none⟩, ⟨21, some 79, (.move (.tmp 78)), none⟩, ⟨22, some 80, (.move (.tmp 12)), (some (79, true))⟩, ⟨23, some 81, (.call { callee := .builtin .len, args := #[.tmp 80], argTypes := #[40] }), (some (79, true))⟩, ⟨24, some 82, (.binOp .eql 3 (.tmp 81) (.const (Value.int .i64 0)) 3), (some (79, true))⟩, ⟨25, some 83, (.pick (.tmp 79) (.tmp 82) (.const (Value.bool false))), none⟩, ⟨26, some 84, (.move (.tmp 83)), none⟩, ⟨27, some 85, (.move (.tmp 14)), (some (84, true))⟩, ⟨28, some 86, (.move (.tmp 85)), (some (84, true))⟩, ⟨29, some 87, (.move (.tmp 16)), (some (86, true))⟩, ⟨30, some 88, (.binOp .eql 26 (.tmp 87) (.const (Value.int .i64 0)) 26), (some (86, true))⟩, ⟨31, some 89, (.pick (.tmp 86) (.tmp 88) (.const (Value.bool false))), (some (84, true))⟩, ⟨32, some 90, (.move (.tmp 89)), (some (84, true))⟩, ⟨33, some 91, (.move (.tmp 15)), (some (90, true))⟩, ⟨34, some 92, (.move (.tmp 6)), (some (90, true))⟩, ⟨35, some 93, (.binOp .eql 9 (.tmp 91) (.tmp 92) 9), (some (90, true))⟩, ⟨36, some 94, (.pick (.tmp 90) (.tmp 93) (.const (Value.bool false))), (some (84, true))⟩, ⟨37, some 95, (.move (.tmp 94)), (some (84, true))⟩, ⟨38, some 96, (.move (.tmp 14)), (some (95, false))⟩, ⟨39, some 97, (.unOp .not 4 (.tmp 96)), (some (95, false))⟩, ⟨40, some 98, (.move (.tmp 97)), (some (95, false))⟩, ⟨41, some 99, (.move (.tmp 16)), (some (98, true))⟩, ⟨42, some 100, (.binOp .eql 26 (.tmp 99) (.const (Value.int .i64 3)) 26), (some (98, true))⟩, ⟨43, some 101, (.pick (.tmp 98) (.tmp 100) (.const (Value.bool false))), (some (95, false))⟩, ⟨44, some 102, (.pick (.tmp 95) (.const (Value.bool true)) (.tmp 101)), (some (84, true))⟩, ⟨45, some 103, (.pick (.tmp 84) (.tmp 102) (.const (Value.bool false))), none⟩, ⟨46, some 4, (.assign (.tmp 103)), none⟩]) .ret))))))))))))))
theorem comp9 : ∀ c, Tryd.f9.body = some c → comp c = cc9 := by
  intro c h
  have : c = Tryd.f9.body.get rfl := by rw [← Option.some_inj, ← h]; rfl
  rw [this]; rfl
theorem alone_e (w : ByteArray) (hw : w.size ≤ 60) (revs : List Int) : chE ⟨w, revs, []⟩ = if validD w.data.toList then (if rises revs = true ∧ revs.length = 1 then 0 else 6) else 3 := by
  have hp := pts_len w.data.toList
  rw [len_list] at hp
  unfold chE
  cases hv : validD w.data.toList with
  | false => simp only; rw [countD_bad hv, if_pos (by omega)]; rfl
  | true =>
    have hc := countD_pts hv
    simp only
    rw [if_neg (by omega), if_neg (by omega), if_pos trivial]
    by_cases h : rises revs = true ∧ revs.length = 1
    · rw [if_pos h, if_neg]
      · rfl
      · rintro (a | a)
        · apply a; unfold rPutE; rw [h.1]; rfl
        · exact a h.2
    · rw [if_neg h, if_pos]
      by_cases hr : rises revs = true
      · exact .inr (fun e => h ⟨hr, e⟩)
      · exact .inl (by unfold rPutE; rw [if_neg hr]; decide)
set_option maxHeartbeats 4000000 in
theorem chainAlone_call (t : ByteArray) (r : Int) (hr : -9223372036854775808 ≤ r ∧ r < 9223372036854775808) : CallW env 9 [.v (.string t), .v (.int .i64 r)] (fun x hs => x = .v (.bool true) ∧ hs = []) := by
  have hx : (min (t.size : Int) 60).toNat = min t.size 60 := by omega
  have hw : (t.extract 0 (min (t.size : Int) 60).toNat).size ≤ 60 := by rw [hx, ByteArray.size_extract]; omega
  obtain ⟨w, hW⟩ : ∃ w, t.extract 0 (min (t.size : Int) 60).toNat = w := ⟨_, rfl⟩
  rw [hW] at hw
  have hS : ∀ revs : List Int, revs.length ≤ 10 → LgS ⟨w, revs, []⟩ := fun revs h => ⟨by show w.size ≤ _; omega, by show revs.length ≤ _; omega, by show ([] : List (List Sp)).length ≤ _; simp, fun x hx => by cases hx⟩
  have le1 : Le (.agg [.v (.string w), .v (.slice none 0 0), .v (.slice none 0 0)]) (lgA ⟨w, [], []⟩) := Le.agg3 (Le.refl _) (Le.nil 1) (Le.nil 1)
  have le2 : ∀ revs, Le (.agg [.v (.string w), .lst 1 (ints revs), .v (.slice none 0 0)]) (lgA ⟨w, revs, []⟩) := fun revs => Le.agg3 (Le.refl _) (Le.refl _) (Le.nil 1)
  have hE := (cmay_call _ (hS [r] (by simp))).arg1 (le2 [r])
  have hN := (cmay_call _ (hS [] (by simp))).arg1 le1
  have hT := (cmay_call _ (hS [0, 1] (by simp))).arg1 (le2 [0, 1])
  have hL := (csizes_call _ (hS [] (by simp))).arg1 le1
  have hA := (at_call _ 0 (hS [0] (by simp)) (by show w.size + 0 ≤ _; omega)).arg2 (le2 [0]) (Le.refl _)
  have hV := pvalid_call w (by omega)
  have er : rises [r] = decide (0 ≤ r ∧ r ≤ 268435455) := by
    have e : rises [r] = (decide (-1 < r) && decide (r ≤ 268435455)) := by
      show (true && true && (decide (-1 < r) && decide (r ≤ 268435455) && true)) = _
      simp
    rw [e]
    by_cases h1 : -1 < r <;> by_cases h2 : r ≤ 268435455 <;> simp [h1, h2] <;> omega
  cases hv : validD w.data.toList with
  | false =>
    have e1 : ∀ revs, chE ⟨w, revs, []⟩ = 3 := fun revs => by rw [alone_e w hw, hv]; rfl
    have e2 : atR ⟨w, [0], []⟩ 0 = (3, ⟨#[]⟩) := by unfold atR; rw [e1, if_pos (by decide)]
    have e3 : szL' ⟨w, [], []⟩ = [] := by unfold szL'; rw [e1]; rfl
    unfold atA at hA
    rw [e1] at hE hN hT hL
    rw [e2] at hA
    rw [e3] at hL
    rw [hv] at hV
    refine Ev.func tabOK [0, 1, 4, 5, 6, 7, 8, 9, 10, 11, 12, 13, 14, 15, 16, 40, 50] 0 Tryd.func9 rfl rfl (by simp [Tryd.ntmps9]) (by rfl) (comp9 _ rfl) (rs := [.tmp 4]) rfl ?_; rw [cc9]; show Ev.Wp _ _ _ _ ⟨[(0, _), (1, _)], [], 0⟩
    repeat' (first | (((with_reducible refine Ev.br_pos ?_ ?_); focus (decide)); conv => whnf) | (((with_reducible refine Ev.br_neg ?_ ?_); focus (decide)); conv => whnf) | (((with_reducible refine Ev.c_pos ?_ ?_); focus (decide))) | (((with_reducible refine Ev.c_neg ?_ ?_); focus (decide))) | (with_reducible refine Ev.br_pos rfl ?_) | (with_reducible refine Ev.c_pos rfl ?_) | (conv in (ByteArray.extract t _ _) => rw [hW]) | ((with_reducible first | refine Ev.sided ?_ ?_ | refine Ev.w_put ?_ | refine Ev.w_step ?_ | refine Ev.w_opt ?_); (conv => whnf)) | ((with_reducible refine Ev.chk_k ?_ ?_); rotate_left; (focus first | rfl | (simp only [Ev.nbeq, Bool.and_true, Bool.true_and, Bool.not_false]; done) | ((repeat' (first | exact Ev.nbeq _ | rfl | refine Bool.and_eq_true_iff.2 ⟨?_, ?_⟩)); done)); conv => whnf) | (with_reducible first | refine Ev.c_dec (fun _ => ?_) (fun _ => ?_) | refine Ev.c_not ?_ | refine Ev.c_t ?_ | refine Ev.c_f ?_ | refine Ev.c_br (fun _ => ?_) (fun _ => ?_)) | ((with_reducible refine Ev.br_not ?_); conv => whnf) | (with_reducible first | refine Ev.br_dec (fun _ => ?_) (fun _ => ?_) | refine Ev.br (fun _ => ?_) (fun _ => ?_) | refine Ev.eo_ret ?_ | refine Ev.eo_norm ?_ | refine Ev.t_norm ?_ | refine Ev.k_seq ?_) | ((with_reducible refine Ev.k_reg (hs := []) (tabOK' _ _) (fun Q hQ => ?_)); (simp only [Ev.runE_cons, Ev.runE_nil]); conv => whnf) | (with_reducible refine hQ _ ?_; clear hQ Q) | (with_reducible first | refine Ev.k_cond rfl ?_ | refine Ev.k_skip ?_ | refine Ev.k_block ?_ | refine Ev.k_exit ?_ | refine Ev.k_ret ?_ | refine Ev.t_ret ?_ | refine Ev.t_exit ?_ | refine Ev.b_norm ?_ | refine Ev.b_ret ?_ | refine Ev.b_here ?_ | refine Ev.b_off rfl ?_) | ((with_reducible first | refine Ev.e_ret (fun F hF => ?_) | refine Ev.e_norm (fun F hF => ?_) | refine Ev.eh_ret (fun F hF => ?_) | refine Ev.eh_norm (fun F hF => ?_) | refine Ev.go_k (fun c' => ?_) | refine Ev.byt_cut ?_ | refine Ev.byt_all ?_ | refine Ev.run_cut ?_ | refine Ev.run_all ?_); conv => whnf) | (with_reducible refine hF _ ?_; clear hF F) | (with_reducible refine Ev.u_step ?_) | ((first | refine Ev.call_det (shown16_call) rfl rfl ?_ | refine Ev.call_det (hE) rfl rfl ?_ | refine Ev.call_det (hN) rfl rfl ?_ | refine Ev.call_det (hT) rfl rfl ?_ | refine Ev.call_det (hL) rfl rfl ?_ | refine Ev.call_det (hA) rfl rfl ?_ | refine Ev.call_det (hV) rfl rfl ?_); conv => whnf) | ((first | refine Ev.call_det (shown16_call) ?_ rfl ?_ | refine Ev.call_det (hE) ?_ rfl ?_ | refine Ev.call_det (hN) ?_ rfl ?_ | refine Ev.call_det (hT) ?_ rfl ?_ | refine Ev.call_det (hL) ?_ rfl ?_ | refine Ev.call_det (hA) ?_ rfl ?_ | refine Ev.call_det (hV) ?_ rfl ?_); (focus (repeat' (first | with_reducible rfl | refine Ev.cons_eq ?_ ?_)) <;> (first | rfl | (refine Ev.lst_eq (Ev.take_all ?_ rfl); first | omega | (simp; done) | (simp; omega)) | (refine Ev.int_eq ?_; omega) | (simp; done))); conv => whnf) | ((refine Ev.el_map0 ?_ (fun hi => ?_)); rotate_left; conv => whnf) | ((refine Ev.el_mapN ?_ (fun hi => ?_)); rotate_left; conv => whnf) | (refine Ev.Side.of ?_; exact Nat.le_of_ble_eq_true rfl) | (refine Ev.Side.of ?_; omega) | (refine Ev.Side.of ?_; simp only [Ev.wrap64]; omega) | (refine Ev.app_one ?_ rfl ?_ (by decide) <;> (first | omega | (simp; done) | (simp; omega))) | (refine Ev.app_nil1 rfl (by decide)) | (refine Ev.app_ys ?_ ?_ ?_ (by decide) <;> (first | omega | exact sps_all _ | exact bts_all _ | exact ints_all _ | exact spss_all _ | (simp; done) | (simp; omega))) | (refine Ev.app_nil ?_ ?_ (by decide) <;> (first | omega | exact sps_all _ | exact bts_all _ | exact ints_all _ | exact spss_all _ | (simp; done) | (simp; omega))) | (refine Ev.Side.of ?_; first | omega | (simp; done) | (simp; omega)))
    all_goals first | exact ⟨rfl, rfl⟩ | (exfalso; omega)
  | true =>
    have e0 : chE ⟨w, [], []⟩ = 6 := by rw [alone_e w hw, hv]; rfl
    have e1 : chE ⟨w, [0, 1], []⟩ = 6 := by rw [alone_e w hw, hv]; rfl
    have e2 : chE ⟨w, [0], []⟩ = 0 := by rw [alone_e w hw, hv]; rfl
    have e3 : szL' ⟨w, [], []⟩ = [] := by unfold szL'; rw [e0]; rfl
    have e4 : atR ⟨w, [0], []⟩ 0 = (0, w) := by
      unfold atR; rw [e2, if_neg (by simp), if_neg (by simp), allR_ok]
      · rfl
      · rintro ⟨_, e⟩; rw [hv] at e; cases e
    have e5 : chE ⟨w, [r], []⟩ = if r < 0 ∨ 268435455 < r then 6 else 0 := by
      rw [alone_e w hw, hv, if_pos rfl, er]
      by_cases h : r < 0 ∨ 268435455 < r
      · rw [if_pos h, if_neg]; rintro ⟨a, _⟩; simp at a; omega
      · rw [if_neg h, if_pos ⟨by simp; omega, rfl⟩]
    unfold atA at hA
    rw [e5] at hE
    rw [e0] at hN hL
    rw [e1] at hT
    rw [e4] at hA
    rw [e3] at hL
    rw [hv] at hV
    by_cases h : r < 0 ∨ 268435455 < r
    · rw [if_pos h] at hE
      refine Ev.func tabOK [0, 1, 4, 5, 6, 7, 8, 9, 10, 11, 12, 13, 14, 15, 16, 40, 50] 0 Tryd.func9 rfl rfl (by simp [Tryd.ntmps9]) (by rfl) (comp9 _ rfl) (rs := [.tmp 4]) rfl ?_; rw [cc9]; show Ev.Wp _ _ _ _ ⟨[(0, _), (1, _)], [], 0⟩
      repeat' (first | (((with_reducible refine Ev.br_pos ?_ ?_); focus (decide)); conv => whnf) | (((with_reducible refine Ev.br_neg ?_ ?_); focus (decide)); conv => whnf) | (((with_reducible refine Ev.c_pos ?_ ?_); focus (decide))) | (((with_reducible refine Ev.c_neg ?_ ?_); focus (decide))) | (with_reducible refine Ev.br_pos rfl ?_) | (with_reducible refine Ev.c_pos rfl ?_) | (conv in (ByteArray.extract t _ _) => rw [hW]) | ((with_reducible first | refine Ev.sided ?_ ?_ | refine Ev.w_put ?_ | refine Ev.w_step ?_ | refine Ev.w_opt ?_); (conv => whnf)) | ((with_reducible refine Ev.chk_k ?_ ?_); rotate_left; (focus first | rfl | (simp only [Ev.nbeq, Bool.and_true, Bool.true_and, Bool.not_false]; done) | ((repeat' (first | exact Ev.nbeq _ | rfl | refine Bool.and_eq_true_iff.2 ⟨?_, ?_⟩)); done)); conv => whnf) | (with_reducible first | refine Ev.c_dec (fun _ => ?_) (fun _ => ?_) | refine Ev.c_not ?_ | refine Ev.c_t ?_ | refine Ev.c_f ?_ | refine Ev.c_br (fun _ => ?_) (fun _ => ?_)) | ((with_reducible refine Ev.br_not ?_); conv => whnf) | (with_reducible first | refine Ev.br_dec (fun _ => ?_) (fun _ => ?_) | refine Ev.br (fun _ => ?_) (fun _ => ?_) | refine Ev.eo_ret ?_ | refine Ev.eo_norm ?_ | refine Ev.t_norm ?_ | refine Ev.k_seq ?_) | ((with_reducible refine Ev.k_reg (hs := []) (tabOK' _ _) (fun Q hQ => ?_)); (simp only [Ev.runE_cons, Ev.runE_nil]); conv => whnf) | (with_reducible refine hQ _ ?_; clear hQ Q) | (with_reducible first | refine Ev.k_cond rfl ?_ | refine Ev.k_skip ?_ | refine Ev.k_block ?_ | refine Ev.k_exit ?_ | refine Ev.k_ret ?_ | refine Ev.t_ret ?_ | refine Ev.t_exit ?_ | refine Ev.b_norm ?_ | refine Ev.b_ret ?_ | refine Ev.b_here ?_ | refine Ev.b_off rfl ?_) | ((with_reducible first | refine Ev.e_ret (fun F hF => ?_) | refine Ev.e_norm (fun F hF => ?_) | refine Ev.eh_ret (fun F hF => ?_) | refine Ev.eh_norm (fun F hF => ?_) | refine Ev.go_k (fun c' => ?_) | refine Ev.byt_cut ?_ | refine Ev.byt_all ?_ | refine Ev.run_cut ?_ | refine Ev.run_all ?_); conv => whnf) | (with_reducible refine hF _ ?_; clear hF F) | (with_reducible refine Ev.u_step ?_) | ((first | refine Ev.call_det (shown16_call) rfl rfl ?_ | refine Ev.call_det (hE) rfl rfl ?_ | refine Ev.call_det (hN) rfl rfl ?_ | refine Ev.call_det (hT) rfl rfl ?_ | refine Ev.call_det (hL) rfl rfl ?_ | refine Ev.call_det (hA) rfl rfl ?_ | refine Ev.call_det (hV) rfl rfl ?_); conv => whnf) | ((first | refine Ev.call_det (shown16_call) ?_ rfl ?_ | refine Ev.call_det (hE) ?_ rfl ?_ | refine Ev.call_det (hN) ?_ rfl ?_ | refine Ev.call_det (hT) ?_ rfl ?_ | refine Ev.call_det (hL) ?_ rfl ?_ | refine Ev.call_det (hA) ?_ rfl ?_ | refine Ev.call_det (hV) ?_ rfl ?_); (focus (repeat' (first | with_reducible rfl | refine Ev.cons_eq ?_ ?_)) <;> (first | rfl | (refine Ev.lst_eq (Ev.take_all ?_ rfl); first | omega | (simp; done) | (simp; omega)) | (refine Ev.int_eq ?_; omega) | (simp; done))); conv => whnf) | ((refine Ev.el_map0 ?_ (fun hi => ?_)); rotate_left; conv => whnf) | ((refine Ev.el_mapN ?_ (fun hi => ?_)); rotate_left; conv => whnf) | (refine Ev.Side.of ?_; exact Nat.le_of_ble_eq_true rfl) | (refine Ev.Side.of ?_; omega) | (refine Ev.Side.of ?_; simp only [Ev.wrap64]; omega) | (refine Ev.app_one ?_ rfl ?_ (by decide) <;> (first | omega | (simp; done) | (simp; omega))) | (refine Ev.app_nil1 rfl (by decide)) | (refine Ev.app_ys ?_ ?_ ?_ (by decide) <;> (first | omega | exact sps_all _ | exact bts_all _ | exact ints_all _ | exact spss_all _ | (simp; done) | (simp; omega))) | (refine Ev.app_nil ?_ ?_ (by decide) <;> (first | omega | exact sps_all _ | exact bts_all _ | exact ints_all _ | exact spss_all _ | (simp; done) | (simp; omega))) | (refine Ev.Side.of ?_; first | omega | (simp; done) | (simp; omega)))
      all_goals first | exact ⟨rfl, rfl⟩ | (exfalso; omega)
    · rw [if_neg h] at hE
      refine Ev.func tabOK [0, 1, 4, 5, 6, 7, 8, 9, 10, 11, 12, 13, 14, 15, 16, 40, 50] 0 Tryd.func9 rfl rfl (by simp [Tryd.ntmps9]) (by rfl) (comp9 _ rfl) (rs := [.tmp 4]) rfl ?_; rw [cc9]; show Ev.Wp _ _ _ _ ⟨[(0, _), (1, _)], [], 0⟩
      repeat' (first | (((with_reducible refine Ev.br_pos ?_ ?_); focus (decide)); conv => whnf) | (((with_reducible refine Ev.br_neg ?_ ?_); focus (decide)); conv => whnf) | (((with_reducible refine Ev.c_pos ?_ ?_); focus (decide))) | (((with_reducible refine Ev.c_neg ?_ ?_); focus (decide))) | (with_reducible refine Ev.br_pos rfl ?_) | (with_reducible refine Ev.c_pos rfl ?_) | (conv in (ByteArray.extract t _ _) => rw [hW]) | ((with_reducible first | refine Ev.sided ?_ ?_ | refine Ev.w_put ?_ | refine Ev.w_step ?_ | refine Ev.w_opt ?_); (conv => whnf)) | ((with_reducible refine Ev.chk_k ?_ ?_); rotate_left; (focus first | rfl | (simp only [Ev.nbeq, Bool.and_true, Bool.true_and, Bool.not_false]; done) | ((repeat' (first | exact Ev.nbeq _ | rfl | refine Bool.and_eq_true_iff.2 ⟨?_, ?_⟩)); done)); conv => whnf) | (with_reducible first | refine Ev.c_dec (fun _ => ?_) (fun _ => ?_) | refine Ev.c_not ?_ | refine Ev.c_t ?_ | refine Ev.c_f ?_ | refine Ev.c_br (fun _ => ?_) (fun _ => ?_)) | ((with_reducible refine Ev.br_not ?_); conv => whnf) | (with_reducible first | refine Ev.br_dec (fun _ => ?_) (fun _ => ?_) | refine Ev.br (fun _ => ?_) (fun _ => ?_) | refine Ev.eo_ret ?_ | refine Ev.eo_norm ?_ | refine Ev.t_norm ?_ | refine Ev.k_seq ?_) | ((with_reducible refine Ev.k_reg (hs := []) (tabOK' _ _) (fun Q hQ => ?_)); (simp only [Ev.runE_cons, Ev.runE_nil]); conv => whnf) | (with_reducible refine hQ _ ?_; clear hQ Q) | (with_reducible first | refine Ev.k_cond rfl ?_ | refine Ev.k_skip ?_ | refine Ev.k_block ?_ | refine Ev.k_exit ?_ | refine Ev.k_ret ?_ | refine Ev.t_ret ?_ | refine Ev.t_exit ?_ | refine Ev.b_norm ?_ | refine Ev.b_ret ?_ | refine Ev.b_here ?_ | refine Ev.b_off rfl ?_) | ((with_reducible first | refine Ev.e_ret (fun F hF => ?_) | refine Ev.e_norm (fun F hF => ?_) | refine Ev.eh_ret (fun F hF => ?_) | refine Ev.eh_norm (fun F hF => ?_) | refine Ev.go_k (fun c' => ?_) | refine Ev.byt_cut ?_ | refine Ev.byt_all ?_ | refine Ev.run_cut ?_ | refine Ev.run_all ?_); conv => whnf) | (with_reducible refine hF _ ?_; clear hF F) | (with_reducible refine Ev.u_step ?_) | ((first | refine Ev.call_det (shown16_call) rfl rfl ?_ | refine Ev.call_det (hE) rfl rfl ?_ | refine Ev.call_det (hN) rfl rfl ?_ | refine Ev.call_det (hT) rfl rfl ?_ | refine Ev.call_det (hL) rfl rfl ?_ | refine Ev.call_det (hA) rfl rfl ?_ | refine Ev.call_det (hV) rfl rfl ?_); conv => whnf) | ((first | refine Ev.call_det (shown16_call) ?_ rfl ?_ | refine Ev.call_det (hE) ?_ rfl ?_ | refine Ev.call_det (hN) ?_ rfl ?_ | refine Ev.call_det (hT) ?_ rfl ?_ | refine Ev.call_det (hL) ?_ rfl ?_ | refine Ev.call_det (hA) ?_ rfl ?_ | refine Ev.call_det (hV) ?_ rfl ?_); (focus (repeat' (first | with_reducible rfl | refine Ev.cons_eq ?_ ?_)) <;> (first | rfl | (refine Ev.lst_eq (Ev.take_all ?_ rfl); first | omega | (simp; done) | (simp; omega)) | (refine Ev.int_eq ?_; omega) | (simp; done))); conv => whnf) | ((refine Ev.el_map0 ?_ (fun hi => ?_)); rotate_left; conv => whnf) | ((refine Ev.el_mapN ?_ (fun hi => ?_)); rotate_left; conv => whnf) | (refine Ev.Side.of ?_; exact Nat.le_of_ble_eq_true rfl) | (refine Ev.Side.of ?_; omega) | (refine Ev.Side.of ?_; simp only [Ev.wrap64]; omega) | (refine Ev.app_one ?_ rfl ?_ (by decide) <;> (first | omega | (simp; done) | (simp; omega))) | (refine Ev.app_nil1 rfl (by decide)) | (refine Ev.app_ys ?_ ?_ ?_ (by decide) <;> (first | omega | exact sps_all _ | exact bts_all _ | exact ints_all _ | exact spss_all _ | (simp; done) | (simp; omega))) | (refine Ev.app_nil ?_ ?_ (by decide) <;> (first | omega | exact sps_all _ | exact bts_all _ | exact ints_all _ | exact spss_all _ | (simp; done) | (simp; omega))) | (refine Ev.Side.of ?_; first | omega | (simp; done) | (simp; omega)))
      all_goals first | exact ⟨rfl, rfl⟩ | (exfalso; omega)
end Go.Proofs.YthdjbgbfboppcaaDoor.Abs

namespace Go.Proofs.YthdjbgbfboppcaaDoor
open Go Go.ChangeShapes Go.WideShapes Go.ChangeAt Go.RowKit
open Go.ChangeMaps (open_string shut_string)
set_option linter.unusedVariables false
theorem chainAlone_list : Rows.chainAloneRow.laid = Rows.wordsTakenRow.laid := by rfl
set_option maxRecDepth 100000 in
theorem chainAlone_lifted (os : Os) (started : os.Started) (H : Type) (enc : TypeId × Value → H) :
    ReturnsInHanded {} Tryd.checked os 9 .any (fun w args => (Rows.chainAloneSpec.pre enc Tryd.prog Tryd.f9 [] false w args ∧ laidMetH Tryd.prog Rows.chainAloneRow.laid w) ∧ sizedMet enc Tryd.prog Tryd.f9 (OpenSpec.ofChange Rows.chainAloneSpec) false w args)
      (Rows.chainAloneSpec.post enc Tryd.prog Tryd.f9 false true false false) := by
  refine returnsInHanded_of_change_and (C := Tryd.checked) (X := fun w _ => laidMetH Tryd.prog Rows.chainAloneRow.laid w) (fun _ _ _ hh h => h.of_heap hh) own started (by kernel_rfl) Tryd.func9
    (ChangeSpec.witness_at (enc := enc) (C := Tryd.checked) (os := os) (X := fun w _ => laidMetH Tryd.prog Rows.chainAloneRow.laid w) false (laidWorld os) #[.string ⟨#[]⟩, .int .i64 0] 8 rfl (by kernel_rfl) (by kernel_rfl) (by kernel_rfl) (by kernel_rfl) (by kernel_rfl) (by rw [chainAlone_list]; exact laid_metH os _)) ?_
  intro W base args ds gs before hval0 hW _ _ hL _
  have hval : ∀ (j : Nat) t v, Tryd.f9.params[j]? = some t → args[j]? = some v → Value.okWide Tryd.prog W .any base t v := hval0
  have hW' := hW
  obtain ⟨p, q, hA0, hV, rfl, hfz, hnd⟩ := hW
  have hA : DataW.TrodAll enc Tryd.prog W 0 (fun _ => true) true Tryd.f9.params.toList args.toList ds p := hA0
  rw [Tryd.params9] at hA hval
  obtain ⟨v0, vs0, d0, ds0, p0, q0, hargs, rfl, rfl, h0, r0⟩ := trodAll_cons hA
  obtain ⟨v1, vs1, d1, ds1, p1, q1, rfl, rfl, rfl, h1, r1⟩ := trodAll_cons r0
  obtain ⟨rfl, rfl, rfl⟩ := trodAll_nil r1
  obtain rfl : args = #[v0, v1] := by cases args; simp_all
  obtain ⟨rfl, rfl⟩ := trodVars_none hV
  have w0 := hval 0 9 v0 rfl rfl
  obtain ⟨a0, g0, b0⟩ : ∃ a : ByteArray, a.size ≤ maxLen ∧ Abs.PRel (Abs.fullM W) (.v (.string a)) v0 := by
    obtain ⟨n, e, _, _, w⟩ := open_string Tryd.underlying9 w0 h0
    exact ⟨n, w, by rw [e]; exact .v _⟩
  have w1 := hval 1 3 v1 rfl rfl
  obtain ⟨a1, g1, b1⟩ : ∃ a, (Lit.int .i64 a).wf = true ∧ Abs.PRel (Abs.fullM W) (.v (.int .i64 a)) v1 := by
    obtain ⟨n, e, _, _, w⟩ := open_int Tryd.underlying3 w1 h1
    exact ⟨n, w, by rw [e]; exact .v _⟩
  have hG := globs_of_laid (by rw [chainAlone_list] at hL; exact hL)
  have hC := Abs.chainAlone_call a0 a1 (by have := bounds_i64 g1; omega)
  refine (Abs.law_full hC (vs := #[v0, v1]) hG rfl (fun i x v hx hv => ?_)).mono ?_
  · rcases i with _ | _ | i <;> simp at hx hv <;> subst hx <;> subst hv <;> assumption
  rintro e W' ⟨rfl, bel⟩
  exact ⟨_, rfl, _, _, _, [], _, [], hW', trodAll_mk1 (shut_bool Tryd.underlying4 _), trodAll_cons_mk (Below.trod (by kernel_rfl) (by kernel_rfl) (of_decide_eq_true (by kernel_rfl)) h0 bel (let ⟨_, hf⟩ := h0; DataW.trod_lt _ _ _ _ hf)) (trodAll_cons_mk (Below.trod (by kernel_rfl) (by kernel_rfl) (of_decide_eq_true (by kernel_rfl)) h1 bel (let ⟨_, hf⟩ := h1; DataW.trod_lt _ _ _ _ hf)) (trodAll_mk0)), rfl, bel.frame _, fun h => by cases h⟩
theorem chainAlone_holds : Rows.ChainAloneSaid :=
  OpenClaim.holds_of_wide 9 Tryd.f9 rfl rfl rfl rfl rfl rfl rfl ⟨rfl, rfl, rfl, rfl, rfl⟩ rfl rfl rfl rfl rfl (by kernel_rfl) Tryd.func9 (by kernel_rfl)
    (of_decide_eq_true (by kernel_rfl)) (by unfold Func.isWrapper; first | (rw [if_pos (by decide +kernel)]; kernel_rfl) | (rw [if_neg (by decide +kernel)]; exact ⟨rfl, rfl⟩))
    (fun os started H enc _ => chainAlone_lifted os started H enc)
theorem chainAlone_card_holds : Rows.ChainAloneCardSaid :=
  Claim7.holds_tied_plain_at .later [] [.data, .data, .pinned] true (true, "150321277a3984d84d245d0b5218c155a5808e68a39a0d8efc7b1b6f7c0b0c8a") false
    chainAlone_holds (fun _ h => by cases h) (by kernel_rfl) (fun _ h => by cases h) chainAlone_row_tie rfl ⟨rfl, rfl⟩ (by kernel_rfl) rfl
    (fun f fn hf hfn => by
      obtain rfl : f = 9 := Option.some.inj ((show Tryd.prog.funcNamed "epitome/epitomelaw16.ChainAlone" = some 9 by kernel_rfl).symm.trans hf) |>.symm
      obtain rfl : fn = Tryd.f9 := (Option.some.inj (Tryd.func9.symm.trans hfn)).symm
      exact ⟨by kernel_rfl, fun j t ht => by
        rw [Tryd.params9] at ht
        have h3 : t = 3 ∨ t = 9 := by
          rcases j with _ | _ | j <;> simp at ht <;> subst ht <;> simp
        rcases h3 with rfl | rfl
        · exact (show Tryd.prog.wantsStandIn 3 = false by kernel_rfl)
        · exact (show Tryd.prog.wantsStandIn 9 = false by kernel_rfl)⟩)
    (by kernel_rfl)
end Go.Proofs.YthdjbgbfboppcaaDoor
