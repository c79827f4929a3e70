/- The law SpanTexts, walked. -/
import Derived.Test.YtdgpilapblipbaaDoorFnM
namespace Go.Proofs.YtdgpilapblipbaaDoor.Abs
open Go
set_option maxRecDepth 100000
set_option linter.unusedSimpArgs false
set_option linter.unusedVariables false
attribute [local irreducible] Ev.FinL Ev.brC Ev.Side Ev.Wp Ev.Again Ev.To Ev.Fin
open Go.Lib Go.RowKit
theorem or_big : ∀ c : Fin 256, 128 ≤ bitsOf .or .u8 128 (c.val : Int) ∧ bitsOf .or .u8 128 (c.val : Int) < 256 := by decide
theorem app_list (a b : ByteArray) : (a ++ b).data.toList = a.data.toList ++ b.data.toList := by simp
theorem odd_bad (l : List Int) (h : Eight l) (b : UInt8) (hb : 128 ≤ b.toNat) : validD (encB l ++ [b, 97]) = false := by
  rw [valid_enc h, validD_step (by simp)]
  have : decodeL [b, 97] = (65533, 1) := by
    rw [decodeL_N]
    simp only [decodeN, List.length_cons, List.length_nil, List.getD_cons_zero, List.getD_cons_succ, List.getD_nil]
    rw [if_neg (by omega), if_neg (by intro h; have := h.2.2; revert this; decide), if_neg (by intro h; have := h.2.1.2; revert this; decide), if_neg (by intro h; have := h.2.1.2; revert this; decide)]
  rw [if_pos this]
def cc5 : CC := (.seq (.reg 0 [⟨0, some 6, (.assign (.const (.bool false))), none⟩]) (.seq (.reg 1 [⟨0, some 14, (.call { callee := .value (.func 10), args := #[], argTypes := #[] }), none⟩, ⟨1, some 7, (.assign (.tmp 14)), none⟩]) (.seq (.reg 2 [⟨0, some 15, (.move (.tmp 0)), none⟩, ⟨1, some 16, (.move (.tmp 0)), none⟩, ⟨2, some 17, (.call { callee := .builtin .len, args := #[.tmp 16], argTypes := #[9] }), none⟩, ⟨3, some 18, (.call { callee := .builtin .min, args := #[.tmp 17, .const (.int .i64 100)], argTypes := #[3, 3] }), none⟩, ⟨4, some 19, (.slice 9 (.tmp 15) none (some (.tmp 18)) none), none⟩, ⟨5, some 20, (.call { callee := .value (.func 18), args := #[.tmp 19], argTypes := #[9] }), none⟩, ⟨6, some 8, (.assign (.tmp 20)), none⟩]) (.seq (.reg 3 [⟨0, some 21, (.move (.tmp 1)), none⟩, ⟨1, some 22, (.move (.tmp 1)), none⟩, ⟨2, some 23, (.call { callee := .builtin .len, args := #[.tmp 22], argTypes := #[9] }), none⟩, ⟨3, some 24, (.call { callee := .builtin .min, args := #[.tmp 23, .const (.int .i64 100)], argTypes := #[3, 3] }), none⟩, ⟨4, some 25, (.slice 9 (.tmp 21) none (some (.tmp 24)) none), none⟩, ⟨5, some 26, (.call { callee := .value (.func 18), args := #[.tmp 25], argTypes := #[9] }), none⟩, ⟨6, some 9, (.assign (.tmp 26)), none⟩]) (.seq (.reg 4 [⟨0, some 27, (.move (.tmp 8)), none⟩, ⟨1, some 28, (.build 23 #[(0, .const (.int .i64 2)), (2, .tmp 27)]), none⟩, ⟨2, some 10, (.alloc 23), none⟩, ⟨3, none, (.store 23 (.tmp 10) (.tmp 28)), none⟩]) (.seq (.reg 5 [⟨0, some 29, (.move (.tmp 9)), none⟩, ⟨1, some 30, (.build 23 #[(0, .const (.int .i64 2)), (2, .tmp 29)]), none⟩, ⟨2, some 11, (.alloc 23), none⟩, ⟨3, none, (.store 23 (.tmp 11) (.tmp 30)), none⟩]) (.seq (.reg 6 [⟨0, some 31, (.move (.tmp 8)), none⟩, ⟨1, some 32, (.move (.tmp 9)), none⟩, ⟨2, some 33, (.binOp .add 9 (.tmp 31) (.tmp 32) 9), none⟩, ⟨3, some 34, (.build 23 #[(0, .const (.int .i64 2)), (2, .tmp 33)]), none⟩, ⟨4, some 12, (.alloc 23), none⟩, ⟨5, none, (.store 23 (.tmp 12) (.tmp 34)), none⟩]) (.seq (.reg 7 [⟨0, some 35, (.move (.tmp 8)), none⟩, ⟨1, some 36, (.move (.tmp 2)), none⟩, ⟨2, some 37, (.binOp .or 5 (.const (.int .u8 128)) (.tmp 36) 5), none⟩, ⟨3, some 38, (.buildSlice 33 1 #[(0, .tmp 37)]), none⟩, ⟨4, some 39, (.convert 33 9 (.tmp 38)), none⟩, ⟨5, some 40, (.binOp .add 9 (.tmp 35) (.tmp 39) 9), none⟩, ⟨6, some 41, (.binOp .add 9 (.tmp 40) (.const (.string { data := #[97] })) 9), none⟩, ⟨7, some 42, (.build 23 #[(0, .const (.int .i64 2)), (2, .tmp 41)]), none⟩, ⟨8, some 13, (.alloc 23), none⟩, ⟨9, none, (.store 23 (.tmp 13) (.tmp 42)), none⟩]) (.seq (.draw 8 [⟨0, some 43, (.move (.tmp 7)), none⟩, ⟨1, some 44, (.move (.tmp 43)), none⟩, ⟨2, some 45, (.load 23 (.tmp 12)), (some (44, true))⟩, ⟨3, some 46, (.call { callee := .value (.func 16), args := #[.tmp 45], argTypes := #[23] }), (some (44, true))⟩, ⟨4, some 47, (.load 23 (.tmp 10)), (some (44, true))⟩, ⟨5, some 48, (.call { callee := .value (.func 16), args := #[.tmp 47], argTypes := #[23] }), (some (44, true))⟩, ⟨6, some 49, (.load 23 (.tmp 11)), (some (44, true))⟩, ⟨7, some 50, (.call { callee := .value (.func 16), args := #[.tmp 49], argTypes := #[23] }), (some (44, true))⟩, ⟨8, some 51, (.binOp .add 3 (.tmp 48) (.tmp 50) 3), (some (44, true))⟩, ⟨9, some 52, (.binOp .eql 3 (.tmp 46) (.tmp 51) 3), (some (44, true))⟩, ⟨10, some 53, (.pick (.tmp 44) (.tmp 52) (.const (.bool false))), none⟩, ⟨11, some 54, (.move (.tmp 53)), none⟩, ⟨12, some 55, (.load 23 (.tmp 12)), (some (54, true))⟩, ⟨13, some 56, (.call { callee := .value (.func 14), args := #[.tmp 55], argTypes := #[23] }), (some (54, true))⟩, ⟨14, some 57, (.binOp .eql 3 (.tmp 56) (.const (.int .i64 0)) 3), (some (54, true))⟩, ⟨15, some 58, (.pick (.tmp 54) (.tmp 57) (.const (.bool false))), none⟩, ⟨16, some 59, (.move (.tmp 58)), none⟩, ⟨17, some 60, (.load 23 (.tmp 12)), (some (59, true))⟩, ⟨18, some 61, (.call { callee := .value (.func 12), args := #[.tmp 60], argTypes := #[23] }), (some (59, true))⟩, ⟨19, some 62, (.binOp .eql 26 (.tmp 61) (.const (.int .i64 0)) 26), (some (59, true))⟩, ⟨20, some 63, (.pick (.tmp 59) (.tmp 62) (.const (.bool false))), none⟩, ⟨21, some 64, (.move (.tmp 63)), none⟩, ⟨22, some 65, (.load 23 (.tmp 13)), (some (64, true))⟩, ⟨23, some 66, (.call { callee := .value (.func 12), args := #[.tmp 65], argTypes := #[23] }), (some (64, true))⟩, ⟨24, some 67, (.binOp .eql 26 (.tmp 66) (.const (.int .i64 3)) 26), (some (64, true))⟩, ⟨25, some 68, (.pick (.tmp 64) (.tmp 67) (.const (.bool false))), none⟩, ⟨26, some 69, (.move (.tmp 68)), none⟩, ⟨27, some 70, (.load 23 (.tmp 13)), (some (69, true))⟩, ⟨28, some 71, (.call { callee := .value (.func 16), args := #[.tmp 70], argTypes := #[23] }), (some (69, true))⟩, ⟨29, some 72, (.binOp .eql 3 (.tmp 71) (.const (.int .i64 0)) 3), (some (69, true))⟩, ⟨30, some 73, (.pick (.tmp 69) (.tmp 72) (.const (.bool false))), none⟩, ⟨31, some 6, (.assign (.tmp 73)), none⟩] [[], [0], [1], [2, 1, 1], [1], [4, 3, 1], [1], [6, 5, 1], [5, 7, 1], [3, 8, 1], [1, 9], [10, 7], [11], [12, 11, 11], [13, 11], [11, 14], [15, 13], [16], [17, 16, 16], [18, 16], [16, 19], [20, 18], [21], [22, 21, 21], [23, 21], [21, 24], [25, 23], [26], [27, 26, 26], [28, 26], [26, 29], [30, 28, 0, 1, 2, 3, 4, 5, 6, 7, 8, 9, 10, 11, 12, 13, 14, 15, 16, 17, 18, 19, 20, 21, 22, 23, 24, 25, 26, 27, 28, 29, 30]]) .ret)))))))))
theorem comp5 : ∀ c, Tryd.f5.body = some c → comp c = cc5 := by
  intro c h
  have : c = Tryd.f5.body.get rfl := by rw [← Option.some_inj, ← h]; rfl
  rw [this]; rfl
def oddS (X : ByteArray) (c : Int) : ByteArray := X ++ ⟨#[UInt8.ofNat (bitsOf .or .u8 128 c).toNat]⟩ ++ ⟨#[97]⟩
set_option maxHeartbeats 2000000 in
theorem spanTexts_core (q r : Int) (a b X Y : ByteArray) (c : Int) (ha : (a.extract 0 (min a.size 100)).size ≤ 100) (hb : (b.extract 0 (min b.size 100)).size ≤ 100) (hm : (min (a.size : Int) 100).toNat = min a.size 100) (hm' : (min (b.size : Int) 100).toNat = min b.size 100)
    (hX : X.size ≤ 4000) (hY : Y.size ≤ 4000) (hq : 0 ≤ q ∧ q ≤ 1000) (hr : 0 ≤ r ∧ r ≤ 1000)
    (hF : CallW env 18 [.v (.string (a.extract 0 (min a.size 100)))] (fun r hs => r = .v (.string X) ∧ hs = [])) (hG : CallW env 18 [.v (.string (b.extract 0 (min b.size 100)))] (fun r hs => r = .v (.string Y) ∧ hs = []))
    (o1 : CallW env 16 [spanA 2 0 X] (fun z hs => z = .v (.int .i64 q) ∧ hs = [])) (o2 : CallW env 16 [spanA 2 0 Y] (fun z hs => z = .v (.int .i64 r) ∧ hs = []))
    (o3 : CallW env 16 [spanA 2 0 (X ++ Y)] (fun z hs => z = .v (.int .i64 (q + r)) ∧ hs = [])) (i3 : CallW env 14 [spanA 2 0 (X ++ Y)] (fun z hs => z = .v (.int .i64 0) ∧ hs = []))
    (m3 : CallW env 12 [spanA 2 0 (X ++ Y)] (fun z hs => z = .v (.int .i64 0) ∧ hs = [])) (m4 : CallW env 12 [spanA 2 0 (oddS X c)] (fun z hs => z = .v (.int .i64 3) ∧ hs = []))
    (o4 : CallW env 16 [spanA 2 0 (oddS X c)] (fun z hs => z = .v (.int .i64 0) ∧ hs = [])) :
    CallW env 5 [.v (.string a), .v (.string b), .v (.int .u8 c)] (fun r hs => r = .v (.bool true) ∧ hs = []) := by
  have hw : q + r = IntKind.i64.wrap (q + r) := by rw [Ev.wrap64]; omega
  have hmx : 2000000003 ≤ maxLen := by decide
  have e1 : (⟨[UInt8.ofNat (bitsOf BinOp.or IntKind.u8 128 c).toNat].reverse.toArray⟩ : ByteArray).size = 1 := rfl
  have e2 : (⟨#[97]⟩ : ByteArray).size = 1 := rfl
  refine Ev.func tabOK [0, 1, 2, 6, 7, 8, 9, 10, 11, 12, 13] 0 Tryd.func5 rfl rfl (by simp [Tryd.ntmps5]) (by rfl) (comp5 _ rfl) (rs := [.tmp 6]) rfl ?_; rw [cc5]; show Ev.Wp _ _ _ _ ⟨[(0, _), (1, _), (2, _)], [], 0⟩
  repeat' (first | (with_reducible refine Ev.br_pos rfl ?_) | (with_reducible refine Ev.c_pos rfl ?_) | (with_reducible refine Ev.br_pos hw ?_) | (with_reducible refine Ev.c_pos hw ?_) | ((with_reducible refine Ev.sided ?_ ?_); (conv => whnf)) | ((with_reducible refine Ev.w_put ?_); (conv => whnf)) | ((with_reducible refine Ev.w_step ?_); (conv => whnf)) | ((with_reducible refine Ev.w_opt ?_); (conv => whnf)) | ((with_reducible refine Ev.chk_k ?_ ?_); rotate_left; (focus first | rfl | (simp only [Ev.nbeq, Bool.and_true, Bool.true_and, Bool.not_false]; done)); conv => whnf) | with_reducible refine Ev.c_dec (fun _ => ?_) (fun _ => ?_) | with_reducible refine Ev.c_not ?_ | with_reducible refine Ev.c_t ?_ | with_reducible refine Ev.c_f ?_ | with_reducible refine Ev.c_br (fun _ => ?_) (fun _ => ?_) | ((with_reducible refine Ev.br_not ?_); conv => whnf) | with_reducible refine Ev.br_dec (fun _ => ?_) (fun _ => ?_) | with_reducible refine Ev.br (fun _ => ?_) (fun _ => ?_) | with_reducible refine Ev.eo_ret ?_ | with_reducible refine Ev.eo_norm ?_ | with_reducible refine Ev.t_norm ?_ | with_reducible refine Ev.k_seq ?_ | ((with_reducible refine Ev.k_reg (hs := []) (tabOK' _ _) (fun Q hQ => ?_)); (simp only [Ev.runE_cons, Ev.runE_nil]); conv => whnf) | (with_reducible refine hQ _ ?_; clear hQ Q) | with_reducible refine Ev.k_cond rfl ?_ | with_reducible refine Ev.k_skip ?_ | with_reducible refine Ev.k_block ?_ | with_reducible refine Ev.k_exit ?_ | with_reducible refine Ev.k_ret ?_ | with_reducible refine Ev.t_ret ?_ | with_reducible refine Ev.t_exit ?_ | with_reducible refine Ev.b_norm ?_ | with_reducible refine Ev.b_ret ?_ | with_reducible refine Ev.b_here ?_ | with_reducible refine Ev.b_off rfl ?_ | ((with_reducible refine Ev.e_ret (fun F hF => ?_)); conv => whnf) | ((with_reducible refine Ev.e_norm (fun F hF => ?_)); conv => whnf) | (with_reducible refine hF _ ?_; clear hF F) | ((refine Ev.call_det shown_call rfl rfl ?_); conv => whnf) | ((refine Ev.call_det hF (by rw [hm]) rfl ?_); conv => whnf) | ((refine Ev.call_det hG (by rw [hm']) rfl ?_); conv => whnf) | ((refine Ev.call_det o1 rfl rfl ?_); conv => whnf) | ((refine Ev.call_det o2 rfl rfl ?_); conv => whnf) | ((refine Ev.call_det o3 rfl rfl ?_); conv => whnf) | ((refine Ev.call_det i3 rfl rfl ?_); conv => whnf) | ((refine Ev.call_det m3 rfl rfl ?_); conv => whnf) | ((refine Ev.call_det m4 rfl rfl ?_); conv => whnf) | ((refine Ev.call_det o4 rfl rfl ?_); conv => whnf) | ((refine Ev.k_draw (id := 8) (hs := []) (tabOK' _ _) (mixed' _ _) [0, 1, 2, 4, 6, 3, 5, 7, 8, 9, 10, 11, 12, 13, 14, 15, 16, 17, 18, 19, 20, 21, 22, 23, 24, 25, 26, 27, 28, 29, 30, 31] (by decide) rfl rfl (fun Q hQ => ?_)); (simp only [Ev.runE_cons, Ev.runE_nil]); conv => whnf) | (refine Ev.Side.of ?_; exact Nat.le_of_ble_eq_true rfl))
  all_goals first | exact ⟨rfl, rfl⟩ | exact ⟨congrArg (fun b => AV.v (Value.bool b)) (decide_eq_true rfl), rfl⟩ | (refine Ev.Side.of ?_; omega) | (rename_i z; exact absurd rfl z) | (refine Ev.Side.of ?_; simp only [ByteArray.size_append, e1, e2]; omega)
theorem spanTexts_call (a b : ByteArray) (c : Int) (hc : 0 ≤ c ∧ c < 256) : CallW env 5 [.v (.string a), .v (.string b), .v (.int .u8 c)] (fun r hs => r = .v (.bool true) ∧ hs = []) := by
  have ha := cut_size a
  have hb := cut_size b
  have hm : (min (a.size : Int) 100).toNat = min a.size 100 := by omega
  have hm' : (min (b.size : Int) 100).toNat = min b.size 100 := by omega
  have hX := fit_size _ (by omega : (a.extract 0 (min a.size 100)).size ≤ 1000)
  have hY := fit_size _ (by omega : (b.extract 0 (min b.size 100)).size ≤ 1000)
  have hF := fit_call _ (by omega : (a.extract 0 (min a.size 100)).size ≤ 1000000)
  have hG := fit_call _ (by omega : (b.extract 0 (min b.size 100)).size ≤ 1000000)
  have lX := fit_list (a.extract 0 (min a.size 100))
  have lY := fit_list (b.extract 0 (min b.size 100))
  have cX := fit_count (a.extract 0 (min a.size 100))
  have cY := fit_count (b.extract 0 (min b.size 100))
  generalize hx : fitS (a.extract 0 (min a.size 100)) = X at *
  generalize hy : fitS (b.extract 0 (min b.size 100)) = Y at *
  have eX := eight_fit (a.extract 0 (min a.size 100)) (a.extract 0 (min a.size 100)).size
  have eY := eight_fit (b.extract 0 (min b.size 100)) (b.extract 0 (min b.size 100)).size
  have eXY : Eight (fitL (a.extract 0 (min a.size 100)) (a.extract 0 (min a.size 100)).size ++ fitL (b.extract 0 (min b.size 100)) (b.extract 0 (min b.size 100)).size) := by
    intro n hn; rcases List.mem_append.1 hn with h | h
    · exact eX n h
    · exact eY n h
  have lXY : (X ++ Y).data.toList = encB (fitL (a.extract 0 (min a.size 100)) (a.extract 0 (min a.size 100)).size ++ fitL (b.extract 0 (min b.size 100)) (b.extract 0 (min b.size 100)).size) := by
    rw [app_list, lX, lY, encB_app]
  have cXY : countD (X ++ Y).data.toList = countD X.data.toList + countD Y.data.toList := by
    rw [lXY, count_all eXY, cX, cY, List.length_append, fitL_len, fitL_len]; simp
  have vXY : validD (X ++ Y).data.toList = true := by rw [lXY]; exact valid_all eXY
  have sXY : (X ++ Y).size ≤ 1000000000 := by rw [ByteArray.size_append]; omega
  have lO : (oddS X c).data.toList = encB (fitL (a.extract 0 (min a.size 100)) (a.extract 0 (min a.size 100)).size) ++ [UInt8.ofNat (bitsOf .or .u8 128 c).toNat, 97] := by
    unfold oddS; rw [app_list, app_list, lX]; simp
  have bO := or_big ⟨c.toNat, by omega⟩
  have ec : ((c.toNat : Nat) : Int) = c := by omega
  simp only [ec] at bO
  have vO : validD (oddS X c).data.toList = false := by
    rw [lO]; exact odd_bad _ eX _ (by rw [UInt8.toNat_ofNat']; omega)
  have sO : (oddS X c).size ≤ 1000000000 := by
    unfold oddS; rw [ByteArray.size_append, ByteArray.size_append]
    have e1 : (⟨#[UInt8.ofNat (bitsOf BinOp.or IntKind.u8 128 c).toNat]⟩ : ByteArray).size = 1 := rfl
    have e2 : (⟨#[97]⟩ : ByteArray).size = 1 := rfl
    omega
  have oF : ∀ Z : ByteArray, Z.size ≤ 1000000000 → ∀ q, max (countD Z.data.toList) 0 = q → CallW env 16 [spanA 2 0 Z] (fun z hs => z = .v (.int .i64 q) ∧ hs = []) := by
    intro Z hZ q hq
    have h := out_call 2 0 Z hZ
    rwa [show outF 2 0 Z = q by simp [outF]; exact hq] at h
  have mF : ∀ Z : ByteArray, Z.size ≤ 1000000000 → ∀ q, (if validD Z.data.toList then (0 : Int) else 3) = q → CallW env 12 [spanA 2 0 Z] (fun z hs => z = .v (.int .i64 q) ∧ hs = []) := by
    intro Z hZ q hq
    have h := may_call 2 0 Z hZ
    rwa [show mayF 2 0 Z = q by simp [mayF]; exact hq] at h
  have i3 : CallW env 14 [spanA 2 0 (X ++ Y)] (fun z hs => z = .v (.int .i64 0) ∧ hs = []) := by have h := in_call 2 0 (X ++ Y); rwa [show inF 2 0 = 0 by simp [inF]] at h
  exact spanTexts_core (countD X.data.toList) (countD Y.data.toList) a b X Y c ha hb hm hm' hX hY (by rw [cX]; omega) (by rw [cY]; omega) hF hG
    (oF X (by omega) _ (by rw [cX]; omega)) (oF Y (by omega) _ (by rw [cY]; omega)) (oF _ sXY _ (by rw [cXY, cX, cY]; omega)) i3 (mF _ sXY 0 (by rw [vXY]; rfl)) (mF _ sO 3 (by rw [vO]; rfl)) (oF _ sO 0 (by unfold countD; rw [vO]; rfl))
end Go.Proofs.YtdgpilapblipbaaDoor.Abs
