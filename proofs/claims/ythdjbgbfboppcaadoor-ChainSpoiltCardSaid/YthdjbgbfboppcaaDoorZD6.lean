/- A part of the proof: a calculus over values, and contracts of functions. No condition. -/
import Derived.Test.YthdjbgbfboppcaaDoorZD5
namespace Go.Proofs.YthdjbgbfboppcaaDoor.Abs
open Go
set_option maxRecDepth 100000
set_option linter.unusedSimpArgs false
set_option linter.unusedVariables false
attribute [local irreducible] Ev.Unr Ev.Go' Ev.bytK Ev.runK Ev.FinL Ev.brC Ev.Side Ev.Wp Ev.Again Ev.To Ev.Fin
open Go.Lib Go.RowKit
def cc26 : CC := (.seq (.reg 0 [⟨0, some 0, (.assign (.const (Value.bool false))), none⟩]) (.seq (.reg 1 [⟨0, some 4, (.buildSlice 40 2 #[(0, .const (Value.int .i64 0)), (1, .const (Value.int .i64 3))]), none⟩, ⟨1, some 5, (.build 35 #[(0, .const (Value.int .i64 1)), (1, .const (Value.int .i64 2))]), none⟩, ⟨2, some 6, (.build 35 #[(0, .const (Value.int .i64 2)), (2, .const (Value.string { data := #[99] }))]), none⟩, ⟨3, some 7, (.buildSlice 25 2 #[(0, .tmp 5), (1, .tmp 6)]), none⟩, ⟨4, some 8, (.buildSlice 38 1 #[(0, .tmp 7)]), none⟩, ⟨5, some 9, (.build 42 #[(0, .const (Value.string { data := #[97, 98] })), (1, .tmp 4), (2, .tmp 8)]), none⟩, ⟨6, some 1, (.alloc 42), none⟩, ⟨7, none, (.store 42 (.tmp 1) (.tmp 9)), none⟩]) (.seq (.reg 2 [⟨0, some 11, (.load 42 (.tmp 1)), none⟩, ⟨1, some 12, (.call { callee := .value (.func 29), args := #[.tmp 11, .const (Value.int .i64 1)], argTypes := #[42, 3] }), none⟩, ⟨2, some 10, (.move (.tmp 12)), none⟩, ⟨3, some 13, (.extract (.tmp 10) 0), none⟩, ⟨4, some 14, (.extract (.tmp 10) 1), none⟩, ⟨5, some 2, (.assign (.tmp 13)), none⟩, ⟨6, some 3, (.assign (.tmp 14)), none⟩]) (.seq (.reg 3 [⟨0, some 15, (.move (.tmp 2)), none⟩, ⟨1, some 16, (.binOp .eql 9 (.tmp 15) (.const (Value.string { data := #[97, 98, 99] })) 9), none⟩, ⟨2, some 17, (.move (.tmp 16)), none⟩, ⟨3, some 18, (.move (.tmp 3)), (some (17, true))⟩, ⟨4, some 19, (.binOp .eql 26 (.tmp 18) (.const (Value.int .i64 0)) 26), (some (17, true))⟩, ⟨5, some 20, (.pick (.tmp 17) (.tmp 19) (.const (Value.bool false))), none⟩, ⟨6, some 21, (.move (.tmp 20)), none⟩, ⟨7, some 22, (.load 42 (.tmp 1)), (some (21, true))⟩, ⟨8, some 23, (.call { callee := .value (.func 28), args := #[.tmp 22], argTypes := #[42] }), (some (21, true))⟩, ⟨9, some 24, (.binOp .eql 26 (.tmp 23) (.const (Value.int .i64 0)) 26), (some (21, true))⟩, ⟨10, some 25, (.pick (.tmp 21) (.tmp 24) (.const (Value.bool false))), none⟩, ⟨11, some 26, (.move (.tmp 25)), none⟩, ⟨12, some 27, (.build 42 #[]), (some (26, true))⟩, ⟨13, some 28, (.call { callee := .value (.func 28), args := #[.tmp 27], argTypes := #[42] }), (some (26, true))⟩, ⟨14, some 29, (.binOp .eql 26 (.tmp 28) (.const (Value.int .i64 6)) 26), (some (26, true))⟩, ⟨15, some 30, (.pick (.tmp 26) (.tmp 29) (.const (Value.bool false))), none⟩, ⟨16, some 0, (.assign (.tmp 30)), none⟩]) .ret))))
theorem comp26 : ∀ c, Tryd.f26.body = some c → comp c = cc26 := by
  intro c h
  have : c = Tryd.f26.body.get rfl := by rw [← Option.some_inj, ← h]; rfl
  rw [this]; rfl
theorem segE_zero {n : Int} {x : List Sp} (h : segE n x = 0) : opMayF x = 0 ∧ inW x = n ∧ outW x ≤ 1048576 ∧ isN x = true := by
  unfold segE at h
  by_cases h1 : opMayF x = 0
  · rw [if_neg (by simp [h1])] at h
    by_cases h2 : inW x = n
    · rw [if_neg (by simp [h2])] at h
      by_cases h3 : 1048576 < outW x
      · rw [if_pos h3] at h; cases h
      · rw [if_neg h3] at h
        cases h4 : isN x with
        | true => exact ⟨h1, h2, by omega, rfl⟩
        | false => rw [h4] at h; cases h
    · rw [if_pos h2] at h; cases h
  · rw [if_pos h1] at h; exact absurd h h1
theorem segE_of {n : Int} {x : List Sp} (h1 : opMayF x = 0) (h2 : inW x = n) (h3 : outW x ≤ 1048576) (h4 : isN x = true) : segE n x = 0 := by
  unfold segE; rw [if_neg (by simp [h1]), if_neg (by simp [h2]), if_neg (by omega), if_pos h4]
theorem allG_good : ∀ (l : List (List Sp)) (n : Int) (t : ByteArray), validD t.data.toList = true → countD t.data.toList = n → segsE n l = 0 → (∀ x ∈ l, x.length ≤ 100000000) → t.size + totb l ≤ 1000000000 →
    ∃ u, allG l t = (0, u) ∧ validD u.data.toList = true ∧ countD u.data.toList = endN n l ∧ u.size ≤ t.size + totb l
  | [], n, t, hv, hc, _, _, _ => ⟨t, rfl, hv, hc, by simp [totb]⟩
  | x :: l, n, t, hv, hc, hs, hx, hb => by
    have h0 : segE n x = 0 := by
      simp only [segsE] at hs
      by_cases h : segE n x = 0
      · exact h
      · rw [if_neg h] at hs; exact absurd hs h
    simp only [segsE] at hs
    rw [if_pos h0] at hs
    obtain ⟨a1, a2, a3, a4⟩ := segE_zero h0
    rw [totb_cons] at hb
    have hz : toE x t = 0 := toE_of a1 hv (by rw [a2, ← hc, countD_pts hv])
    obtain ⟨b1, b2, b3, b4⟩ := toT_facts hz (by have := hx x (by simp); omega) (by omega)
    obtain ⟨u, c1, c2, c3, c4⟩ := allG_good l (outW x) (toT x t) b1 (by rw [countD_pts b1, b3]) hs (fun y hy => hx y (by simp [hy])) (by omega)
    refine ⟨u, ?_, c2, c3, by rw [totb_cons]; omega⟩
    simp only [allG]; rw [if_pos hz]; exact c1
theorem allG_app : ∀ (a b : List (List Sp)) (t : ByteArray), (allG a t).1 = 0 → allG (a ++ b) t = allG b (allG a t).2
  | [], b, t, _ => rfl
  | x :: a, b, t, h => by
    rw [List.cons_append]
    simp only [allG] at h ⊢
    by_cases h0 : toE x t = 0
    · rw [if_pos h0] at h ⊢; rw [if_pos h0]; exact allG_app a b _ h
    · rw [if_neg h0] at h; exact absurd h h0
theorem chE_zero {c : Lg} (h : chE c = 0) : validD c.base.data.toList = true ∧ countD c.base.data.toList ≤ 1048576 ∧ rises c.revs = true ∧ c.revs.length = c.segs.length + 1 ∧ segsE (countD c.base.data.toList) c.segs = 0 := by
  unfold chE at h
  by_cases h1 : countD c.base.data.toList < 0
  · rw [if_pos h1] at h; cases h
  · rw [if_neg h1] at h
    by_cases h2 : 1048576 < countD c.base.data.toList
    · rw [if_pos h2] at h; cases h
    · rw [if_neg h2] at h
      by_cases h3 : rPutE c.revs ≠ 0 ∨ c.revs.length ≠ c.segs.length + 1
      · rw [if_pos h3] at h; cases h
      · rw [if_neg h3] at h
        refine ⟨?_, by omega, ?_, by omega, h⟩
        · cases hv : validD c.base.data.toList with
          | true => rfl
          | false => rw [countD_bad hv] at h1; omega
        · cases hr : rises c.revs with
          | true => rfl
          | false => exact absurd (.inl (by unfold rPutE; rw [hr]; decide)) h3
theorem chE_of {c : Lg} (h1 : validD c.base.data.toList = true) (h2 : countD c.base.data.toList ≤ 1048576) (h3 : rises c.revs = true) (h4 : c.revs.length = c.segs.length + 1) (h5 : segsE (countD c.base.data.toList) c.segs = 0) : chE c = 0 := by
  have : 0 ≤ countD c.base.data.toList := by rw [countD_pts h1]; omega
  unfold chE
  rw [if_neg (by omega), if_neg (by omega), if_neg, h5]
  rintro (h | h)
  · apply h; unfold rPutE; rw [h3]; rfl
  · exact h h4
theorem segsE_take {l : List (List Sp)} {n : Int} (h : segsE n l = 0) (i : Nat) : segsE n (l.take i) = 0 ∧ segsE (endN n (l.take i)) (l.drop i) = 0 := by
  have e := segsE_app (l.take i) (l.drop i) n
  rw [List.take_append_drop, h] at e
  by_cases h0 : segsE n (l.take i) = 0
  · rw [if_pos h0] at e; exact ⟨h0, e.symm⟩
  · rw [if_neg h0] at e; exact absurd e.symm h0
def atT (c : Lg) (i : Nat) : ByteArray := (allG (c.segs.take i) c.base).2
theorem at_good {c : Lg} (h : chE c = 0) (hx : ∀ x ∈ c.segs, x.length ≤ 100000000) (hb : c.base.size + totb c.segs ≤ 1000000000) (i : Nat) : allG (c.segs.take i) c.base = (0, atT c i) ∧ validD (atT c i).data.toList = true ∧ countD (atT c i).data.toList = endN (countD c.base.data.toList) (c.segs.take i) ∧ (atT c i).size ≤ c.base.size + totb c.segs := by
  obtain ⟨h1, h2, h3, h4, h5⟩ := chE_zero h
  have := totb_take c.segs i
  obtain ⟨u, c1, c2, c3, c4⟩ := allG_good (c.segs.take i) _ c.base h1 rfl (segsE_take h5 i).1 (fun x hx' => hx x (List.mem_of_mem_take hx')) (by omega)
  have : atT c i = u := by unfold atT; rw [c1]
  rw [this]
  exact ⟨c1, c2, c3, by omega⟩
theorem endN_le : ∀ (l : List (List Sp)) (n : Int), segsE n l = 0 → n ≤ 1048576 → endN n l ≤ 1048576
  | [], n, _, h => h
  | x :: l, n, hs, h => by
    simp only [segsE] at hs
    by_cases h0 : segE n x = 0
    · rw [if_pos h0] at hs
      exact endN_le l _ hs (segE_zero h0).2.2.1
    · rw [if_neg h0] at hs; exact absurd hs h0
theorem risesG_low : ∀ (l : List Int) (was w : Int), w ≤ was → risesG was l = true → risesG w l = true
  | [], _, _, _, _ => rfl
  | y :: l, was, w, hw, h => by
    simp only [risesG, Bool.and_eq_true, decide_eq_true_eq] at h ⊢
    exact ⟨⟨by omega, h.1.2⟩, h.2⟩
theorem risesG_drop : ∀ (k : Nat) (l : List Int) (was : Int), -1 ≤ was → risesG was l = true → risesG (-1) (l.drop k) = true
  | 0, l, was, hw, h => risesG_low l was (-1) hw h
  | k + 1, [], _, _, _ => rfl
  | k + 1, y :: l, was, hw, h => by
    simp only [risesG, Bool.and_eq_true, decide_eq_true_eq] at h
    rw [List.drop_succ_cons]
    exact risesG_drop k l y (by omega) h.2
theorem rises_of {l : List Int} (h0 : l ≠ []) (h1 : l.length ≤ 65536) (h2 : risesG (-1) l = true) : rises l = true := by
  unfold rises; rw [h2, decide_eq_true h1]
  cases l with
  | nil => exact absurd rfl h0
  | cons x l => rfl
theorem rises_cut {l : List Int} (h : rises l = true) {k : Nat} (hk : k < l.length) : rises (l.take (k + 1)) = true ∧ rises (l.drop k) = true := by
  unfold rises at h
  simp only [Bool.and_eq_true, decide_eq_true_eq] at h
  refine ⟨rises_of ?_ (by rw [List.length_take]; omega) (risesG_take _ _ _ h.2), rises_of ?_ (by rw [List.length_drop]; omega) (risesG_drop k l (-1) (by omega) h.2)⟩
  · intro e; have := congrArg List.length e; rw [List.length_take, List.length_nil] at this; omega
  · intro e; have := congrArg List.length e; rw [List.length_drop, List.length_nil] at this; omega
theorem cut_good {c : Lg} (h : chE c = 0) (hx : ∀ x ∈ c.segs, x.length ≤ 100000000) (hb : c.base.size + totb c.segs ≤ 1000000000) {k : Nat} (hk : k ≤ c.segs.length) :
    chE ⟨c.base, c.revs.take (k + 1), c.segs.take k⟩ = 0 ∧ chE ⟨atT c k, c.revs.drop k, c.segs.drop k⟩ = 0 ∧ atT ⟨atT c k, c.revs.drop k, c.segs.drop k⟩ (c.segs.length - k) = atT c c.segs.length ∧ atT ⟨c.base, c.revs.take (k + 1), c.segs.take k⟩ k = atT c k := by
  obtain ⟨h1, h2, h3, h4, h5⟩ := chE_zero h
  obtain ⟨g1, g2, g3, g4⟩ := at_good h hx hb k
  obtain ⟨s1, s2⟩ := segsE_take h5 k
  obtain ⟨r1, r2⟩ := rises_cut h3 (k := k) (by omega)
  have hend := endN_le (c.segs.take k) _ s1 h2
  refine ⟨chE_of h1 h2 r1 (by simp only [List.length_take]; omega) s1, chE_of g2 (by rw [g3]; exact hend) r2 (by simp only [List.length_drop]; omega) (by show segsE (countD (atT c k).data.toList) _ = 0; rw [g3]; exact s2), ?_, ?_⟩
  · show (allG ((c.segs.drop k).take (c.segs.length - k)) (atT c k)).2 = (allG (c.segs.take c.segs.length) c.base).2
    rw [List.take_of_length_le (by simp), List.take_length]
    have := allG_app (c.segs.take k) (c.segs.drop k) c.base (by rw [g1])
    rw [List.take_append_drop] at this
    rw [this]; rfl
  · show (allG ((c.segs.take k).take k) c.base).2 = _
    rw [List.take_take, Nat.min_self]; rfl
theorem norm_seg {x : List Sp} (h : opMayF x = 0) (hl : x.length ≤ 1000000000) (ho : outW x ≤ 1048576) : segE (inW x) (norm x) = 0 := by
  obtain ⟨h3, h4⟩ := (opMay_iff x).1 h
  exact segE_of (norm_may h hl) (norm_in h hl) (by rw [norm_out h hl]; exact ho) (norm_isN x h3 (by rw [← inW_sum h3 hl]; exact h4))
theorem chn_segs : ∀ (W : List (List Sp)) (n : Int), Chn n W → segsE n (W.map norm) = 0
  | [], _, _ => rfl
  | x :: W, n, ⟨⟨y, m, e, m1, m2⟩, hin, hr⟩ => by
    have h1 : opMayF x = 0 := by rw [e]; exact fitO_may y (by omega)
    have h2 : x.length ≤ 13 := by rw [e]; exact (fit_tbs y (by omega)).1
    have h3 : outW x ≤ 1048576 := by rw [e]; have := (fit_out y (n := m) (by omega)).2; omega
    have h4 := norm_seg h1 (by omega) h3
    rw [hin] at h4
    rw [List.map_cons]
    simp only [segsE]
    rw [if_pos h4, norm_out h1 (by omega)]
    exact chn_segs W _ hr
theorem rises_range : ∀ n : Nat, n ≤ 1000 → rises ((List.range (n + 1)).map fun (i : Nat) => (i : Int)) = true := by
  have key : ∀ n : Nat, n ≤ 1001 → risesG (-1) ((List.range n).map fun (i : Nat) => (i : Int)) = true ∧ lastI (-1) ((List.range n).map fun (i : Nat) => (i : Int)) = (n : Int) - 1 := by
    intro n
    induction n with
    | zero => intro _; exact ⟨rfl, rfl⟩
    | succ n ih =>
      intro h
      obtain ⟨a, b⟩ := ih (by omega)
      have e : ((List.range (n + 1)).map fun (i : Nat) => (i : Int)) = ((List.range n).map fun (i : Nat) => (i : Int)) ++ [(n : Int)] := by rw [List.range_succ, List.map_append]; rfl
      rw [e, risesG_snoc, lastI_snoc, a, b]
      refine ⟨?_, by omega⟩
      simp only [Bool.true_and, Bool.and_eq_true, decide_eq_true_eq]; omega
  intro n hn
  refine rises_of ?_ (by simp; omega) (key (n + 1) (by omega)).1
  intro e; have := congrArg List.length e; simp at this
theorem fit_good (t : ByteArray) (l : List (List Sp)) : chE (fitL' t l) = 0 ∧ LgS (fitL' t l) ∧ (fitL' t l).base.size ≤ 4000 ∧ totb (fitL' t l).segs ≤ 10000 ∧ (fitL' t l).segs.length ≤ 20 := by
  have hs20 : (t.extract 0 (min t.size 20)).size ≤ 20 := by rw [ByteArray.size_extract]; omega
  have hb := fit_size (t.extract 0 (min t.size 20)) (by omega)
  have hv := fit_valid (t.extract 0 (min t.size 20))
  have hc := fit_count (t.extract 0 (min t.size 20))
  have hW := chO_chn l (n := countD (fitS (t.extract 0 (min t.size 20))).data.toList) (by omega)
  have hN : ∀ x ∈ chO l (countD (fitS (t.extract 0 (min t.size 20))).data.toList), (norm x).length ≤ 13 ∧ tbs (norm x) ≤ 312 := by
    intro x hx
    obtain ⟨y, m, rfl, m1, m2⟩ := chn_mem hW.1 x hx
    exact (fit_norm y (by omega)).2
  have htb : ∀ W : List (List Sp), (∀ x ∈ W, tbs (norm x) ≤ 312) → totb (W.map norm) ≤ 312 * W.length := by
    intro W
    induction W with
    | nil => intro _; simp [totb]
    | cons x W ih =>
      intro h
      have h1 := h x (by simp)
      have h2 := ih (fun y hy => h y (by simp [hy]))
      rw [List.map_cons, totb_cons, List.length_cons, Nat.mul_succ]; omega
  unfold fitL'
  generalize fitS (t.extract 0 (min t.size 20)) = b at *
  simp only
  have h4 := htb _ (fun x hx => (hN x hx).2)
  have hs := chn_segs _ _ hW.1
  refine ⟨chE_of hv (by show countD b.data.toList ≤ _; omega) (rises_range _ (by omega)) (by simp) hs, ⟨by show b.size ≤ _; omega, by simp; omega, by simp; omega, ?_⟩, hb, by have := hW.2; show totb _ ≤ _; omega, by simp; exact hW.2⟩
  intro x hx
  obtain ⟨y, hy, rfl⟩ := List.mem_map.1 hx
  exact ⟨by have := (hN y hy).1; omega, tbs_small (by have := (hN y hy).2; omega)⟩
def shC : Lg := ⟨⟨#[97, 98]⟩, [0, 3], [[⟨1, 2, ⟨#[]⟩⟩, ⟨2, 0, ⟨#[99]⟩⟩]]⟩
theorem shC_may : chE shC = 0 := by decide
theorem shC_at : atR shC 1 = (0, ⟨#[97, 98, 99]⟩) := by decide
theorem shown16_call : CallW env 26 [] (fun r hs => r = .v (.bool true) ∧ hs = []) := by
  have hS : LgS shC := ⟨by decide, by decide, by decide, fun x hx => by simp [shC] at hx; subst hx; exact ⟨by decide, fun s hs => by simp at hs; rcases hs with rfl | rfl <;> decide⟩⟩
  have h1 := at_call shC 1 hS (by decide)
  unfold atA at h1; rw [shC_at] at h1
  have h2 := cmay_call shC hS
  rw [shC_may] at h2
  have hZ : LgS ⟨⟨#[]⟩, [], []⟩ := ⟨by decide, by decide, by decide, fun x hx => by cases hx⟩
  have h3 := (cmay_call ⟨⟨#[]⟩, [], []⟩ hZ).arg1 (Le.agg3 (Le.refl (.v (.string ⟨#[]⟩))) (Le.nil 1) (Le.nil 1))
  have h3e : chE ⟨⟨#[]⟩, [], []⟩ = 6 := by decide
  rw [h3e] at h3
  refine Ev.func tabOK [0, 1, 2, 3] 0 Tryd.func26 rfl rfl (by simp [Tryd.ntmps26]) (by rfl) (comp26 _ rfl) (rs := [.tmp 0]) rfl ?_; rw [cc26]; show Ev.Wp _ _ _ _ ⟨[], [], 0⟩
  repeat' (first | (((with_reducible refine Ev.br_pos ?_ ?_); focus (decide)); conv => whnf) | (((with_reducible refine Ev.br_neg ?_ ?_); focus (decide)); conv => whnf) | (((with_reducible refine Ev.c_pos ?_ ?_); focus (decide))) | (((with_reducible refine Ev.c_neg ?_ ?_); focus (decide))) | (with_reducible refine Ev.br_pos rfl ?_) | (with_reducible refine Ev.c_pos rfl ?_) | ((with_reducible first | refine Ev.sided ?_ ?_ | refine Ev.w_put ?_ | refine Ev.w_step ?_ | refine Ev.w_opt ?_); (conv => whnf)) | ((with_reducible refine Ev.chk_k ?_ ?_); rotate_left; (focus first | rfl | (simp only [Ev.nbeq, Bool.and_true, Bool.true_and, Bool.not_false]; done) | ((repeat' (first | exact Ev.nbeq _ | rfl | refine Bool.and_eq_true_iff.2 ⟨?_, ?_⟩)); done)); conv => whnf) | (with_reducible first | refine Ev.c_dec (fun _ => ?_) (fun _ => ?_) | refine Ev.c_not ?_ | refine Ev.c_t ?_ | refine Ev.c_f ?_ | refine Ev.c_br (fun _ => ?_) (fun _ => ?_)) | ((with_reducible refine Ev.br_not ?_); conv => whnf) | (with_reducible first | refine Ev.br_dec (fun _ => ?_) (fun _ => ?_) | refine Ev.br (fun _ => ?_) (fun _ => ?_) | refine Ev.eo_ret ?_ | refine Ev.eo_norm ?_ | refine Ev.t_norm ?_ | refine Ev.k_seq ?_) | ((with_reducible refine Ev.k_reg (hs := []) (tabOK' _ _) (fun Q hQ => ?_)); (simp only [Ev.runE_cons, Ev.runE_nil]); conv => whnf) | (with_reducible refine hQ _ ?_; clear hQ Q) | (with_reducible first | refine Ev.k_cond rfl ?_ | refine Ev.k_skip ?_ | refine Ev.k_block ?_ | refine Ev.k_exit ?_ | refine Ev.k_ret ?_ | refine Ev.t_ret ?_ | refine Ev.t_exit ?_ | refine Ev.b_norm ?_ | refine Ev.b_ret ?_ | refine Ev.b_here ?_ | refine Ev.b_off rfl ?_) | ((with_reducible first | refine Ev.e_ret (fun F hF => ?_) | refine Ev.e_norm (fun F hF => ?_) | refine Ev.eh_ret (fun F hF => ?_) | refine Ev.eh_norm (fun F hF => ?_) | refine Ev.go_k (fun c' => ?_) | refine Ev.byt_cut ?_ | refine Ev.byt_all ?_ | refine Ev.run_cut ?_ | refine Ev.run_all ?_); conv => whnf) | (with_reducible refine hF _ ?_; clear hF F) | (with_reducible refine Ev.u_step ?_) | ((first | refine Ev.call_det (h1) rfl rfl ?_ | refine Ev.call_det (h2) rfl rfl ?_ | refine Ev.call_det (h3) rfl rfl ?_); conv => whnf) | ((first | refine Ev.call_det (h1) ?_ rfl ?_ | refine Ev.call_det (h2) ?_ rfl ?_ | refine Ev.call_det (h3) ?_ rfl ?_); (focus (repeat' (first | with_reducible rfl | refine Ev.cons_eq ?_ ?_)) <;> (first | rfl | (refine Ev.lst_eq (Ev.take_all ?_ rfl); first | omega | (simp; done) | (simp; omega)) | (refine Ev.int_eq ?_; omega) | (simp; done))); conv => whnf) | ((refine Ev.el_map0 ?_ (fun hi => ?_)); rotate_left; conv => whnf) | ((refine Ev.el_mapN ?_ (fun hi => ?_)); rotate_left; conv => whnf) | (refine Ev.Side.of ?_; exact Nat.le_of_ble_eq_true rfl) | (refine Ev.Side.of ?_; omega) | (refine Ev.Side.of ?_; simp only [Ev.wrap64]; omega) | (refine Ev.app_one ?_ rfl ?_ (by decide) <;> (first | omega | (simp; done) | (simp; omega))) | (refine Ev.app_nil1 rfl (by decide)) | (refine Ev.app_ys ?_ ?_ ?_ (by decide) <;> (first | omega | exact sps_all _ | exact bts_all _ | exact ints_all _ | exact spss_all _ | (simp; done) | (simp; omega))) | (refine Ev.app_nil ?_ ?_ (by decide) <;> (first | omega | exact sps_all _ | exact bts_all _ | exact ints_all _ | exact spss_all _ | (simp; done) | (simp; omega))) | (refine Ev.Side.of ?_; first | omega | (simp; done) | (simp; omega)))
  exact ⟨rfl, rfl⟩
end Go.Proofs.YthdjbgbfboppcaaDoor.Abs
