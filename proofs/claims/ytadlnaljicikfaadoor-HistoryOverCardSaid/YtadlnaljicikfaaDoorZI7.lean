/- A part of the proof: a calculus over values, and contracts of functions. No condition. -/
import Derived.Test.YtadlnaljicikfaaDoorZHistoryOver6
import Derived.Lib.TrimUEq
import Derived.Lib.QuoteLoop
import Derived.Lib.MapLaws
import Derived.Stop.FmtQuoteTie
set_option linter.unusedVariables false
set_option linter.unusedSimpArgs false
namespace Go.Proofs.YtadlnaljicikfaaDoor.Abs
open Go
set_option maxRecDepth 100000
attribute [local irreducible] Ev.Unr Ev.Go' Ev.bytK Ev.runK Ev.FinL Ev.brC Ev.Side Ev.Wp Ev.Again Ev.To Ev.Fin
open Go.Lib Go.RowKit
theorem comp119 : ∀ c, Tryd.f119.body = some c → comp c = (.seq (.reg 0 [I.n 0 4 (I.si 0)]) (.seq (.reg 1 [I.n 0 5 (I.si 0)]) (.seq (.seq (.reg 2 [I.n 0 8 (I.mv 0), I.n 1 9 (I.ln 8 140), I.n 2 10 (.move (.const (Value.int .i64 0)))]) (.block 0 (.loop (.seq (.reg 3 [I.n 0 11 (I.bo .lss 3 10 9 3)]) (.seq (.cond (.tmp 11) .skip (.exit 0)) (.seq (.block 1 (.seq (.reg 4 [I.n 0 12 (I.ia 140 8 10), I.n 1 13 (I.ld 35 12), I.n 2 7 (.alloc 35), I.u 3 (I.st 35 7 13)]) (.reg 5 [I.n 0 14 (I.mv 5), I.n 1 15 (I.mv 1), I.n 2 16 (I.ld 35 7), I.n 3 17 (.call { callee := .value (.tmp 15), args := #[.tmp 16], argTypes := #[35] }), I.n 4 18 (I.bo .add 3 14 17 3), I.n 5 5 (I.sa 18)]))) (.reg 6 [I.n 0 19 (I.bc .add 3 10 1 3), I.n 1 10 (I.mv 19)]))))))) (.seq (.reg 7 [I.n 0 20 (I.mv 5), I.n 1 4 (I.sa 20)]) .ret)))) := by
  intro c h
  have : c = Tryd.f119.body.get rfl := by rw [← Option.some_inj, ← h]; rfl
  rw [this]; rfl
theorem comp74 : ∀ c, Tryd.f74.body = some c → comp c = (.seq (.reg 0 [I.n 0 2 (I.si 0)]) (.seq (.reg 1 [I.n 0 3 (.assign (.func 119))]) (.seq (.reg 2 [I.n 0 4 (I.mv 3), I.n 1 5 (I.mv 0), I.n 2 6 (.call { callee := .value (.tmp 4), args := #[.tmp 5, .func 120], argTypes := #[140, 113] }), I.n 3 2 (I.sa 6)]) .ret))) := by
  intro c h
  have : c = Tryd.f74.body.get rfl := by rw [← Option.some_inj, ← h]; rfl
  rw [this]; rfl
theorem comp73 : ∀ c, Tryd.f73.body = some c → comp c = (.seq (.reg 0 [I.n 0 2 (I.si 0)]) (.seq (.reg 1 [I.n 0 3 (I.mv 0), I.n 1 4 (.call { callee := .value (.func 119), args := #[.tmp 3, .func 82], argTypes := #[140, 113] }), I.n 2 2 (I.sa 4)]) .ret)) := by
  intro c h
  have : c = Tryd.f73.body.get rfl := by rw [← Option.some_inj, ← h]; rfl
  rw [this]; rfl
theorem sum_call (f : Sp → Int) (g : FuncId) (l : List Sp) (hl : l.length ≤ 1000000000) (hg : ∀ s ∈ l, CallW env g [.agg (spC s)] (fun r hs => r = .v (.int .i64 (f s)) ∧ hs = [])) :
    CallW env 119 [.lst 3 (sps l), .clo (.func g) [] []] (fun r hs => r = .v (.int .i64 (sumW f l)) ∧ hs = []) := by
  refine Ev.fn [0, 1, 4, 5, 7, 8, 9, 10, 11] 0 [.tmp 4] Tryd.func119 (comp119 _ rfl) ?_
  repeat' (first | ((refine Ev.sw ?_); conv => whnf) | refine Ev.sn ?_ | ((with_reducible refine Ev.chk_k ?_ ?_); rotate_left; exact Ev.bt; conv => whnf) | ((with_reducible (refine Ev.RI.run ?_; constructor)) <;> intro _) | ((with_reducible refine Ev.sided ?_ ?_); conv => whnf) | ((with_reducible refine Ev.kr (hs := []) (fun Q hQ => ?_)); (simp only [Ev.runE_cons, Ev.runE_nil]); conv => whnf) | (with_reducible refine hQ _ ?_; clear hQ Q) | ((refine Ev.sf ?_); intro F hF; conv => whnf) | (with_reducible refine hF _ ?_; clear hF F) | ((with_reducible refine Ev.go_k (fun c' => ?_)); conv => whnf) | (refine Ev.Side.of ?_; exact Nat.le_of_ble_eq_true rfl))
  refine Ev.loop (fun k s => ∃ i c : Nat, s = ⟨[(1, .clo (.func g) [] []), (4, .v (.int .i64 0)), (5, .v (.int .i64 (sumW f (l.take i)))), (8, .lst 3 (sps l)), (9, .v (.int .i64 l.length)), (10, .v (.int .i64 i))], [], c⟩ ∧ k + i = l.length) ?_ ?_
  · exact Ev.to ⟨[(1, _), (4, _), (5, .v (.int .i64 0)), (8, _), (9, .v (.int .i64 l.length)), (10, .v (.int .i64 ((0 : Nat) : Int)))], [], 0⟩ ⟨rfl, rfl, rfl, rfl, Ev.slot_int rfl (by simp [sps]), rfl, trivial⟩ trivial (Nat.le_refl _) ⟨l.length, 0, 0, rfl, by omega⟩
  rintro k s1 ⟨i, c, rfl, hk⟩
  repeat' (first | ((refine Ev.sw ?_); conv => whnf) | refine Ev.sn ?_ | ((with_reducible refine Ev.chk_k ?_ ?_); rotate_left; exact Ev.bt; conv => whnf) | ((with_reducible (refine Ev.RI.run ?_; constructor)) <;> intro _) | ((with_reducible refine Ev.sided ?_ ?_); conv => whnf) | ((with_reducible refine Ev.kr (hs := []) (fun Q hQ => ?_)); (simp only [Ev.runE_cons, Ev.runE_nil]); conv => whnf) | (with_reducible refine hQ _ ?_; clear hQ Q) | ((refine Ev.sf ?_); intro F hF; conv => whnf) | (with_reducible refine hF _ ?_; clear hF F) | ((with_reducible refine Ev.go_k (fun c' => ?_)); conv => whnf) | ((refine Ev.el_map ?_ (fun hi => ?_); rotate_left); conv => whnf) | ((refine Ev.call_det (hg _ (List.getElem_mem hi)) rfl rfl ?_); conv => whnf) | (refine Ev.Side.of ?_; exact Nat.le_of_ble_eq_true rfl))
  · have hi' : i < l.length := by simpa using hi
    rw [spC_at hi hi']
    refine Ev.again (k - 1) ⟨[(1, _), (4, _), (5, .v (.int .i64 (sumW f (l.take (i + 1))))), (8, _), (9, _), (10, .v (.int .i64 ((i + 1 : Nat) : Int)))], [], c + 8⟩ (by omega) ⟨rfl, rfl, Ev.slot_int rfl (by rw [sumW_succ _ _ hi']), rfl, rfl, Ev.slot_int rfl (by rw [Ev.wrap64]; omega), trivial⟩ trivial (Nat.le_refl _) ⟨i + 1, c + 8, rfl, by omega⟩
  · refine Ev.Side.of ?_; rename_i h; omega
  · refine Ev.Side.of ?_; rename_i h; simp only [sps, List.length_map]; omega
  · rename_i h
    have ei : i = l.length := by omega
    subst ei
    rw [List.take_of_length_le (Nat.le_refl _)]
    exact ⟨rfl, rfl⟩
theorem opIn_call (l : List Sp) (hl : l.length ≤ 1000000000) : CallW env 74 [.lst 3 (sps l)] (fun r hs => r = .v (.int .i64 (sumW (fun s => inF s.k s.n) l)) ∧ hs = []) := by
  refine Ev.fn [0, 2, 3] 0 [.tmp 2] Tryd.func74 (comp74 _ rfl) ?_
  repeat' (first | ((refine Ev.sw ?_); conv => whnf) | refine Ev.sn ?_ | ((with_reducible refine Ev.chk_k ?_ ?_); rotate_left; exact Ev.bt; conv => whnf) | ((with_reducible (refine Ev.RI.run ?_; constructor)) <;> intro _) | ((with_reducible refine Ev.sided ?_ ?_); conv => whnf) | ((with_reducible refine Ev.kr (hs := []) (fun Q hQ => ?_)); (simp only [Ev.runE_cons, Ev.runE_nil]); conv => whnf) | (with_reducible refine hQ _ ?_; clear hQ Q) | ((refine Ev.sf ?_); intro F hF; conv => whnf) | (with_reducible refine hF _ ?_; clear hF F) | ((with_reducible refine Ev.go_k (fun c' => ?_)); conv => whnf) | ((refine Ev.call_det (sum_call (fun s => inF s.k s.n) 120 l hl (fun s _ => in_call _ _ _)) rfl rfl ?_); conv => whnf) | (refine Ev.Side.of ?_; exact Nat.le_of_ble_eq_true rfl))
  all_goals exact ⟨rfl, rfl⟩
theorem opOut_call (l : List Sp) (hl : l.length ≤ 1000000000) (hs : Small l) : CallW env 73 [.lst 3 (sps l)] (fun r hs => r = .v (.int .i64 (sumW (fun s => outF s.k s.n s.t) l)) ∧ hs = []) := by
  refine Ev.fn [0, 2] 0 [.tmp 2] Tryd.func73 (comp73 _ rfl) ?_
  repeat' (first | ((refine Ev.sw ?_); conv => whnf) | refine Ev.sn ?_ | ((with_reducible refine Ev.chk_k ?_ ?_); rotate_left; exact Ev.bt; conv => whnf) | ((with_reducible (refine Ev.RI.run ?_; constructor)) <;> intro _) | ((with_reducible refine Ev.sided ?_ ?_); conv => whnf) | ((with_reducible refine Ev.kr (hs := []) (fun Q hQ => ?_)); (simp only [Ev.runE_cons, Ev.runE_nil]); conv => whnf) | (with_reducible refine hQ _ ?_; clear hQ Q) | ((refine Ev.sf ?_); intro F hF; conv => whnf) | (with_reducible refine hF _ ?_; clear hF F) | ((with_reducible refine Ev.go_k (fun c' => ?_)); conv => whnf) | ((refine Ev.call_det (sum_call (fun s => outF s.k s.n s.t) 82 l hl (fun s h => out_call _ _ _ (hs s h))) rfl rfl ?_); conv => whnf) | (refine Ev.Side.of ?_; exact Nat.le_of_ble_eq_true rfl))
  all_goals exact ⟨rfl, rfl⟩
def firstE (f : Sp → Int) : List Sp → Int
  | [] => 0
  | s :: l => if f s = 0 then firstE f l else f s
theorem firstE_append (f : Sp → Int) : ∀ (a b : List Sp), firstE f (a ++ b) = if firstE f a = 0 then firstE f b else firstE f a
  | [], b => by simp [firstE]
  | s :: a, b => by
    simp only [List.cons_append, firstE, firstE_append f a b]
    by_cases h : f s = 0 <;> simp [h]
theorem firstE_ok (f : Sp → Int) (l : List Sp) {i : Nat} (hi : i < l.length) (h : firstE f (l.take i) = 0) (h0 : f l[i] = 0) : firstE f (l.take (i + 1)) = 0 := by
  rw [List.take_succ_eq_append_getElem hi, firstE_append, h]; simp [firstE, h0]
theorem firstE_at (f : Sp → Int) (l : List Sp) {i : Nat} (hi : i < l.length) (h : firstE f (l.take i) = 0) (h0 : ¬ f l[i] = 0) : firstE f l = f l[i] := by
  have e : l = l.take i ++ l[i] :: l.drop (i + 1) := by rw [List.getElem_cons_drop, List.take_append_drop]
  have := firstE_append f (l.take i) (l[i] :: l.drop (i + 1))
  rw [← e, h] at this
  rw [this]; simp [firstE, h0]
def mayS (s : Sp) : Int := mayF s.k s.n s.t
def inW (l : List Sp) : Int := sumW (fun s => inF s.k s.n) l
def outW (l : List Sp) : Int := sumW (fun s => outF s.k s.n s.t) l
def opMayF (l : List Sp) : Int := if firstE mayS l = 0 then (if 1048576 < inW l then 4 else 0) else firstE mayS l
def nilA : AV := .v (.slice none 0 0)
def keepA (n : Int) : AV := if n < 0 ∨ 1048576 < n then nilA else if n = 0 then nilA else .lst 3 (sps [⟨1, n, ⟨#[]⟩⟩])
def keepE (n : Int) : Int := if n < 0 ∨ 1048576 < n then 2 else 0
theorem comp72 : ∀ c, Tryd.f72.body = some c → comp c = (.seq (.reg 0 [I.n 0 2 (I.si 0)]) (.seq (.seq (.reg 1 [I.n 0 6 (I.mv 0), I.n 1 7 (I.ln 6 23), I.n 2 8 (.move (.const (Value.int .i64 0)))]) (.block 0 (.loop (.seq (.reg 2 [I.n 0 9 (I.bo .lss 3 8 7 3)]) (.seq (.cond (.tmp 9) .skip (.exit 0)) (.seq (.block 1 (.seq (.reg 3 [I.n 0 10 (I.ia 23 6 8), I.n 1 11 (I.ld 35 10), I.n 2 4 (.alloc 35), I.u 3 (I.st 35 4 11)]) (.seq (.reg 4 [I.n 0 12 (I.ld 35 4), I.n 1 13 (I.c1 118 12 35), I.n 2 5 (I.sa 13)]) (.seq (.reg 5 [I.n 0 14 (I.mv 5), I.n 1 15 (I.bc .neq 30 14 0 30)]) (.cond (.tmp 15) (.seq (.reg 6 [I.n 0 16 (I.mv 5), I.n 1 2 (I.sa 16)]) .ret) .skip))))) (.reg 7 [I.n 0 17 (I.bc .add 3 8 1 3), I.n 1 8 (I.mv 17)]))))))) (.seq (.seq (.reg 8 [I.n 0 18 (I.mv 0), I.n 1 19 (I.c1 74 18 23), I.n 2 20 (I.bc .gtr 3 19 1048576 3)]) (.cond (.tmp 20) (.seq (.reg 9 [I.n 0 2 (I.si 4)]) .ret) .skip)) (.seq (.reg 10 [I.n 0 2 (I.si 0)]) .ret)))) := by
  intro c h
  have : c = Tryd.f72.body.get rfl := by rw [← Option.some_inj, ← h]; rfl
  rw [this]; rfl
theorem comp111 : ∀ c, Tryd.f111.body = some c → comp c = (.seq (.reg 0 [I.n 0 2 I.sn, I.n 1 3 (I.si 0)]) (.seq (.seq (.reg 1 [I.n 0 4 (I.mv 0), I.n 1 5 (I.bc .lss 3 4 0 3), I.n 2 6 (I.mv 5), I.w 3 7 (I.mv 0) 6 false, I.w 4 8 (I.bc .gtr 3 7 1048576 3) 6 false, I.n 5 9 (I.pb 6 true 8)]) (.cond (.tmp 9) (.seq (.reg 2 [I.n 0 2 I.sn, I.n 1 3 (I.si 2)]) .ret) .skip)) (.seq (.seq (.reg 3 [I.n 0 10 (I.mv 0), I.n 1 11 (I.bc .eql 3 10 0 3)]) (.cond (.tmp 11) (.seq (.reg 4 [I.n 0 2 I.sn, I.n 1 3 (I.si 0)]) .ret) .skip)) (.seq (.reg 5 [I.n 0 12 (I.mv 0), I.n 1 13 (.build 35 #[(0, .const (Value.int .i64 1)), (1, .tmp 12)]), I.n 2 14 (I.b1 23 13), I.n 3 2 (I.sa 14), I.n 4 3 (I.si 0)]) .ret)))) := by
  intro c h
  have : c = Tryd.f111.body.get rfl := by rw [← Option.some_inj, ← h]; rfl
  rw [this]; rfl
theorem opMay_call (l : List Sp) (hl : l.length ≤ 1000000000) (hs : Small l) : CallW env 72 [.lst 3 (sps l)] (fun r hs => r = .v (.int .i64 (opMayF l)) ∧ hs = []) := by
  have hsl := sps_len l
  refine Ev.fn [0, 2, 4, 5, 6, 7, 8, 9, 15, 20] 0 [.tmp 2] Tryd.func72 (comp72 _ rfl) ?_
  repeat' (first | ((refine Ev.sw ?_); conv => whnf) | refine Ev.sn ?_ | ((with_reducible refine Ev.chk_k ?_ ?_); rotate_left; exact Ev.bt; conv => whnf) | ((with_reducible (refine Ev.RI.run ?_; constructor)) <;> intro _) | ((refine Ev.sg ?_); conv => whnf) | ((with_reducible refine Ev.sided ?_ ?_); conv => whnf) | ((with_reducible refine Ev.kr (hs := []) (fun Q hQ => ?_)); (simp only [Ev.runE_cons, Ev.runE_nil]); conv => whnf) | (with_reducible refine hQ _ ?_; clear hQ Q) | ((refine Ev.sf ?_); intro F hF; conv => whnf) | (with_reducible refine hF _ ?_; clear hF F) | ((with_reducible refine Ev.go_k (fun c' => ?_)); conv => whnf) | ((first | refine Ev.el_map0 ?_ (fun hi => ?_) | refine Ev.el_mapN ?_ (fun hi => ?_)); rotate_left; conv => whnf) | ((with_reducible refine Ev.sd0 ?_); exact Ev.sd) | fail)
  refine Ev.loop (fun k s => ∃ i c : Nat, s = ⟨[(0, .lst 3 (sps l)), (2, .v (.int .i64 0)), (6, .lst 3 (sps l)), (7, .v (.int .i64 l.length)), (8, .v (.int .i64 i))], [], c⟩ ∧ k + i = l.length ∧ firstE mayS (l.take i) = 0) ?_ ?_
  · exact Ev.to ⟨[(0, _), (2, _), (6, .lst 3 (sps l)), (7, .v (.int .i64 l.length)), (8, .v (.int .i64 ((0 : Nat) : Int)))], [], 0⟩ ⟨rfl, rfl, rfl, Ev.slot_int rfl (by simp [sps]), rfl, trivial⟩ trivial (Nat.le_refl _) ⟨l.length, 0, 0, rfl, by omega, rfl⟩
  rintro k s1 ⟨i, c, rfl, hk, hf⟩
  repeat' (first | ((refine Ev.sw ?_); conv => whnf) | refine Ev.sn ?_ | ((with_reducible refine Ev.chk_k ?_ ?_); rotate_left; exact Ev.bt; conv => whnf) | ((with_reducible (refine Ev.RI.run ?_; constructor)) <;> intro _) | ((refine Ev.sg ?_); conv => whnf) | ((with_reducible refine Ev.sided ?_ ?_); conv => whnf) | ((with_reducible refine Ev.kr (hs := []) (fun Q hQ => ?_)); (simp only [Ev.runE_cons, Ev.runE_nil]); conv => whnf) | (with_reducible refine hQ _ ?_; clear hQ Q) | ((refine Ev.sf ?_); intro F hF; conv => whnf) | (with_reducible refine hF _ ?_; clear hF F) | ((with_reducible refine Ev.go_k (fun c' => ?_)); conv => whnf) | ((refine Ev.call_det (may_call _ _ _ (hs _ (List.getElem_mem hi))) rfl rfl ?_); conv => whnf) | ((refine Ev.call_det (opIn_call l hl) rfl rfl ?_); conv => whnf) | ((first | refine Ev.el_map0 ?_ (fun hi => ?_) | refine Ev.el_mapN ?_ (fun hi => ?_)); rotate_left; conv => whnf) | ((with_reducible refine Ev.sd0 ?_); exact Ev.sd) | fail)
  · rename_i heq
    exact Ev.again (k - 1) ⟨[(0, _), (2, _), (6, _), (7, _), (8, .v (.int .i64 ((i + 1 : Nat) : Int)))], [], c + 8⟩ (by omega) ⟨rfl, rfl, rfl, rfl, Ev.slot_int rfl (by rw [Ev.wrap64]; omega), trivial⟩ trivial (Nat.le_refl _) ⟨i + 1, c + 8, rfl, by omega, firstE_ok mayS l hi hf heq⟩
  · rename_i hne
    exact ⟨congrArg (fun b => AV.v (Value.int .i64 b)) (by unfold opMayF; rw [firstE_at mayS l hi hf hne]; exact (if_neg hne).symm), rfl⟩
  all_goals
    have ei : i = l.length := by omega
    subst ei
    rw [List.take_of_length_le (Nat.le_refl _)] at hf
    refine ⟨congrArg (fun b => AV.v (Value.int .i64 b)) ?_, rfl⟩
    simp [opMayF, hf, inW, *]
theorem keep_call (n : Int) : CallW env 111 [.v (.int .i64 n)] (fun r hs => r = .tup [keepA n, .v (.int .i64 (keepE n))] ∧ hs = []) := by
  refine Ev.fn [0, 2, 3, 9, 11] 0 [.tmp 2, .tmp 3] Tryd.func111 (comp111 _ rfl) ?_
  repeat' (first | ((refine Ev.sw ?_); conv => whnf) | refine Ev.sn ?_ | ((with_reducible refine Ev.chk_k ?_ ?_); rotate_left; exact Ev.bt; conv => whnf) | ((with_reducible (refine Ev.RI.run ?_; constructor)) <;> intro _) | ((refine Ev.sg ?_); conv => whnf) | ((with_reducible refine Ev.sided ?_ ?_); conv => whnf) | ((with_reducible refine Ev.kr (hs := []) (fun Q hQ => ?_)); (simp only [Ev.runE_cons, Ev.runE_nil]); conv => whnf) | (with_reducible refine hQ _ ?_; clear hQ Q) | ((refine Ev.sf ?_); intro F hF; conv => whnf) | (with_reducible refine hF _ ?_; clear hF F) | ((with_reducible refine Ev.go_k (fun c' => ?_)); conv => whnf) | ((first | refine Ev.el_map0 ?_ (fun hi => ?_) | refine Ev.el_mapN ?_ (fun hi => ?_)); rotate_left; conv => whnf) | ((with_reducible refine Ev.sd0 ?_); exact Ev.sd) | fail)
  all_goals (refine ⟨?_, rfl⟩; simp [keepA, keepE, resOf, nilA, sps, spC, *]; try omega)
theorem comp34 : ∀ c, Tryd.f34.body = some c → comp c = (.seq (.reg 0 [I.n 0 4 (I.sb false)]) (.seq (.seq (.reg 1 [I.n 0 6 (I.mv 0), I.n 1 7 (I.ln 6 23), I.n 2 8 (I.mv 1), I.n 3 9 (I.ln 8 23), I.n 4 10 (I.bo .neq 3 7 9 3)]) (.cond (.tmp 10) (.seq (.reg 2 [I.n 0 4 (I.sb false)]) .ret) .skip)) (.seq (.seq (.reg 3 [I.n 0 5 (I.si 0)]) (.block 0 (.loop (.seq (.seq (.reg 4 [I.n 0 11 (I.mv 5), I.n 1 12 (I.mv 0), I.n 2 13 (I.ln 12 23), I.n 3 14 (I.bo .lss 3 11 13 3)]) (.cond (.tmp 14) .skip (.exit 0))) (.seq (.block 1 (.seq (.draw 6 [I.n 0 17 (I.mv 0), I.n 1 18 (I.mv 5), I.n 2 19 (I.ia 23 17 18), I.n 3 20 (I.ld 35 19), I.n 4 21 (I.mv 1), I.n 5 22 (I.mv 5), I.n 6 23 (I.ia 23 21 22), I.n 7 24 (I.ld 35 23), I.n 8 25 (I.bo .neq 35 20 24 35)] [[], [], [0, 1], [2], [], [], [4, 5], [6], [3, 7]]) (.cond (.tmp 25) (.seq (.reg 7 [I.n 0 4 (I.sb false)]) .ret) .skip))) (.reg 5 [I.n 0 15 (I.mv 5), I.n 1 16 (I.bc .add 3 15 1 3), I.n 2 5 (I.sa 16)])))))) (.seq (.reg 8 [I.n 0 4 (I.sb true)]) .ret)))) := by
  intro c h
  have : c = Tryd.f34.body.get rfl := by rw [← Option.some_inj, ← h]; rfl
  rw [this]; rfl
instance (a b : Sp) : Decidable (a = b) := decidable_of_iff (a.k = b.k ∧ a.n = b.n ∧ a.t = b.t) (by cases a; cases b; simp)
theorem same_call (l m : List Sp) (hl : l.length ≤ 1000000000) : CallW env 34 [.lst 3 (sps l), .lst 3 (sps m)] (fun r hs => r = .v (.bool (decide (l = m))) ∧ hs = []) := by
  have hsl := sps_len l
  have hsm := sps_len m
  refine Ev.fn [0, 1, 4, 5, 10, 14, 25] 0 [.tmp 4] Tryd.func34 (comp34 _ rfl) ?_
  repeat' (first | ((refine Ev.sw ?_); conv => whnf) | refine Ev.sn ?_ | ((with_reducible refine Ev.chk_k ?_ ?_); rotate_left; exact Ev.bt; conv => whnf) | ((with_reducible (refine Ev.RI.run ?_; constructor)) <;> intro _) | ((refine Ev.sg ?_); conv => whnf) | ((with_reducible refine Ev.sided ?_ ?_); conv => whnf) | ((with_reducible refine Ev.kr (hs := []) (fun Q hQ => ?_)); (simp only [Ev.runE_cons, Ev.runE_nil]); conv => whnf) | (with_reducible refine hQ _ ?_; clear hQ Q) | ((refine Ev.sf ?_); intro F hF; conv => whnf) | (with_reducible refine hF _ ?_; clear hF F) | ((with_reducible refine Ev.go_k (fun c' => ?_)); conv => whnf) | ((with_reducible refine Ev.dr0 ?_); (first | refine Ev.dr 6 [] [0, 1, 2, 3, 4, 5, 6, 7, 8] ?_); intro Q hQ; (simp only [Ev.runE_cons, Ev.runE_nil]); conv => whnf) | ((first | refine Ev.el_map0 ?_ (fun hi => ?_) | refine Ev.el_mapN ?_ (fun hi => ?_)); rotate_left; conv => whnf) | ((with_reducible refine Ev.sd0 ?_); exact Ev.sd) | fail)
  rotate_left
  · exact ⟨congrArg (fun b => AV.v (Value.bool b)) (decide_eq_false (by rintro rfl; omega)).symm, rfl⟩
  have hlen : l.length = m.length := by omega
  refine Ev.loop (fun k s => ∃ i : Nat, s = ⟨[(0, .lst 3 (sps l)), (1, .lst 3 (sps m)), (4, .v (.bool false)), (5, .v (.int .i64 i))], [], 0⟩ ∧ k + i = l.length ∧ l.take i = m.take i) ?_ ?_
  · exact Ev.to ⟨[(0, _), (1, _), (4, _), (5, .v (.int .i64 ((0 : Nat) : Int)))], [], 0⟩ ⟨rfl, rfl, rfl, rfl, trivial⟩ trivial (Nat.le_refl _) ⟨l.length, 0, rfl, by omega, rfl⟩
  rintro k s1 ⟨i, rfl, hk, hf⟩
  repeat' (first | ((refine Ev.sw ?_); conv => whnf) | refine Ev.sn ?_ | ((with_reducible refine Ev.chk_k ?_ ?_); rotate_left; exact Ev.bt; conv => whnf) | ((with_reducible (refine Ev.RI.run ?_; constructor)) <;> intro _) | ((refine Ev.sg ?_); conv => whnf) | ((with_reducible refine Ev.sided ?_ ?_); conv => whnf) | ((with_reducible refine Ev.kr (hs := []) (fun Q hQ => ?_)); (simp only [Ev.runE_cons, Ev.runE_nil]); conv => whnf) | (with_reducible refine hQ _ ?_; clear hQ Q) | ((refine Ev.sf ?_); intro F hF; conv => whnf) | (with_reducible refine hF _ ?_; clear hF F) | ((with_reducible refine Ev.go_k (fun c' => ?_)); conv => whnf) | ((with_reducible refine Ev.dr0 ?_); (first | refine Ev.dr 6 [] [0, 1, 2, 3, 4, 5, 6, 7, 8] ?_); intro Q hQ; (simp only [Ev.runE_cons, Ev.runE_nil]); conv => whnf) | ((first | refine Ev.el_map0 ?_ (fun hi => ?_) | refine Ev.el_mapN ?_ (fun hi => ?_)); rotate_left; conv => whnf) | ((with_reducible refine Ev.sd0 ?_); exact Ev.sd) | fail)
  · rename_i heq
    have hm' : i < m.length := by omega
    exact Ev.again (k - 1) ⟨[(0, _), (1, _), (4, _), (5, .v (.int .i64 ((i + 1 : Nat) : Int)))], [], 0⟩ (by omega) ⟨rfl, rfl, rfl, Ev.slot_int rfl (by rw [Ev.wrap64]; omega), trivial⟩ trivial (Nat.le_refl _) ⟨i + 1, rfl, by omega, by
      rw [List.take_succ_eq_append_getElem (by omega), List.take_succ_eq_append_getElem hm', hf]
      congr 2
      obtain ⟨e1, e2, e3⟩ := heq
      cases h1 : l[i]; cases h2 : m[i]; simp_all⟩
  · rename_i hne
    exact ⟨congrArg (fun b => AV.v (Value.bool b)) (decide_eq_false (by rintro rfl; simp at hne)).symm, rfl⟩
  · have : i = l.length := by omega
    subst this
    rw [List.take_of_length_le (Nat.le_refl _), List.take_of_length_le (by omega)] at hf
    exact ⟨congrArg (fun b => AV.v (Value.bool b)) (decide_eq_true hf).symm, rfl⟩
theorem comp31 : ∀ c, Tryd.f31.body = some c → comp c = (.seq (.reg 0 [I.n 0 4 I.sn]) (.seq (.reg 1 [I.n 0 8 (.buildSlice 23 0 #[]), I.n 1 5 (I.sa 8)]) (.seq (.seq (.reg 2 [I.n 0 6 (I.si 0)]) (.block 0 (.loop (.seq (.seq (.reg 3 [I.n 0 9 (I.mv 6), I.n 1 10 (I.mv 0), I.n 2 11 (I.ln 10 23), I.n 3 12 (I.bo .lss 3 9 11 3), I.n 4 13 (I.mv 12), I.w 5 14 (I.mv 6) 13 true, I.w 6 15 (I.bc .lss 3 14 12 3) 13 true, I.n 7 16 (I.pc 13 15 false)]) (.cond (.tmp 16) .skip (.exit 0))) (.seq (.block 1 (.seq (.reg 5 [I.n 0 19 (I.mv 0), I.n 1 20 (I.mv 6), I.n 2 21 (I.ia 23 19 20), I.n 3 22 (I.fa 35 21 0), I.n 4 23 (I.ld 3 22), I.n 5 24 (I.bc .rem 3 23 3 3), I.n 6 25 (I.bc .add 3 24 3 3), I.n 7 26 (I.bc .rem 3 25 3 3), I.n 8 27 (.binOp .add 3 (.const (Value.int .i64 1)) (.tmp 26) 3), I.n 9 28 (.build 35 #[(0, .tmp 27)]), I.n 10 7 (.alloc 35), I.u 11 (I.st 35 7 28)]) (.seq (.seq (.reg 6 [I.n 0 29 (I.fa 35 7 0), I.n 1 30 (I.ld 3 29), I.n 2 31 (I.bc .eql 3 30 2 3)]) (.cond (.tmp 31) (.draw 7 [I.n 0 32 (I.mv 0), I.n 1 33 (I.mv 6), I.n 2 34 (I.ia 23 32 33), I.n 3 35 (I.fa 35 34 2), I.n 4 36 (I.ld 9 35), I.n 5 37 (I.mv 0), I.n 6 38 (I.mv 6), I.n 7 39 (I.ia 23 37 38), I.n 8 40 (I.fa 35 39 2), I.n 9 41 (I.ld 9 40), I.n 10 42 (I.ln 41 9), I.n 11 43 (.call { callee := .builtin .min, args := #[.tmp 42, .const (Value.int .i64 6)], argTypes := #[3, 3] }), I.n 12 44 (.slice 9 (.tmp 36) none (some (.tmp 43)) none), I.n 13 45 (I.c1 37 44 9), I.n 14 46 (I.fa 35 7 2), I.u 15 (I.st 9 46 45)] [[], [], [0, 1], [2], [3], [], [], [5, 6], [7], [8], [9], [10], [4, 11], [12], [0, 1, 2, 3, 4, 5, 6, 7, 8, 9, 10, 11, 12, 13], [14, 13, 13, 0, 1, 2, 3, 4, 5, 6, 7, 8, 9, 10, 11, 12, 13]]) (.seq (.reg 8 [I.n 0 47 (I.mv 0), I.n 1 48 (I.mv 6), I.n 2 49 (I.ia 23 47 48), I.n 3 50 (I.fa 35 49 1), I.n 4 51 (I.ld 3 50), I.n 5 52 (I.bc .rem 3 51 7 3), I.n 6 53 (I.bc .add 3 52 7 3), I.n 7 54 (I.bc .rem 3 53 7 3), I.n 8 55 (I.mv 1), I.n 9 56 (.call { callee := .builtin .min, args := #[.tmp 54, .tmp 55], argTypes := #[3, 3] }), I.n 10 57 (I.fa 35 7 1), I.u 11 (I.st 3 57 56)]) (.reg 9 [I.n 0 58 (I.mv 1), I.n 1 59 (I.fa 35 7 1), I.n 2 60 (I.ld 3 59), I.n 3 61 (I.bo .sub 3 58 60 3), I.n 4 1 (I.sa 61)])))) (.reg 10 [I.n 0 62 (I.mv 5), I.n 1 63 (I.ld 35 7), I.n 2 64 (I.b1 23 63), I.n 3 65 (I.ap 62 64 23 23), I.n 4 5 (I.sa 65)])))) (.reg 4 [I.n 0 17 (I.mv 6), I.n 1 18 (I.bc .add 3 17 1 3), I.n 2 6 (I.sa 18)])))))) (.seq (.seq (.reg 11 [I.n 0 66 (I.mv 1), I.n 1 67 (I.bc .gtr 3 66 0 3)]) (.cond (.tmp 67) (.reg 12 [I.n 0 68 (I.mv 5), I.n 1 69 (I.mv 1), I.n 2 70 (.build 35 #[(0, .const (Value.int .i64 1)), (1, .tmp 69)]), I.n 3 71 (I.b1 23 70), I.n 4 72 (I.ap 68 71 23 23), I.n 5 5 (I.sa 72)]) .skip)) (.seq (.reg 13 [I.n 0 73 (I.mv 5), I.n 1 4 (I.sa 73)]) .ret))))) := by
  intro c h
  have : c = Tryd.f31.body.get rfl := by rw [← Option.some_inj, ← h]; rfl
  rw [this]; rfl
theorem kmod (k : Int) : IntKind.i64.wrap (1 + (IntKind.i64.wrap (k.tmod 3 + 3)).tmod 3) = 1 + k % 3 := by
  have h : k.tmod 3 = k % 3 ∨ k.tmod 3 = k % 3 - 3 := by rw [Int.tmod_eq_emod]; split <;> simp
  have h1 : IntKind.i64.wrap (k.tmod 3 + 3) = k.tmod 3 + 3 := by rw [Ev.wrap64]; omega
  rw [h1, Int.tmod_eq_emod_of_nonneg (by omega), Ev.wrap64]; omega
theorem nmod (k : Int) : (IntKind.i64.wrap (k.tmod 7 + 7)).tmod 7 = k % 7 := by
  have h : k.tmod 7 = k % 7 ∨ k.tmod 7 = k % 7 - 7 := by rw [Int.tmod_eq_emod]; split <;> simp
  have h1 : IntKind.i64.wrap (k.tmod 7 + 7) = k.tmod 7 + 7 := by rw [Ev.wrap64]; omega
  rw [h1, Int.tmod_eq_emod_of_nonneg (by omega)]; omega
def fitSp (s : Sp) (n : Int) : Sp := if 1 + s.k % 3 = 2 then ⟨2, 0, fitS (s.t.extract 0 (min s.t.size 6))⟩ else ⟨1 + s.k % 3, min (s.n % 7) n, ⟨#[]⟩⟩
def fitStep (p : List Sp × Int) (s : Sp) : List Sp × Int := (p.1 ++ [fitSp s p.2], p.2 - (fitSp s p.2).n)
def fitP (l : List Sp) (n : Int) : List Sp × Int := l.foldl fitStep ([], n)
theorem fitP_succ (l : List Sp) (n : Int) {i : Nat} (h : i < l.length) : fitP (l.take (i + 1)) n = fitStep (fitP (l.take i) n) l[i] := by
  unfold fitP; rw [List.take_succ_eq_append_getElem h, List.foldl_append]; rfl
def fitO (l : List Sp) (n : Int) : List Sp := (fitP (l.take 12) n).1 ++ if 0 < (fitP (l.take 12) n).2 then [⟨1, (fitP (l.take 12) n).2, ⟨#[]⟩⟩] else []
theorem fitP_len (l : List Sp) : ∀ a, (l.foldl fitStep a).1.length = a.1.length + l.length := by
  induction l with
  | nil => simp
  | cons s l ih => intro a; rw [List.foldl_cons, ih]; simp [fitStep]; omega
theorem fitP_n (l : List Sp) : ∀ a : List Sp × Int, 0 ≤ a.2 → 0 ≤ (l.foldl fitStep a).2 ∧ (l.foldl fitStep a).2 ≤ a.2 := by
  induction l with
  | nil => intro a h; simp; omega
  | cons s l ih =>
    intro a h
    rw [List.foldl_cons]
    have h1 : 0 ≤ (fitStep a s).2 ∧ (fitStep a s).2 ≤ a.2 := by
      simp only [fitStep, fitSp]; split
      · simp; omega
      · simp only; omega
    obtain ⟨h2, h3⟩ := ih _ h1.1
    omega
theorem fit4_call (l : List Sp) (n : Int) (hn : 0 ≤ n ∧ n ≤ 2000000) : CallW env 31 [.lst 3 (sps l), .v (.int .i64 n)] (fun r hs => r = .lst 3 (sps (fitO l n)) ∧ hs = []) := by
  have hsl := sps_len l
  have hm := Ev.max_big
  refine Ev.fn [0, 1, 4, 5, 6, 7, 16, 31, 67] 0 [.tmp 4] Tryd.func31 (comp31 _ rfl) ?_
  repeat' (first | ((refine Ev.sw ?_); conv => whnf) | refine Ev.sn ?_ | ((with_reducible refine Ev.chk_k ?_ ?_); rotate_left; exact Ev.bt; conv => whnf) | ((with_reducible (refine Ev.RI.run ?_; constructor)) <;> intro _) | ((refine Ev.sg ?_); conv => whnf) | ((with_reducible refine Ev.sided ?_ ?_); conv => whnf) | ((with_reducible refine Ev.kr (hs := []) (fun Q hQ => ?_)); (simp only [Ev.runE_cons, Ev.runE_nil]); conv => whnf) | (with_reducible refine hQ _ ?_; clear hQ Q) | ((refine Ev.sf ?_); intro F hF; conv => whnf) | (with_reducible refine hF _ ?_; clear hF F) | ((with_reducible refine Ev.go_k (fun c' => ?_)); conv => whnf) | ((with_reducible refine Ev.dr0 ?_); (first | refine Ev.dr 7 [] [0, 1, 2, 3, 4, 5, 6, 7, 8, 9, 10, 11, 12, 13, 14, 15] ?_); intro Q hQ; (simp only [Ev.runE_cons, Ev.runE_nil]); conv => whnf) | ((first | refine Ev.el_map0 ?_ (fun hi => ?_) | refine Ev.el_mapN ?_ (fun hi => ?_)); rotate_left; conv => whnf) | ((with_reducible refine Ev.sd0 ?_); exact Ev.sd) | fail)
  refine Ev.loop (fun k s => ∃ (i v c : Nat), s = ⟨[(0, .lst 3 (sps l)), (1, .v (.int .i64 (fitP (l.take i) n).2)), (4, .v (.slice none 0 0)), (5, .own 512 v 0 i), (6, .v (.int .i64 i))], [(512, ⟨3, 35, v, 0, false, sps (fitP (l.take i) n).1⟩)], c⟩ ∧ k + i = 12 ∧ i ≤ l.length) ?_ ?_
  · (refine Ev.to _ ?hs1 ?hh1 ?hc1 ⟨12, 0, ?_, ?_, rfl, ?hp1⟩; (case hs1 | hh1 => ((repeat' (first | exact trivial | refine And.intro ?_ ?_)) <;> (first | exact Ev.se | (refine Ev.slot_eq rfl ?_; first | (rfl) | ((first | refine Ev.int_eq ?_ | refine Ev.own_eq ?_ | refine Ev.blk_eq ?_); (rfl))) | exact Ev.sr))); (case hc1 => exact Nat.le_refl _))
    exact ⟨rfl, by omega⟩
  rintro k s1 ⟨i, v, c, rfl, hk, hi'⟩
  have hlen : (fitP (l.take i) n).1.length = i := by unfold fitP; rw [fitP_len]; simp; omega
  have hsl2 := sps_len (fitP (l.take i) n).1
  obtain ⟨hn0, hn1⟩ : 0 ≤ (fitP (l.take i) n).2 ∧ (fitP (l.take i) n).2 ≤ n := fitP_n (l.take i) ([], n) hn.1
  repeat' (first | ((refine Ev.sw ?_); conv => whnf) | refine Ev.sn ?_ | ((with_reducible refine Ev.chk_k ?_ ?_); rotate_left; exact Ev.bt; conv => whnf) | ((with_reducible (refine Ev.RI.run ?_; constructor)) <;> intro _) | ((refine Ev.sg ?_); conv => whnf) | ((with_reducible refine Ev.sided ?_ ?_); conv => whnf) | ((with_reducible refine Ev.kr (hs := []) (fun Q hQ => ?_)); (simp only [Ev.runE_cons, Ev.runE_nil]); conv => whnf) | (with_reducible refine hQ _ ?_; clear hQ Q) | ((refine Ev.sf ?_); intro F hF; conv => whnf) | (with_reducible refine hF _ ?_; clear hF F) | ((with_reducible refine Ev.go_k (fun c' => ?_)); conv => whnf) | ((refine Ev.call_det (fit_call _ (by rw [ByteArray.size_extract]; omega)) rfl rfl ?_); conv => whnf) | ((with_reducible refine Ev.dr0 ?_); (first | refine Ev.dr 7 [] [0, 1, 2, 3, 4, 5, 6, 7, 8, 9, 10, 11, 12, 13, 14, 15] ?_); intro Q hQ; (simp only [Ev.runE_cons, Ev.runE_nil]); conv => whnf) | ((first | refine Ev.el_map0 ?_ (fun hi => ?_) | refine Ev.el_mapN ?_ (fun hi => ?_)); rotate_left; conv => whnf) | ((with_reducible refine Ev.sd0 ?_); exact Ev.sd) | fail)
  · rename_i hk2 _
    rw [kmod] at hk2
    have hs := fitP_succ l n hi
    have hf : fitSp l[i] (fitP (l.take i) n).2 = ⟨2, 0, fitS (l[i].t.extract 0 (min l[i].t.size 6))⟩ := if_pos hk2
    have hx : (min (l[i].t.size : Int) 6).toNat = min l[i].t.size 6 := by omega
    (refine Ev.again (k - 1) _ ?hm2 ?hs2 ?hh2 ?hc2 ⟨i + 1, ?_, ?_, rfl, ?hp2⟩; (case hs2 | hh2 => ((repeat' (first | exact trivial | refine And.intro ?_ ?_)) <;> (first | exact Ev.se | (refine Ev.slot_eq rfl ?_; first | (first | (simp; done) | (rw [hs]; simp [fitStep, hf, sps, spC, kmod, hk2, hx]; done)) | ((first | refine Ev.int_eq ?_ | refine Ev.own_eq ?_ | refine Ev.blk_eq ?_); (first | (simp; done) | (rw [hs]; simp [fitStep, hf, sps, spC, kmod, hk2, hx]; done)))) | exact Ev.sr))); (case hc2 => exact Nat.le_refl _); (case hm2 => omega))
    exact ⟨by omega, by omega⟩
  · rename_i hk2
    rw [kmod] at hk2
    have hs := fitP_succ l n hi
    have hf : fitSp l[i] (fitP (l.take i) n).2 = ⟨1 + l[i].k % 3, min (l[i].n % 7) (fitP (l.take i) n).2, ⟨#[]⟩⟩ := if_neg hk2
    have hw : IntKind.i64.wrap ((fitP (l.take i) n).2 - min (l[i].n % 7) (fitP (l.take i) n).2) = (fitP (l.take i) n).2 - min (l[i].n % 7) (fitP (l.take i) n).2 := by rw [Ev.wrap64]; omega
    (refine Ev.again (k - 1) _ ?hm3 ?hs3 ?hh3 ?hc3 ⟨i + 1, ?_, ?_, rfl, ?hp3⟩; (case hs3 | hh3 => ((repeat' (first | exact trivial | refine And.intro ?_ ?_)) <;> (first | exact Ev.se | (refine Ev.slot_eq rfl ?_; first | (first | (simp; done) | (rw [hs]; simp [fitStep, hf, sps, spC, kmod, nmod]; done) | (rw [hs, nmod]; simp only [fitStep, hf]; exact hw)) | ((first | refine Ev.int_eq ?_ | refine Ev.own_eq ?_ | refine Ev.blk_eq ?_); (first | (simp; done) | (rw [hs]; simp [fitStep, hf, sps, spC, kmod, nmod]; done) | (rw [hs, nmod]; simp only [fitStep, hf]; exact hw)))) | exact Ev.sr))); (case hc3 => exact Nat.le_refl _); (case hm3 => omega))
    exact ⟨by omega, by omega⟩
  all_goals
    have hT : l.take 12 = l.take i := by
      first
        | rw [show i = 12 by omega]
        | rw [List.take_of_length_le (by simp at *; omega), List.take_of_length_le (by simp at *; omega)]
    refine ⟨Ev.lst_eq (Ev.take_all ?_ ?_), rfl⟩
    · simp [hlen, sps_len]
    · simp [fitO, hT, sps, spC, *]
theorem wrap_add (a b : Int) : IntKind.i64.wrap (IntKind.i64.wrap a + b) = IntKind.i64.wrap (a + b) := by simp only [Ev.wrap64]; omega
theorem wrap_id {a : Int} (h : -9223372036854775808 ≤ a ∧ a < 9223372036854775808) : IntKind.i64.wrap a = a := by rw [Ev.wrap64]; omega
def sumI (f : Sp → Int) (l : List Sp) : Int := (l.map f).sum
theorem sumI_nil (f : Sp → Int) : sumI f [] = 0 := rfl
theorem sumI_cons (f : Sp → Int) (s : Sp) (l : List Sp) : sumI f (s :: l) = f s + sumI f l := by simp [sumI]
theorem sumI_app (f : Sp → Int) (a b : List Sp) : sumI f (a ++ b) = sumI f a + sumI f b := by simp [sumI]
theorem sumW_wrap (f : Sp → Int) : ∀ (l : List Sp) (a : Int), l.foldl (fun a s => IntKind.i64.wrap (a + f s)) (IntKind.i64.wrap a) = IntKind.i64.wrap (a + sumI f l)
  | [], a => by simp [sumI]
  | s :: l, a => by rw [List.foldl_cons, wrap_add, sumW_wrap f l, sumI_cons, Int.add_assoc]
theorem sumW_eq (f : Sp → Int) (l : List Sp) : sumW f l = IntKind.i64.wrap (sumI f l) := by
  have h := sumW_wrap f l 0
  rw [Int.zero_add] at h; rw [← h]; rfl
theorem sumI_bound (f : Sp → Int) (b : Int) : ∀ l : List Sp, (∀ s ∈ l, 0 ≤ f s ∧ f s ≤ b) → 0 ≤ sumI f l ∧ sumI f l ≤ b * l.length
  | [], _ => by simp [sumI]
  | s :: l, h => by
    have h1 := h s (by simp)
    have h2 := sumI_bound f b l (fun s hs => h s (by simp [hs]))
    rw [sumI_cons, List.length_cons]
    have : b * ((l.length + 1 : Nat) : Int) = b * l.length + b := by rw [Int.natCast_succ, Int.mul_add, Int.mul_one]
    omega
def inS (s : Sp) : Int := inF s.k s.n
def outS (s : Sp) : Int := outF s.k s.n s.t
theorem fitS_valid (t : ByteArray) : validD (fitS t).data.toList = true := fit_valid t
theorem fitSp_put {s : Sp} (n : Int) (h : 1 + s.k % 3 = 2) : fitSp s n = ⟨2, 0, fitS (s.t.extract 0 (min s.t.size 6))⟩ := if_pos h
theorem fitSp_not {s : Sp} (n : Int) (h : ¬ 1 + s.k % 3 = 2) : fitSp s n = ⟨1 + s.k % 3, min (s.n % 7) n, ⟨#[]⟩⟩ := if_neg h
theorem fitSp_may (s : Sp) {n : Int} (h : 0 ≤ n ∧ n ≤ 1048576) : mayS (fitSp s n) = 0 := by
  by_cases hk : 1 + s.k % 3 = 2
  · rw [fitSp_put n hk]; simp [mayS, mayF, fitS_valid]
  · rw [fitSp_not n hk]
    have : 1 + s.k % 3 = 1 ∨ 1 + s.k % 3 = 3 := by omega
    simp only [mayS, mayF, this, if_true]
    rw [if_neg (by omega)]
theorem fitSp_n (s : Sp) {n : Int} (h : 0 ≤ n) : 0 ≤ (fitSp s n).n ∧ (fitSp s n).n ≤ 6 ∧ (fitSp s n).n ≤ n ∧ inS (fitSp s n) = (fitSp s n).n := by
  by_cases hk : 1 + s.k % 3 = 2
  · rw [fitSp_put n hk]; simp [inS, inF]; omega
  · rw [fitSp_not n hk]
    have : 1 + s.k % 3 = 1 ∨ 1 + s.k % 3 = 3 := by omega
    simp only [inS, inF, this, if_true, and_true]; omega
theorem fitSp_t (s : Sp) (n : Int) : (fitSp s n).t.size ≤ 24 := by
  unfold fitSp; split
  · have h := enc_len (eight_fit (s.t.extract 0 (min s.t.size 6)) (s.t.extract 0 (min s.t.size 6)).size)
    rw [fitL_len, ← strI_list, len_list] at h
    have e : (s.t.extract 0 (min s.t.size 6)).size ≤ 6 := by rw [ByteArray.size_extract]; omega
    show (fitS _).size ≤ 24
    unfold fitS; omega
  · show (⟨#[]⟩ : ByteArray).size ≤ 24; decide
theorem fitP_all (l : List Sp) : ∀ a : List Sp × Int, (0 ≤ a.2 ∧ a.2 ≤ 1048576) → (∀ s ∈ a.1, mayS s = 0 ∧ s.t.size ≤ 24 ∧ 0 ≤ inS s ∧ inS s ≤ 6) →
    (∀ s ∈ (l.foldl fitStep a).1, mayS s = 0 ∧ s.t.size ≤ 24 ∧ 0 ≤ inS s ∧ inS s ≤ 6) ∧ sumI inS (l.foldl fitStep a).1 + (l.foldl fitStep a).2 = sumI inS a.1 + a.2 := by
  induction l with
  | nil => intro a _ h; exact ⟨h, rfl⟩
  | cons s l ih =>
    intro a ha h
    rw [List.foldl_cons]
    obtain ⟨b1, b2, b3, b4⟩ := fitSp_n s ha.1
    have key := ih (fitStep a s) (by simp only [fitStep]; omega) (by
      intro x hx
      simp only [fitStep, List.mem_append, List.mem_singleton] at hx
      rcases hx with hx | rfl
      · exact h x hx
      · exact ⟨fitSp_may s ha, fitSp_t s _, by omega, by omega⟩)
    refine ⟨key.1, ?_⟩
    rw [key.2]
    simp only [fitStep, sumI_app, sumI_cons, sumI_nil, b4]; omega
theorem fitO_all (l : List Sp) {n : Int} (hn : 0 ≤ n ∧ n ≤ 1048576) : (∀ s ∈ fitO l n, mayS s = 0 ∧ s.t.size ≤ 24 ∧ 0 ≤ inS s ∧ inS s ≤ 1048576) ∧ sumI inS (fitO l n) = n ∧ (fitO l n).length ≤ 13 := by
  obtain ⟨h1, h2⟩ := fitP_all (l.take 12) ([], n) hn (by simp)
  obtain ⟨h3, h4⟩ := fitP_n (l.take 12) ([], n) hn.1
  have h5 := fitP_len (l.take 12) ([], n)
  rw [show (l.take 12).foldl fitStep ([], n) = fitP (l.take 12) n from rfl] at h1 h2 h3 h4 h5
  rw [sumI_nil] at h2
  simp only at h2 h3 h4 h5
  unfold fitO
  refine ⟨?_, ?_, ?_⟩
  · intro s hs
    rw [List.mem_append] at hs
    rcases hs with hs | hs
    · obtain ⟨a, b, c, d⟩ := h1 s hs; exact ⟨a, b, c, by omega⟩
    · split at hs
      · simp only [List.mem_singleton] at hs; subst hs
        refine ⟨?_, ?_, ?_⟩
        · simp only [mayS, mayF, true_or, if_true]; rw [if_neg (by omega)]
        · show (⟨#[]⟩ : ByteArray).size ≤ 24; decide
        · simp only [inS, inF, true_or, if_true]; omega
      · simp at hs
  · rw [sumI_app]
    split
    · simp only [sumI_cons, sumI_nil, inS, inF, true_or, if_true]; omega
    · rw [sumI_nil]; omega
  · rw [List.length_append, h5]
    have : (l.take 12).length ≤ 12 := by rw [List.length_take]; omega
    split <;> simp <;> omega
theorem firstE_zero (f : Sp → Int) : ∀ l : List Sp, (∀ s ∈ l, f s = 0) → firstE f l = 0
  | [], _ => rfl
  | s :: l, h => by simp only [firstE]; rw [if_pos (h s (by simp))]; exact firstE_zero f l (fun x hx => h x (by simp [hx]))
theorem inW_eq (l : List Sp) : inW l = IntKind.i64.wrap (sumI inS l) := sumW_eq _ _
theorem outW_eq (l : List Sp) : outW l = IntKind.i64.wrap (sumI outS l) := sumW_eq _ _
theorem fitO_in (l : List Sp) {n : Int} (hn : 0 ≤ n ∧ n ≤ 1048576) : inW (fitO l n) = n := by
  rw [inW_eq, (fitO_all l hn).2.1]; exact wrap_id (by omega)
theorem fitO_may (l : List Sp) {n : Int} (hn : 0 ≤ n ∧ n ≤ 1048576) : opMayF (fitO l n) = 0 := by
  unfold opMayF
  rw [firstE_zero _ _ (fun s hs => ((fitO_all l hn).1 s hs).1), if_pos rfl, fitO_in l hn, if_neg (by omega)]
theorem fitO_small (l : List Sp) {n : Int} (hn : 0 ≤ n ∧ n ≤ 1048576) : Small (fitO l n) := fun s hs => by have := ((fitO_all l hn).1 s hs).2.1; omega
end Go.Proofs.YtadlnaljicikfaaDoor.Abs
namespace Go.Proofs.YtadlnaljicikfaaDoor.Abs
open Go Go.Lib
theorem decodeN_pre {n n' b0 b1 b2 b3 c1 c2 c3 : Nat} (h1 : 1 < n → 1 < n' ∧ c1 = b1) (h2 : 2 < n → 2 < n' ∧ c2 = b2) (h3 : 3 < n → 3 < n' ∧ c3 = b3) (h : decodeN n b0 b1 b2 b3 ≠ (65533, 1)) : decodeN n' b0 c1 c2 c3 = decodeN n b0 b1 b2 b3 := by
  unfold decodeN at h ⊢
  by_cases a0 : b0 < 128
  · rw [if_pos a0, if_pos a0]
  rw [if_neg a0] at h ⊢
  rw [if_neg a0]
  by_cases a1 : b0 / 32 = 6 ∧ (1 < n ∧ b1 / 64 = 2)
  · obtain ⟨x, rfl⟩ := h1 a1.2.1
    rw [if_pos a1, if_pos ⟨a1.1, x, a1.2.2⟩]
  rw [if_neg a1] at h ⊢
  by_cases a2 : b0 / 16 = 14 ∧ (1 < n ∧ b1 / 64 = 2) ∧ (2 < n ∧ b2 / 64 = 2)
  · obtain ⟨x, rfl⟩ := h1 a2.2.1.1
    obtain ⟨y, rfl⟩ := h2 a2.2.2.1
    have a1' : ¬ (b0 / 32 = 6 ∧ (1 < n' ∧ c1 / 64 = 2)) := by omega
    rw [if_neg a1', if_pos a2, if_pos ⟨a2.1, ⟨x, a2.2.1.2⟩, y, a2.2.2.2⟩]
  rw [if_neg a2] at h ⊢
  by_cases a3 : b0 / 8 = 30 ∧ (1 < n ∧ b1 / 64 = 2) ∧ (2 < n ∧ b2 / 64 = 2) ∧ (3 < n ∧ b3 / 64 = 2)
  · obtain ⟨x, rfl⟩ := h1 a3.2.1.1
    obtain ⟨y, rfl⟩ := h2 a3.2.2.1.1
    obtain ⟨z, rfl⟩ := h3 a3.2.2.2.1
    have a1' : ¬ (b0 / 32 = 6 ∧ (1 < n' ∧ c1 / 64 = 2)) := by omega
    have a2' : ¬ (b0 / 16 = 14 ∧ (1 < n' ∧ c1 / 64 = 2) ∧ (2 < n' ∧ c2 / 64 = 2)) := by omega
    rw [if_neg a1', if_neg a2', if_pos a3, if_pos ⟨a3.1, ⟨x, a3.2.1.2⟩, ⟨y, a3.2.2.1.2⟩, z, a3.2.2.2.2⟩]
  rw [if_neg a3] at h
  exact absurd rfl h
theorem decode_app {a : List UInt8} (ha : a ≠ []) (h : decodeL a ≠ (65533, 1)) (b : List UInt8) : decodeL (a ++ b) = decodeL a := by
  have hp := List.length_pos_iff.2 ha
  rw [decodeL_N] at h ⊢
  rw [decodeL_N a]
  have g : ∀ i, i < a.length → ((a ++ b).getD i 0).toNat = (a.getD i 0).toNat := fun i hi => by
    simp only [List.getD_eq_getElem?_getD, List.getElem?_append_left hi]
  rw [g 0 hp]
  refine decodeN_pre (fun h1 => ?_) (fun h1 => ?_) (fun h1 => ?_) h
  · exact ⟨by rw [List.length_append]; omega, g 1 h1⟩
  · exact ⟨by rw [List.length_append]; omega, g 2 h1⟩
  · exact ⟨by rw [List.length_append]; omega, g 3 h1⟩
def ptsGo : Nat → List UInt8 → List Nat
  | 0, _ => []
  | n + 1, l => if l = [] then [] else (decodeL l).1 :: ptsGo n (l.drop (decodeL l).2)
def pts (l : List UInt8) : List Nat := ptsGo l.length l
theorem ptsGo_fuel : ∀ (n m : Nat) (l : List UInt8), l.length ≤ n → l.length ≤ m → ptsGo n l = ptsGo m l
  | 0, 0, l, _, _ => rfl
  | 0, m + 1, l, h, _ => by
    have : l = [] := List.length_eq_zero_iff.1 (by omega)
    subst this; simp [ptsGo]
  | n + 1, 0, l, _, h => by
    have : l = [] := List.length_eq_zero_iff.1 (by omega)
    subst this; simp [ptsGo]
  | n + 1, m + 1, l, h1, h2 => by
    simp only [ptsGo]
    by_cases he : l = []
    · rw [if_pos he, if_pos he]
    · rw [if_neg he, if_neg he]
      have := decodeL_width l
      rw [ptsGo_fuel n m _ (by rw [List.length_drop]; omega) (by rw [List.length_drop]; omega)]
theorem pts_nil : pts [] = [] := rfl
theorem pts_step {l : List UInt8} (h : l ≠ []) : pts l = (decodeL l).1 :: pts (l.drop (decodeL l).2) := by
  unfold pts
  obtain ⟨n, hn⟩ : ∃ n, l.length = n + 1 := ⟨l.length - 1, by have := List.length_pos_iff.2 h; omega⟩
  rw [hn, ptsGo, if_neg h]
  have := decodeL_width l
  rw [ptsGo_fuel n _ _ (by rw [List.length_drop]; omega) (Nat.le_refl _)]
theorem text_ind {P : List UInt8 → Prop} (h0 : P []) (h1 : ∀ l, l ≠ [] → validD l = true → decodeL l ≠ (65533, 1) → validD (l.drop (decodeL l).2) = true → P (l.drop (decodeL l).2) → P l) : ∀ l, validD l = true → P l := by
  have key : ∀ n (l : List UInt8), l.length ≤ n → validD l = true → P l := by
    intro n
    induction n with
    | zero => intro l hl _; have : l = [] := List.length_eq_zero_iff.1 (by omega); subst this; exact h0
    | succ n ih =>
      intro l hl hv
      by_cases he : l = []
      · subst he; exact h0
      · have hs := hv
        rw [validD_step he] at hs
        by_cases hd : decodeL l = (65533, 1)
        · rw [if_pos hd] at hs; cases hs
        · rw [if_neg hd] at hs
          have hw := decodeL_width l
          have hp := List.length_pos_iff.2 he
          exact h1 l he hv hd hs (ih _ (by rw [List.length_drop]; omega) hs)
  intro l; exact key l.length l (Nat.le_refl _)
theorem drop_app {l : List UInt8} (he : l ≠ []) (b : List UInt8) : (l ++ b).drop (decodeL l).2 = l.drop (decodeL l).2 ++ b := by
  rw [List.drop_append_of_le_length (decodeL_le l he)]
theorem valid_app : ∀ a, validD a = true → ∀ b, validD (a ++ b) = validD b := by
  refine text_ind (fun b => rfl) (fun l he hv hd hs ih b => ?_)
  have hne : l ++ b ≠ [] := by simp [he]
  rw [validD_step hne, decode_app he hd, if_neg hd, drop_app he, ih]
theorem pts_app : ∀ a, validD a = true → ∀ b, pts (a ++ b) = pts a ++ pts b := by
  refine text_ind (fun b => by simp [pts_nil]) (fun l he hv hd hs ih b => ?_)
  have hne : l ++ b ≠ [] := by simp [he]
  rw [pts_step hne, decode_app he hd, drop_app he, ih, pts_step he, List.cons_append]
theorem posD_pts : ∀ (l : List UInt8) (a : Int), (posD l a).length = (pts l).length := by
  have key : ∀ n (l : List UInt8) (a : Int), l.length ≤ n → (posD l a).length = (pts l).length := by
    intro n
    induction n with
    | zero => intro l a hl; have : l = [] := List.length_eq_zero_iff.1 (by omega); subst this; rfl
    | succ n ih =>
      intro l a hl
      by_cases he : l = []
      · subst he; rfl
      · have hw := decodeL_width l
        have hp := List.length_pos_iff.2 he
        rw [posD_step he, pts_step he, List.length_cons, List.length_cons, ih _ _ (by rw [List.length_drop]; omega)]
  intro l a; exact key l.length l a (Nat.le_refl _)
theorem countD_pts {l : List UInt8} (h : validD l = true) : countD l = (pts l).length := by
  unfold countD; rw [if_pos h, posD_pts]
theorem countD_bad {l : List UInt8} (h : validD l = false) : countD l = -1 := by
  unfold countD; rw [h]; rfl
theorem countD_app {a b : List UInt8} (ha : validD a = true) (hb : validD b = true) : countD (a ++ b) = countD a + countD b := by
  rw [countD_pts ha, countD_pts hb, countD_pts (by rw [valid_app a ha, hb]), pts_app a ha, List.length_append]; rfl
theorem pts_len (l : List UInt8) : (pts l).length ≤ l.length := by rw [← posD_pts l 0]; exact posD_len l 0
theorem pts_ne {l : List UInt8} (h : l ≠ []) : pts l ≠ [] := by rw [pts_step h]; simp
theorem str_app (a b : ByteArray) : (a ++ b).data.toList = a.data.toList ++ b.data.toList := app_list a b
theorem str_nil {t : ByteArray} : t = ⟨#[]⟩ ↔ t.data.toList = [] := by
  constructor
  · rintro rfl; rfl
  · intro h; cases t with | mk d => simp at h; subst h; rfl
def emptyS (s : Sp) : Bool := decide (s.n = 0) && decide (s.t = ⟨#[]⟩)
def isNG (p : Option Int) : List Sp → Bool
  | [] => true
  | s :: l => !emptyS s && !decide (p = some s.k) && isNG (some s.k) l
def isN (l : List Sp) : Bool := isNG none l
def mrg (a b : Sp) : Sp := ⟨a.k, IntKind.i64.wrap (a.n + b.n), a.t ++ b.t⟩
def normC (cur : Sp) : List Sp → List Sp
  | [] => [cur]
  | s :: l => if emptyS s then normC cur l else if s.k = cur.k then normC (mrg cur s) l else cur :: normC s l
def norm : List Sp → List Sp
  | [] => []
  | s :: l => if emptyS s then norm l else normC s l
def SpOK (s : Sp) : Prop := mayS s = 0
theorem SpOK.cases {s : Sp} (h : SpOK s) : ((s.k = 1 ∨ s.k = 3) ∧ 0 ≤ s.n ∧ s.n ≤ 1048576 ∧ s.t = ⟨#[]⟩) ∨ (s.k = 2 ∧ s.n = 0 ∧ validD s.t.data.toList = true) := by
  unfold SpOK mayS mayF at h
  by_cases h1 : s.k = 1 ∨ s.k = 3
  · rw [if_pos h1] at h
    by_cases h2 : s.n < 0 ∨ 1048576 < s.n
    · rw [if_pos h2] at h; exact absurd h (by decide)
    · rw [if_neg h2] at h
      by_cases h3 : s.t = ⟨#[]⟩
      · exact .inl ⟨h1, by omega, by omega, h3⟩
      · rw [if_neg h3] at h; exact absurd h (by decide)
  · rw [if_neg h1] at h
    by_cases h2 : s.k = 2
    · rw [if_pos h2] at h
      by_cases h3 : s.n ≠ 0
      · rw [if_pos h3] at h; exact absurd h (by decide)
      · rw [if_neg h3] at h
        cases hv : validD s.t.data.toList with
        | true => exact .inr ⟨h2, by omega, rfl⟩
        | false => rw [hv] at h; exact absurd h (by decide)
    · rw [if_neg h2] at h; exact absurd h (by decide)
theorem SpOK.keep {s : Sp} (h1 : s.k = 1 ∨ s.k = 3) (h2 : 0 ≤ s.n ∧ s.n ≤ 1048576) (h3 : s.t = ⟨#[]⟩) : SpOK s := by
  unfold SpOK mayS mayF; rw [if_pos h1, if_neg (by omega), if_pos h3]
theorem SpOK.put {s : Sp} (h1 : s.k = 2) (h2 : s.n = 0) (h3 : validD s.t.data.toList = true) : SpOK s := by
  unfold SpOK mayS mayF; rw [if_neg (by omega), if_pos h1, if_neg (by omega), if_pos h3]
theorem opMay_iff (l : List Sp) : opMayF l = 0 ↔ (∀ s ∈ l, SpOK s) ∧ inW l ≤ 1048576 := by
  have h : firstE mayS l = 0 ↔ ∀ s ∈ l, SpOK s := by
    induction l with
    | nil => simp [firstE]
    | cons s l ih =>
      simp only [firstE, List.mem_cons, forall_eq_or_imp]
      by_cases h : mayS s = 0
      · rw [if_pos h, ih]; exact ⟨fun a => ⟨h, a⟩, fun a => a.2⟩
      · rw [if_neg h]; exact ⟨fun a => absurd a h, fun a => absurd a.1 h⟩
  unfold opMayF
  by_cases h0 : firstE mayS l = 0
  · rw [if_pos h0]
    by_cases h1 : 1048576 < inW l
    · rw [if_pos h1]; exact ⟨fun a => absurd a (by decide), fun a => by omega⟩
    · rw [if_neg h1]; exact ⟨fun _ => ⟨h.1 h0, by omega⟩, fun _ => rfl⟩
  · rw [if_neg h0]; exact ⟨fun a => absurd a h0, fun a => absurd (h.2 a.1) h0⟩
theorem SpOK.inS {s : Sp} (h : SpOK s) : 0 ≤ inS s ∧ inS s ≤ 1048576 := by
  unfold Abs.inS inF
  rcases h.cases with ⟨a, b, c, _⟩ | ⟨a, b, _⟩
  · rw [if_pos a]; exact ⟨b, c⟩
  · rw [if_neg (by omega)]; omega
theorem inW_sum {l : List Sp} (h : ∀ s ∈ l, SpOK s) (hl : l.length ≤ 1000000000) : inW l = sumI inS l := by
  rw [inW_eq]
  have := sumI_bound inS 1048576 l (fun s hs => (h s hs).inS)
  exact wrap_id (by omega)
theorem empty_iff {s : Sp} : emptyS s = true ↔ s.n = 0 ∧ s.t = ⟨#[]⟩ := by simp [emptyS]
theorem empty_in {s : Sp} (h : emptyS s = true) : inS s = 0 ∧ outS s = 0 := by
  obtain ⟨h1, h2⟩ := empty_iff.1 h
  unfold inS outS inF outF
  rw [h1, h2]
  refine ⟨by split <;> rfl, ?_⟩
  split
  · rfl
  · split
    · rfl
    · rfl
def tbs (l : List Sp) : Nat := (l.map fun s => s.t.size).sum
theorem tbs_cons (s : Sp) (l : List Sp) : tbs (s :: l) = s.t.size + tbs l := by simp [tbs]
theorem empty_tbs {s : Sp} (h : emptyS s = true) : s.t.size = 0 := by rw [(empty_iff.1 h).2]; rfl
theorem size_app (a b : ByteArray) : (a ++ b).size = a.size + b.size := by rw [← len_list, ← len_list, ← len_list, str_app, List.length_append]
theorem mrg_ok {a b : Sp} (ha : SpOK a) (hb : SpOK b) (hk : b.k = a.k) (hs : inS a + inS b ≤ 1048576) : SpOK (mrg a b) ∧ inS (mrg a b) = inS a + inS b ∧ outS (mrg a b) = outS a + outS b ∧ (mrg a b).t.size = a.t.size + b.t.size ∧ (mrg a b).n = a.n + b.n := by
  rcases ha.cases with ⟨a1, a2, a3, a4⟩ | ⟨a1, a2, a3⟩
  · rcases hb.cases with ⟨b1, b2, b3, b4⟩ | ⟨b1, b2, b3⟩
    · have e1 : inS a = a.n := by unfold inS inF; rw [if_pos a1]
      have e2 : inS b = b.n := by unfold inS inF; rw [if_pos b1]
      rw [e1, e2] at hs ⊢
      have ew : IntKind.i64.wrap (a.n + b.n) = a.n + b.n := wrap_id (by omega)
      have hm : mrg a b = ⟨a.k, a.n + b.n, ⟨#[]⟩⟩ := by
        unfold mrg; rw [ew, a4, b4]; rfl
      rw [hm]
      refine ⟨SpOK.keep a1 (by simp only; omega) rfl, ?_, ?_, ?_, rfl⟩
      · unfold inS inF; simp only; rw [if_pos a1]
      · unfold outS outF; simp only; rw [hk]
        by_cases h1 : a.k = 1
        · rw [if_pos h1, if_pos h1, if_pos h1]
        · rw [if_neg h1, if_neg h1, if_neg h1, if_neg (by omega), if_neg (by omega), if_neg (by omega)]; rfl
      · rw [a4, b4]; rfl
    · omega
  · rcases hb.cases with ⟨b1, b2, b3, b4⟩ | ⟨b1, b2, b3⟩
    · omega
    · have ew : IntKind.i64.wrap (a.n + b.n) = 0 := by rw [a2, b2]; rfl
      have hm : mrg a b = ⟨a.k, 0, a.t ++ b.t⟩ := by unfold mrg; rw [ew]
      rw [hm]
      have hv : validD (a.t ++ b.t).data.toList = true := by rw [str_app, valid_app _ a3, b3]
      refine ⟨SpOK.put a1 rfl hv, ?_, ?_, size_app _ _, by simp only; omega⟩
      · unfold inS inF; simp only; rw [hk, a1]; rfl
      · unfold outS outF; simp only; rw [hk, a1]
        simp only [show ¬ ((2 : Int) = 1) by decide, if_false, if_true]
        rw [str_app, countD_app a3 b3]
        have := countD_pts a3; have := countD_pts b3
        omega
theorem normC_all : ∀ (l : List Sp) (cur : Sp), SpOK cur → (∀ s ∈ l, SpOK s) → inS cur + sumI inS l ≤ 1048576 →
    (∀ s ∈ normC cur l, SpOK s) ∧ sumI inS (normC cur l) = inS cur + sumI inS l ∧ sumI outS (normC cur l) = outS cur + sumI outS l ∧ tbs (normC cur l) = cur.t.size + tbs l ∧ (normC cur l).length ≤ l.length + 1
  | [], cur, hc, hl, hs => by
    refine ⟨fun s h => ?_, by simp [normC, sumI], by simp [normC, sumI], by simp [normC, tbs], by simp [normC]⟩
    simp [normC] at h; subst h; exact hc
  | s :: l, cur, hc, hl, hs => by
    have h1 := hl s (by simp)
    have h2 : ∀ x ∈ l, SpOK x := fun x hx => hl x (by simp [hx])
    have h3 : 0 ≤ sumI inS l := (sumI_bound inS 1048576 l (fun x hx => (h2 x hx).inS)).1
    have h4 := h1.inS; have h5 := hc.inS
    rw [sumI_cons] at hs
    simp only [normC, sumI_cons, tbs_cons, List.length_cons]
    by_cases he : emptyS s = true
    · rw [if_pos he]
      obtain ⟨e1, e2⟩ := empty_in he
      have e3 := empty_tbs he
      obtain ⟨a, b, c, d, f⟩ := normC_all l cur hc h2 (by omega)
      exact ⟨a, by omega, by omega, by omega, by omega⟩
    · rw [if_neg he]
      by_cases hk : s.k = cur.k
      · rw [if_pos hk]
        obtain ⟨m1, m2, m3, m4, _⟩ := mrg_ok hc h1 hk (by omega)
        obtain ⟨a, b, c, d, f⟩ := normC_all l (mrg cur s) m1 h2 (by omega)
        exact ⟨a, by omega, by omega, by omega, by omega⟩
      · rw [if_neg hk]
        obtain ⟨a, b, c, d, f⟩ := normC_all l s h1 h2 (by omega)
        refine ⟨fun x hx => ?_, by rw [sumI_cons]; omega, by rw [sumI_cons]; omega, by rw [tbs_cons]; omega, by rw [List.length_cons]; omega⟩
        rcases List.mem_cons.1 hx with rfl | hx
        · exact hc
        · exact a x hx
theorem norm_all : ∀ (l : List Sp), (∀ s ∈ l, SpOK s) → sumI inS l ≤ 1048576 →
    (∀ s ∈ norm l, SpOK s) ∧ sumI inS (norm l) = sumI inS l ∧ sumI outS (norm l) = sumI outS l ∧ tbs (norm l) = tbs l ∧ (norm l).length ≤ l.length
  | [], hl, hs => by simp [norm]
  | s :: l, hl, hs => by
    have h1 := hl s (by simp)
    have h2 : ∀ x ∈ l, SpOK x := fun x hx => hl x (by simp [hx])
    rw [sumI_cons] at hs
    simp only [norm, sumI_cons, tbs_cons, List.length_cons]
    by_cases he : emptyS s = true
    · rw [if_pos he]
      obtain ⟨e1, e2⟩ := empty_in he
      have e3 := empty_tbs he
      obtain ⟨a, b, c, d, f⟩ := norm_all l h2 (by omega)
      exact ⟨a, by omega, by omega, by omega, by omega⟩
    · rw [if_neg he]
      exact normC_all l s h1 h2 hs
theorem normC_isN : ∀ (l : List Sp) (cur : Sp) (p : Option Int), emptyS cur = false → SpOK cur → (∀ s ∈ l, SpOK s) → inS cur + sumI inS l ≤ 1048576 → p ≠ some cur.k → isNG p (normC cur l) = true
  | [], cur, p, hc, _, _, _, hp => by simp [normC, isNG, hc, hp]
  | s :: l, cur, p, hc, ho, hl, hs, hp => by
    have h1 := hl s (by simp)
    have h2 : ∀ x ∈ l, SpOK x := fun x hx => hl x (by simp [hx])
    have h3 : 0 ≤ sumI inS l := (sumI_bound inS 1048576 l (fun x hx => (h2 x hx).inS)).1
    have h4 := h1.inS; have h5 := ho.inS
    rw [sumI_cons] at hs
    simp only [normC]
    by_cases he : emptyS s = true
    · rw [if_pos he]
      exact normC_isN l cur p hc ho h2 (by have := (empty_in he).1; omega) hp
    · rw [if_neg he]
      by_cases hk : s.k = cur.k
      · rw [if_pos hk]
        obtain ⟨m1, m2, m3, m4, m5⟩ := mrg_ok ho h1 hk (by omega)
        refine normC_isN l (mrg cur s) p ?_ m1 h2 (by omega) hp
        rw [Bool.eq_false_iff]
        intro hb
        obtain ⟨b1, b2⟩ := empty_iff.1 hb
        rw [b2] at m4
        have : cur.t.size = 0 := by have : (⟨#[]⟩ : ByteArray).size = 0 := rfl; omega
        have hct : cur.t = ⟨#[]⟩ := str_nil.2 (List.length_eq_zero_iff.1 (by rw [len_list]; exact this))
        have hn : cur.n ≠ 0 := fun hn => by rw [← Bool.not_eq_true] at hc; exact hc (empty_iff.2 ⟨hn, hct⟩)
        rcases ho.cases with ⟨_, x, _⟩ | ⟨_, x, _⟩ <;> rcases h1.cases with ⟨_, y, _⟩ | ⟨_, y, _⟩ <;> omega
      · rw [if_neg hk]
        simp only [isNG, hc, Bool.not_false, Bool.true_and, Bool.and_eq_true]
        refine ⟨by simp [hp], ?_⟩
        exact normC_isN l s (some cur.k) (by simpa using he) h1 h2 (by omega) (by intro e; exact hk (Option.some.inj e).symm)
theorem norm_isN : ∀ (l : List Sp), (∀ s ∈ l, SpOK s) → sumI inS l ≤ 1048576 → isN (norm l) = true
  | [], _, _ => rfl
  | s :: l, hl, hs => by
    have h1 := hl s (by simp)
    have h2 : ∀ x ∈ l, SpOK x := fun x hx => hl x (by simp [hx])
    rw [sumI_cons] at hs
    simp only [norm]
    by_cases he : emptyS s = true
    · rw [if_pos he]; exact norm_isN l h2 (by have := (empty_in he).1; omega)
    · rw [if_neg he]; exact normC_isN l s none (by simpa using he) h1 h2 hs (by simp)
theorem isNG_normC : ∀ (l : List Sp) (cur : Sp), isNG (some cur.k) l = true → normC cur l = cur :: l
  | [], cur, _ => rfl
  | s :: l, cur, h => by
    simp only [isNG, Bool.and_eq_true, Bool.not_eq_true', decide_eq_false_iff_not, Option.some.injEq] at h
    obtain ⟨⟨h1, h2⟩, h3⟩ := h
    simp only [normC, h1, Bool.false_eq_true, if_false]
    rw [if_neg (fun e => h2 e.symm), isNG_normC l s h3]
theorem isN_norm : ∀ {l : List Sp}, isN l = true → norm l = l
  | [], _ => rfl
  | s :: l, h => by
    simp only [isN, isNG, Bool.and_eq_true, Bool.not_eq_true'] at h
    obtain ⟨⟨h1, _⟩, h3⟩ := h
    simp only [norm, h1, Bool.false_eq_true, if_false]
    exact isNG_normC l s h3
theorem norm_may {l : List Sp} (h : opMayF l = 0) (hl : l.length ≤ 1000000000) : opMayF (norm l) = 0 := by
  obtain ⟨h1, h2⟩ := (opMay_iff l).1 h
  rw [inW_sum h1 hl] at h2
  obtain ⟨a, b, c, d, f⟩ := norm_all l h1 h2
  refine (opMay_iff _).2 ⟨a, ?_⟩
  rw [inW_sum a (by omega)]; omega
theorem norm_in {l : List Sp} (h : opMayF l = 0) (hl : l.length ≤ 1000000000) : inW (norm l) = inW l := by
  obtain ⟨h1, h2⟩ := (opMay_iff l).1 h
  rw [inW_sum h1 hl] at h2 ⊢
  obtain ⟨a, b, c, d, f⟩ := norm_all l h1 h2
  rw [inW_sum a (by omega)]; omega
theorem norm_out {l : List Sp} (h : opMayF l = 0) (hl : l.length ≤ 1000000000) : outW (norm l) = outW l := by
  obtain ⟨h1, h2⟩ := (opMay_iff l).1 h
  rw [inW_sum h1 hl] at h2
  obtain ⟨a, b, c, d, f⟩ := norm_all l h1 h2
  rw [outW_eq, outW_eq, c]
def bigT (l : List Sp) : Bool := l.any fun s => decide (65536 < s.t.size)
def wPutE (l : List Sp) : Int := if opMayF l = 0 then (if isN l then (if 65536 < l.length then 2 else if bigT l then 2 else 0) else 8) else opMayF l
theorem wPutE_of {l : List Sp} (h1 : opMayF l = 0) (h2 : isN l = true) (h3 : l.length ≤ 65536) (h4 : ∀ s ∈ l, s.t.size ≤ 65536) : wPutE l = 0 := by
  have h5 : bigT l = false := by
    simp only [bigT, List.any_eq_false, decide_eq_true_eq]
    intro s hs; have := h4 s hs; omega
  unfold wPutE; rw [if_pos h1, h2, if_pos rfl, if_neg (by omega), h5]; rfl
def risesG (was : Int) : List Int → Bool
  | [] => true
  | n :: l => decide (was < n) && decide (n ≤ 268435455) && risesG n l
def rises (l : List Int) : Bool := !l.isEmpty && decide (l.length ≤ 65536) && risesG (-1) l
def rPutE (l : List Int) : Int := if rises l then 0 else 2
end Go.Proofs.YtadlnaljicikfaaDoor.Abs
namespace Go.Proofs.YtadlnaljicikfaaDoor.Abs
open Go
set_option maxRecDepth 100000
attribute [local irreducible] Ev.Unr Ev.Go' Ev.bytK Ev.runK Ev.FinL Ev.brC Ev.Side Ev.Wp Ev.Again Ev.To Ev.Fin
open Go.Lib Go.RowKit
theorem wrap_succ {i : Nat} (h : i ≤ 1000000000) : IntKind.i64.wrap ((i : Int) + 1) = ((i + 1 : Nat) : Int) := by rw [wrap_id (by omega)]; omega
theorem comp80 : ∀ c, Tryd.f80.body = some c → comp c = (.seq (.reg 0 [I.n 0 1 (.box 35 (.tmp 0)), I.n 1 2 (I.sb false)]) (.seq (.reg 1 [I.n 0 3 (I.fa 35 1 1), I.n 1 4 (I.ld 3 3), I.n 2 5 (I.bc .eql 3 4 0 3), I.n 3 6 (I.mv 5), I.w 4 7 (I.fa 35 1 2) 6 true, I.w 5 8 (I.ld 9 7) 6 true, I.w 6 9 (.binOp .eql 9 (.tmp 8) (.const (Value.string { data := #[] })) 9) 6 true, I.n 7 10 (I.pc 6 9 false), I.n 8 2 (I.sa 10)]) .ret)) := by
  intro c h
  have : c = Tryd.f80.body.get rfl := by rw [← Option.some_inj, ← h]; rfl
  rw [this]; rfl
theorem empty_call (s : Sp) : CallW env 80 [spanA s.k s.n s.t] (fun r hs => r = .v (.bool (emptyS s)) ∧ hs = []) := by
  refine Ev.fn [0, 1, 2] 0 [.tmp 2] Tryd.func80 (comp80 _ rfl) ?_
  repeat' (first | ((refine Ev.sw ?_); conv => whnf) | refine Ev.sn ?_ | ((with_reducible refine Ev.chk_k ?_ ?_); rotate_left; exact Ev.bt; conv => whnf) | ((with_reducible (refine Ev.RI.run ?_; constructor)) <;> intro _) | ((refine Ev.sg ?_); conv => whnf) | ((with_reducible refine Ev.sided ?_ ?_); conv => whnf) | ((with_reducible refine Ev.kr (hs := []) (fun Q hQ => ?_)); (simp only [Ev.runE_cons, Ev.runE_nil]); conv => whnf) | (with_reducible refine hQ _ ?_; clear hQ Q) | ((refine Ev.sf ?_); intro F hF; conv => whnf) | (with_reducible refine hF _ ?_; clear hF F) | ((with_reducible refine Ev.go_k (fun c' => ?_)); conv => whnf) | ((first | refine Ev.el_map0 ?_ (fun hi => ?_) | refine Ev.el_mapN ?_ (fun hi => ?_)); rotate_left; conv => whnf) | ((with_reducible refine Ev.sd0 ?_); exact Ev.sd) | fail)
  · rename_i h
    exact ⟨Ev.bool_eq (by simp [emptyS, h]), rfl⟩
  · rename_i h
    exact ⟨Ev.bool_eq (by simp [emptyS, h]), rfl⟩
theorem tbs_take (l : List Sp) {i : Nat} (hi : i < l.length) : tbs (l.take (i + 1)) = tbs (l.take i) + l[i].t.size := by
  unfold tbs; rw [List.take_succ_eq_append_getElem hi, List.map_append, List.sum_append]; simp
theorem tbs_le (l : List Sp) (i : Nat) : tbs (l.take i) ≤ tbs l := by
  have : tbs l = tbs (l.take i) + tbs (l.drop i) := by
    conv => lhs; rw [← List.take_append_drop i l]
    unfold tbs; rw [List.map_append, List.sum_append]
  omega
theorem sps_app1 (a b : List Sp) : sps (a ++ b) = sps a ++ sps b := by simp [sps]
theorem comp35 : ∀ c, Tryd.f35.body = some c → comp c = (.seq (.reg 0 [I.n 0 2 I.sn]) (.seq (.reg 1 [I.n 0 7 (I.mv 0), I.n 1 8 (I.ln 7 23), I.n 2 9 (.makeSlice 23 (.tmp 8) (.tmp 8)), I.n 3 3 (I.sa 9)]) (.seq (.reg 2 [I.n 0 10 (I.mv 3), I.n 1 11 (I.mv 0), I.n 2 12 (.call { callee := .builtin .copy, args := #[.tmp 10, .tmp 11], argTypes := #[23, 23] })]) (.seq (.reg 3 [I.n 0 13 (I.mv 3), I.n 1 14 (.call { callee := .value (.func 79), args := #[.tmp 13, .func 80], argTypes := #[23, 112] }), I.n 2 3 (I.sa 14)]) (.seq (.reg 4 [I.n 0 4 (I.si 0)]) (.seq (.seq (.reg 5 [I.n 0 15 (I.mv 3), I.n 1 16 (I.ln 15 23), I.n 2 17 (.move (.const (Value.int .i64 0)))]) (.block 0 (.loop (.seq (.reg 6 [I.n 0 18 (I.bo .lss 3 17 16 3)]) (.seq (.cond (.tmp 18) .skip (.exit 0)) (.seq (.block 1 (.seq (.reg 7 [I.n 0 19 (I.mv 17), I.n 1 20 (I.ia 23 15 17), I.n 2 21 (I.ld 35 20), I.n 3 6 (.alloc 35), I.n 4 5 (I.sa 19), I.u 5 (I.st 35 6 21)]) (.block 2 (.seq (.reg 10 [I.n 0 29 (I.mv 5), I.n 1 30 (I.bc .eql 3 29 0 3), I.n 2 28 (I.sa 30)]) (.cond (.tmp 28) .skip (.seq (.draw 11 [I.n 0 32 (I.fa 35 6 0), I.n 1 33 (I.ld 3 32), I.n 2 34 (I.mv 3), I.n 3 35 (I.mv 4), I.n 4 36 (I.ia 23 34 35), I.n 5 37 (I.fa 35 36 0), I.n 6 38 (I.ld 3 37), I.n 7 39 (I.bo .eql 3 33 38 3), I.n 8 31 (I.sa 39)] [[], [0], [], [], [2, 3], [4], [5], [1, 6], [7]]) (.cond (.tmp 31) (.seq (.draw 12 [I.n 0 40 (I.mv 3), I.n 1 41 (I.mv 4), I.n 2 42 (I.ia 23 40 41), I.n 3 43 (I.fa 35 42 1), I.n 4 44 (I.ld 3 43), I.n 5 45 (I.fa 35 6 1), I.n 6 46 (I.ld 3 45), I.n 7 47 (I.bo .add 3 44 46 3), I.n 8 48 (I.ia 23 40 41), I.n 9 49 (I.fa 35 48 1), I.u 10 (I.st 3 49 47)] [[], [], [0, 1], [2], [3], [], [5], [4, 6], [0, 1, 0, 1, 2, 3, 4, 5, 6, 7], [8, 0, 1, 2, 3, 4, 5, 6, 7], [9, 7, 0, 1, 2, 3, 4, 5, 6, 7]]) (.draw 13 [I.n 0 50 (I.mv 3), I.n 1 51 (I.mv 4), I.n 2 52 (I.ia 23 50 51), I.n 3 53 (I.fa 35 52 2), I.n 4 54 (I.ld 9 53), I.n 5 55 (I.fa 35 6 2), I.n 6 56 (I.ld 9 55), I.n 7 57 (I.bo .add 9 54 56 9), I.n 8 58 (I.ia 23 50 51), I.n 9 59 (I.fa 35 58 2), I.u 10 (I.st 9 59 57)] [[], [], [0, 1], [2], [3], [], [5], [4, 6], [0, 1, 0, 1, 2, 3, 4, 5, 6, 7], [8, 0, 1, 2, 3, 4, 5, 6, 7], [9, 7, 0, 1, 2, 3, 4, 5, 6, 7]])) (.seq (.reg 8 [I.n 0 22 (I.mv 4), I.n 1 23 (I.bc .add 3 22 1 3), I.n 2 4 (I.sa 23)]) (.reg 9 [I.n 0 24 (I.mv 3), I.n 1 25 (I.mv 4), I.n 2 26 (I.ld 35 6), I.n 3 27 (I.ia 23 24 25), I.u 4 (I.st 35 27 26)]))))))))) (.reg 14 [I.n 0 60 (I.bc .add 3 17 1 3), I.n 1 17 (I.mv 60)]))))))) (.seq (.reg 15 [I.n 0 61 (I.mv 3), I.n 1 62 (I.mv 4), I.n 2 63 (I.bc .add 3 62 1 3), I.n 3 64 (I.mv 3), I.n 4 65 (I.ln 64 23), I.n 5 66 (.call { callee := .builtin .min, args := #[.tmp 63, .tmp 65], argTypes := #[3, 3] }), I.n 6 67 (.slice 23 (.tmp 61) none (some (.tmp 66)) none), I.n 7 2 (I.sa 67)]) .ret))))))) := by
  intro c h
  have : c = Tryd.f35.body.get rfl := by rw [← Option.some_inj, ← h]; rfl
  rw [this]; rfl
theorem comp79 : ∀ c, Tryd.f79.body = some c → comp c = (.seq (.reg 0 [I.n 0 4 I.sn]) (.seq (.reg 1 [I.n 0 8 (I.mv 0), I.n 1 9 (I.mv 1), I.n 2 10 (I.c2 122 8 9 23 112), I.n 3 5 (I.sa 10)]) (.seq (.seq (.reg 2 [I.n 0 11 (I.mv 5), I.n 1 12 (.binOp .eql 3 (.tmp 11) (.const (Value.int .i64 (-1))) 3)]) (.cond (.tmp 12) (.seq (.reg 3 [I.n 0 13 (I.mv 0), I.n 1 4 (I.sa 13)]) .ret) .skip)) (.seq (.seq (.reg 4 [I.n 0 14 (I.mv 5), I.n 1 15 (I.bc .add 3 14 1 3), I.n 2 6 (I.sa 15)]) (.block 0 (.loop (.seq (.seq (.reg 5 [I.n 0 16 (I.mv 6), I.n 1 17 (I.mv 0), I.n 2 18 (I.ln 17 23), I.n 3 19 (I.bo .lss 3 16 18 3)]) (.cond (.tmp 19) .skip (.exit 0))) (.seq (.block 1 (.seq (.reg 7 [I.n 0 22 (I.mv 0), I.n 1 23 (I.mv 6), I.n 2 24 (I.ia 23 22 23), I.n 3 25 (I.ld 35 24), I.n 4 7 (.alloc 35), I.u 5 (I.st 35 7 25)]) (.seq (.reg 8 [I.n 0 26 (I.mv 1), I.n 1 27 (I.ld 35 7), I.n 2 28 (.call { callee := .value (.tmp 26), args := #[.tmp 27], argTypes := #[35] }), I.n 3 29 (.unOp .not 4 (.tmp 28))]) (.cond (.tmp 29) (.seq (.reg 9 [I.n 0 30 (I.mv 0), I.n 1 31 (I.mv 5), I.n 2 32 (I.ld 35 7), I.n 3 33 (I.ia 23 30 31), I.u 4 (I.st 35 33 32)]) (.reg 10 [I.n 0 34 (I.mv 5), I.n 1 35 (I.bc .add 3 34 1 3), I.n 2 5 (I.sa 35)])) .skip)))) (.reg 6 [I.n 0 20 (I.mv 6), I.n 1 21 (I.bc .add 3 20 1 3), I.n 2 6 (I.sa 21)])))))) (.seq (.reg 11 [I.n 0 36 (I.mv 0), I.n 1 37 (I.mv 5), I.n 2 38 (.slice 23 (.tmp 36) (some (.tmp 37)) none none), I.u 3 (.call { callee := .builtin .clear, args := #[.tmp 38], argTypes := #[23] })]) (.seq (.reg 12 [I.n 0 39 (I.mv 0), I.n 1 40 (I.mv 5), I.n 2 41 (.slice 23 (.tmp 39) none (some (.tmp 40)) none), I.n 3 4 (I.sa 41)]) .ret)))))) := by
  intro c h
  have : c = Tryd.f79.body.get rfl := by rw [← Option.some_inj, ← h]; rfl
  rw [this]; rfl
theorem comp122 : ∀ c, Tryd.f122.body = some c → comp c = (.seq (.reg 0 [I.n 0 4 (I.si 0)]) (.seq (.seq (.reg 1 [I.n 0 6 (I.mv 0), I.n 1 7 (I.ln 6 23), I.n 2 8 (.move (.const (Value.int .i64 0)))]) (.block 0 (.loop (.seq (.reg 2 [I.n 0 9 (I.bo .lss 3 8 7 3)]) (.seq (.cond (.tmp 9) .skip (.exit 0)) (.seq (.block 1 (.seq (.reg 3 [I.n 0 10 (I.mv 8), I.n 1 5 (I.sa 10)]) (.seq (.reg 4 [I.n 0 11 (I.mv 1), I.n 1 12 (I.mv 0), I.n 2 13 (I.mv 5), I.n 3 14 (I.ia 23 12 13), I.n 4 15 (I.ld 35 14), I.n 5 16 (.call { callee := .value (.tmp 11), args := #[.tmp 15], argTypes := #[35] })]) (.cond (.tmp 16) (.seq (.reg 5 [I.n 0 17 (I.mv 5), I.n 1 4 (I.sa 17)]) .ret) .skip)))) (.reg 6 [I.n 0 18 (I.bc .add 3 8 1 3), I.n 1 8 (I.mv 18)]))))))) (.seq (.reg 7 [I.n 0 4 (.assign (.const (Value.int .i64 (-1))))]) .ret))) := by
  intro c h
  have : c = Tryd.f122.body.get rfl := by rw [← Option.some_inj, ← h]; rfl
  rw [this]; rfl
theorem comp71 : ∀ c, Tryd.f71.body = some c → comp c = (.seq (.reg 0 [I.n 0 2 I.sn]) (.seq (.reg 1 [I.n 0 7 (.buildSlice 23 0 #[]), I.n 1 3 (I.sa 7)]) (.seq (.seq (.reg 2 [I.n 0 4 (I.si 0)]) (.block 0 (.loop (.seq (.seq (.reg 3 [I.n 0 8 (I.mv 4), I.n 1 9 (I.mv 0), I.n 2 10 (I.ln 9 23), I.n 3 11 (I.bo .lss 3 8 10 3)]) (.cond (.tmp 11) .skip (.exit 0))) (.seq (.block 1 (.seq (.reg 5 [I.n 0 14 (I.mv 0), I.n 1 15 (I.mv 4), I.n 2 16 (I.ia 23 14 15), I.n 3 17 (I.ld 35 16), I.n 4 5 (.alloc 35), I.u 5 (I.st 35 5 17)]) (.seq (.seq (.reg 6 [I.n 0 18 (I.fa 35 5 1), I.n 1 19 (I.ld 3 18), I.n 2 20 (I.bc .eql 3 19 0 3), I.n 3 21 (I.mv 20), I.w 4 22 (I.fa 35 5 2) 21 true, I.w 5 23 (I.ld 9 22) 21 true, I.w 6 24 (.binOp .eql 9 (.tmp 23) (.const (Value.string { data := #[] })) 9) 21 true, I.n 7 25 (I.pc 21 24 false)]) (.cond (.tmp 25) (.exit 1) .skip)) (.seq (.reg 7 [I.n 0 26 (I.mv 3), I.n 1 27 (I.ln 26 23), I.n 2 6 (I.sa 27)]) (.seq (.draw 8 [I.n 0 28 (I.mv 6), I.n 1 29 (I.bc .gtr 3 28 0 3), I.n 2 30 (I.mv 29), I.w 3 31 (I.mv 3) 30 true, I.w 4 32 (I.mv 6) 30 true, I.w 5 33 (I.bc .sub 3 32 1 3) 30 true, I.w 6 34 (I.ia 23 31 33) 30 true, I.w 7 35 (I.fa 35 34 0) 30 true, I.w 8 36 (I.ld 3 35) 30 true, I.w 9 37 (I.fa 35 5 0) 30 true, I.w 10 38 (I.ld 3 37) 30 true, I.w 11 39 (I.bo .eql 3 36 38 3) 30 true, I.n 12 40 (I.pc 30 39 false)] [[], [0], [1], [2], [2], [4, 2], [3, 5, 2], [6, 2], [7, 2], [2], [9, 2], [8, 10, 2], [2, 11]]) (.cond (.tmp 40) (.seq (.draw 9 [I.n 0 41 (I.mv 3), I.n 1 42 (I.mv 6), I.n 2 43 (I.bc .sub 3 42 1 3), I.n 3 44 (I.mv 3), I.n 4 45 (I.mv 6), I.n 5 46 (I.bc .sub 3 45 1 3), I.n 6 47 (I.ia 23 44 46), I.n 7 48 (I.fa 35 47 1), I.n 8 49 (I.ld 3 48), I.n 9 50 (I.fa 35 5 1), I.n 10 51 (I.ld 3 50), I.n 11 52 (I.bo .add 3 49 51 3), I.n 12 53 (I.ia 23 41 43), I.n 13 54 (I.fa 35 53 1), I.u 14 (I.st 3 54 52)] [[], [], [1], [], [], [4], [3, 5], [6], [7], [], [9], [8, 10], [0, 2, 0, 1, 2, 3, 4, 5, 6, 7, 8, 9, 10, 11], [12, 0, 1, 2, 3, 4, 5, 6, 7, 8, 9, 10, 11], [13, 11, 0, 1, 2, 3, 4, 5, 6, 7, 8, 9, 10, 11]]) (.draw 10 [I.n 0 55 (I.mv 3), I.n 1 56 (I.mv 6), I.n 2 57 (I.bc .sub 3 56 1 3), I.n 3 58 (I.mv 3), I.n 4 59 (I.mv 6), I.n 5 60 (I.bc .sub 3 59 1 3), I.n 6 61 (I.ia 23 58 60), I.n 7 62 (I.fa 35 61 2), I.n 8 63 (I.ld 9 62), I.n 9 64 (I.fa 35 5 2), I.n 10 65 (I.ld 9 64), I.n 11 66 (I.bo .add 9 63 65 9), I.n 12 67 (I.ia 23 55 57), I.n 13 68 (I.fa 35 67 2), I.u 14 (I.st 9 68 66)] [[], [], [1], [], [], [4], [3, 5], [6], [7], [], [9], [8, 10], [0, 2, 0, 1, 2, 3, 4, 5, 6, 7, 8, 9, 10, 11], [12, 0, 1, 2, 3, 4, 5, 6, 7, 8, 9, 10, 11], [13, 11, 0, 1, 2, 3, 4, 5, 6, 7, 8, 9, 10, 11]])) (.reg 11 [I.n 0 69 (I.mv 3), I.n 1 70 (I.ld 35 5), I.n 2 71 (I.b1 23 70), I.n 3 72 (I.ap 69 71 23 23), I.n 4 3 (I.sa 72)]))))))) (.reg 4 [I.n 0 12 (I.mv 4), I.n 1 13 (I.bc .add 3 12 1 3), I.n 2 4 (I.sa 13)])))))) (.seq (.reg 12 [I.n 0 73 (I.mv 3), I.n 1 2 (I.sa 73)]) .ret)))) := by
  intro c h
  have : c = Tryd.f71.body.get rfl := by rw [← Option.some_inj, ← h]; rfl
  rw [this]; rfl
def full (l : List Sp) : List Sp := l.filter fun s => !emptyS s
theorem norm_full : ∀ l, norm (full l) = norm l
  | [] => rfl
  | s :: l => by
    have c : ∀ (l : List Sp) (cur : Sp), normC cur (full l) = normC cur l := by
      intro l
      induction l with
      | nil => intro cur; rfl
      | cons s l ih =>
        intro cur
        cases h : emptyS s with
        | true => simp only [full, List.filter_cons, h, normC]; simpa [full] using ih cur
        | false =>
          have : full (s :: l) = s :: full l := by simp [full, List.filter_cons, h]
          rw [this]
          simp only [normC, h]
          split
          · exact absurd ‹_› (by decide)
          · split
            · exact ih _
            · rw [ih]
    cases h : emptyS s with
    | true => simp only [full, List.filter_cons, h, norm]; simpa [full] using norm_full l
    | false =>
      have : full (s :: l) = s :: full l := by simp [full, List.filter_cons, h]
      rw [this]
      simp only [norm, h]
      split
      · exact absurd ‹_› (by decide)
      · exact c l s
theorem full_take {l : List Sp} {i : Nat} (h : ∀ j (hj : j < l.length), j < i → emptyS l[j] = false) (hi : l.length ≤ i) : full l = l := by
  unfold full
  refine List.filter_eq_self.2 (fun s hs => ?_)
  obtain ⟨j, hj, rfl⟩ := List.getElem_of_mem hs
  rw [h j hj (by omega)]; rfl
theorem sps_all3 (l : List Sp) : ∀ y ∈ sps l, y.length = 3 := by
  intro y hy
  obtain ⟨s, _, rfl⟩ := List.mem_map.1 hy
  rfl
theorem full_none {l : List Sp} {i : Nat} (h : ∀ j (hj : j < l.length), j < i → emptyS l[j] = false) : full (l.take i) = l.take i := by
  unfold full
  refine List.filter_eq_self.2 (fun s hs => ?_)
  obtain ⟨j, hj, rfl⟩ := List.getElem_of_mem hs
  rw [List.length_take] at hj
  rw [List.getElem_take, h j (by omega) (by omega)]; rfl
theorem full_no {l : List Sp} {j : Nat} (hj : j < l.length) (h : emptyS l[j] = true) : full (l.take (j + 1)) = full (l.take j) := by
  unfold full; rw [List.take_succ_eq_append_getElem hj, List.filter_append]; simp [h]
theorem full_yes {l : List Sp} {j : Nat} (hj : j < l.length) (h : emptyS l[j] = false) : full (l.take (j + 1)) = full (l.take j) ++ [l[j]] := by
  unfold full; rw [List.take_succ_eq_append_getElem hj, List.filter_append]; simp [h]
theorem full_len (l : List Sp) : (full l).length ≤ l.length := List.length_filter_le ..
theorem sps_set (l : List Sp) (i : Nat) (s : Sp) : (sps l).set i (spC s) = sps (l.set i s) := by simp [sps, List.map_set]
theorem el_set {es : List (List AV)} {i : Nat} {x : List AV} {F : List AV → Prop} (h : i < es.length) (k : F x) : Ev.elK (es.set i x) i F := by
  unfold Ev.elK; rw [List.getElem?_set_self h]; exact k
theorem tbs_full (l : List Sp) : tbs (full l) ≤ tbs l := by
  induction l with
  | nil => exact Nat.le_refl _
  | cons s l ih =>
    cases h : emptyS s with
    | true => rw [show full (s :: l) = full l by simp [full, List.filter_cons, h], tbs_cons]; omega
    | false => rw [show full (s :: l) = s :: full l by simp [full, List.filter_cons, h], tbs_cons, tbs_cons]; omega
theorem tbs_drop {l : List Sp} {i : Nat} (hi : i < l.length) : tbs (l.drop i) = l[i].t.size + tbs (l.drop (i + 1)) := by rw [List.drop_eq_getElem_cons hi, tbs_cons]
theorem full_ne {l : List Sp} {i : Nat} (hi : i < (full l).length) : emptyS (full l)[i] = false := by
  have := (List.mem_filter.1 (List.getElem_mem hi : (full l)[i] ∈ full l)).2
  simpa using this
theorem normC_at {F : List Sp} {i : Nat} (hi : i < F.length) (h : emptyS F[i] = false) (cur : Sp) : normC cur (F.drop i) = if F[i].k = cur.k then normC (mrg cur F[i]) (F.drop (i + 1)) else cur :: normC F[i] (F.drop (i + 1)) := by
  rw [List.drop_eq_getElem_cons hi]; simp only [normC, h]; rfl
theorem norm_at {l : List Sp} (h0 : 0 < (full l).length) : norm l = normC (full l)[0] ((full l).drop 1) := by
  rw [← norm_full]
  have := full_ne (l := l) h0
  generalize full l = F at *
  cases F with
  | nil => simp at h0
  | cons s F => simp only [List.getElem_cons_zero] at this; simp only [norm, this]; rfl
def CInv (l : List Sp) (i last : Nat) (E : List Sp) : Prop :=
  E.length = l.length ∧ (E.take (full l).length).drop i = (full l).drop i ∧ ((i = 0 ∧ last = 0) ∨ (∃ pre cur, E.take (last + 1) = pre ++ [cur] ∧ pre.length = last ∧ last < i ∧ cur.t.size + tbs ((full l).drop i) ≤ 1000000000 ∧ norm l = pre ++ normC cur ((full l).drop i)))
theorem CInv.at {l E : List Sp} {i last : Nat} (h : CInv l i last E) (hi : i < (full l).length) (h' : i < E.length) : E[i] = (full l)[i] := by
  have e := congrArg (fun l => l[0]?) h.2.1
  simp only [List.getElem?_drop, Nat.add_zero] at e
  rw [List.getElem?_take_of_lt hi, List.getElem?_eq_getElem hi, List.getElem?_eq_getElem h'] at e
  exact Option.some.inj e
theorem CInv.first {l E : List Sp} {last : Nat} (h : CInv l 0 last E) (hi : 0 < (full l).length) (hb : tbs l ≤ 1000000000) : last = 0 ∧ CInv l 1 0 E := by
  have hl := full_len l
  have hE0 : 0 < E.length := by have := h.1; omega
  have ha := h.at hi hE0
  have h3 := h.2.2
  have h2 := h.2.1
  rw [List.drop_zero, List.drop_zero] at h2
  have hl0 : last = 0 := by
    rcases h3 with h | ⟨_, _, _, _, h, _⟩
    · exact h.2
    · omega
  refine ⟨hl0, h.1, by rw [h2], .inr ⟨[], E[0], ?_, rfl, by omega, ?_, ?_⟩⟩
  · rw [List.take_succ_eq_append_getElem hE0]; simp
  · rw [ha]
    have a := tbs_drop hi
    have b := tbs_full l
    rw [List.drop_zero, Nat.zero_add] at a
    omega
  · rw [ha, List.nil_append]; exact norm_at hi
theorem CInv.last {l E : List Sp} {i last : Nat} (h : CInv l i last E) (h0 : 0 < i) : last < i ∧ ∃ pre, ∃ hl : last < E.length, E.take last = pre ∧ pre.length = last ∧ E[last].t.size + tbs ((full l).drop i) ≤ 1000000000 ∧ norm l = pre ++ normC E[last] ((full l).drop i) := by
  rcases h.2.2 with h3 | ⟨pre, cur, h3, h4, h5, h6, h7⟩
  · omega
  · have hl : last < E.length := by
      have := congrArg List.length h3
      rw [List.length_take, List.length_append, List.length_singleton] at this
      omega
    rw [List.take_succ_eq_append_getElem hl] at h3
    have e := List.append_inj h3 (by rw [List.length_take, h4]; omega)
    have e2 : E[last] = cur := by simpa using e.2
    exact ⟨h5, pre, hl, e.1, h4, by rw [e2]; exact h6, by rw [e2]; exact h7⟩
theorem CInv.size {l E : List Sp} {i last : Nat} (h : CInv l i last E) (h0 : 0 < i) (hi : i < (full l).length) (hl : last < E.length) (h' : i < E.length) : E[last].t.size + E[i].t.size ≤ 1000000000 := by
  obtain ⟨_, _, _, _, _, a, _⟩ := h.last h0
  rw [tbs_drop hi, ← h.at hi h'] at a
  omega
theorem CInv.rest {l E : List Sp} {i j : Nat} {x : Sp} (hj : j ≤ i) (h : (E.take (full l).length).drop i = (full l).drop i) : ((E.set j x).take (full l).length).drop (i + 1) = (full l).drop (i + 1) := by
  rw [← List.drop_drop, ← List.drop_drop, ← h, List.take_set, List.drop_drop, List.drop_drop, List.drop_set_of_lt (by omega)]
theorem CInv.same {l E : List Sp} {i last : Nat} (h : CInv l i last E) (h0 : 0 < i) (hi : i < (full l).length) (hl : last < E.length) (h' : i < E.length) (hk : E[i].k = E[last].k) : CInv l (i + 1) last (E.set last (mrg E[last] E[i])) := by
  have ha := h.at hi h'
  obtain ⟨a1, pre, _, a2, a3, a4, a5⟩ := h.last h0
  refine ⟨by simp [h.1], CInv.rest (by omega) h.2.1, .inr ⟨pre, mrg E[last] E[i], ?_, a3, by omega, ?_, ?_⟩⟩
  · rw [List.take_succ_eq_append_getElem (by simp; omega), List.take_set_of_le (Nat.le_refl _), a2, List.getElem_set_self]
  · rw [tbs_drop hi, ← ha] at a4
    show (E[last].t ++ E[i].t).size + _ ≤ _
    rw [ByteArray.size_append]; omega
  · rw [a5, normC_at hi (full_ne hi), ← ha, if_pos hk]
theorem CInv.new {l E : List Sp} {i last : Nat} (h : CInv l i last E) (h0 : 0 < i) (hi : i < (full l).length) (hl : last < E.length) (h' : i < E.length) (hk : E[i].k ≠ E[last].k) : CInv l (i + 1) (last + 1) (E.set (last + 1) E[i]) := by
  have ha := h.at hi h'
  obtain ⟨a1, pre, _, a2, a3, a4, a5⟩ := h.last h0
  refine ⟨by simp [h.1], CInv.rest (by omega) h.2.1, .inr ⟨pre ++ [E[last]], E[i], ?_, by simp [a3], by omega, ?_, ?_⟩⟩
  · rw [List.take_succ_eq_append_getElem (by simp; omega), List.take_set_of_le (Nat.le_refl _), List.take_succ_eq_append_getElem hl, a2, List.getElem_set_self]
  · rw [tbs_drop hi, ← ha] at a4
    omega
  · rw [a5, normC_at hi (full_ne hi), ← ha, if_neg hk]; simp
theorem CInv.end {l E : List Sp} {last : Nat} (h : CInv l (full l).length last E) : E.take (min (last + 1) (full l).length) = norm l := by
  have hfl := full_len l
  by_cases h0 : (full l).length = 0
  · rw [h0, Nat.min_zero, List.take_zero, ← norm_full, List.eq_nil_of_length_eq_zero h0]; rfl
  · obtain ⟨a1, pre, a6, a2, a3, a4, a5⟩ := h.last (by omega)
    rw [Nat.min_eq_left (by omega), List.take_succ_eq_append_getElem a6, a2, a5, List.drop_of_length_le (Nat.le_refl _)]
    rfl
theorem nof_call (l : List Sp) (hl : l.length ≤ 100000000) (hb : tbs l ≤ 1000000000) : CallW env 35 [.lst 3 (sps l)] (fun r hs => r = .lst 3 (sps (norm l)) ∧ hs = []) := by
  have hsl := sps_len l
  have hmx : 2000000003 ≤ maxLen := by decide
  refine Ev.fn [0, 2, 3, 4, 5, 6, 15, 16, 17, 18, 28, 31] 0 [.tmp 2] Tryd.func35 (comp35 _ rfl) ?_
  repeat' (first | (with_reducible refine Ev.join (a := .reg 3 _) (fun s => ∃ (c v : Nat) (E : List Sp), s = ⟨[(0, .lst 3 (sps l)), (2, nilA), (3, .own 528 v 0 (full l).length)], [(528, ⟨3, 35, v, 0, false, sps E⟩)], c⟩ ∧ E.take (full l).length = full l ∧ (full l).length ≤ E.length ∧ E.length = l.length) ?_ ?_) | ((refine Ev.sw ?_); conv => whnf) | refine Ev.sn ?_ | ((with_reducible refine Ev.chk_k ?_ ?_); rotate_left; exact Ev.bt; conv => whnf) | ((with_reducible (refine Ev.RI.run ?_; constructor)) <;> intro _) | ((refine Ev.sg ?_); conv => whnf) | ((with_reducible refine Ev.sided ?_ ?_); conv => whnf) | ((with_reducible refine Ev.kr (hs := [79, 122]) (fun Q hQ => ?_)); (simp only [Ev.runE_cons, Ev.runE_nil]); conv => whnf) | (with_reducible refine hQ _ ?_; clear hQ Q) | ((refine Ev.sf ?_); intro F hF; conv => whnf) | (with_reducible refine hF _ ?_; clear hF F) | ((with_reducible refine Ev.go_k (fun c' => ?_)); conv => whnf) | ((with_reducible refine Ev.il0 79 ?_); refine Ev.il 79 [0, 1, 4, 5, 6, 7, 12, 19, 29] [.tmp 4] Tryd.func79 (comp79 _ rfl) (fun ct' => ?_)) | ((with_reducible refine Ev.il0 122 ?_); refine Ev.il 122 [0, 1, 4, 5, 7, 8, 9, 16] [.tmp 4] Tryd.func122 (comp122 _ rfl) (fun ct' => ?_)) | ((with_reducible refine Ev.ca0 ?_); (first | refine Ev.call_det (empty_call _) rfl rfl ?_ | refine Ev.ca (empty_call _) ?_); conv => whnf) | ((with_reducible refine Ev.dr0 ?_); (first | refine Ev.dr 11 [79, 122] [0, 1, 2, 3, 4, 5, 6, 7, 8] ?_ | refine Ev.dr 12 [79, 122] [0, 1, 2, 3, 4, 5, 6, 7, 8, 9, 10] ?_ | refine Ev.dr 13 [79, 122] [0, 1, 2, 3, 4, 5, 6, 7, 8, 9, 10] ?_); intro Q hQ; (simp only [Ev.runE_cons, Ev.runE_nil]); conv => whnf) | ((first | refine Ev.el_map0 ?_ (fun hi => ?_) | refine Ev.el_mapN ?_ (fun hi => ?_)); rotate_left; conv => whnf) | ((with_reducible refine Ev.sd0 ?_); exact Ev.sd) | fail)
  · refine Ev.loop (fun k s => ∃ i c : Nat, s = ⟨[(0, .own 528 0 0 l.length), (1, .clo (.func 80) [] []), (4, .v (.int .i64 0)), (7, .v (.int .i64 l.length)), (8, .v (.int .i64 i))], [(528, ⟨3, 35, 0, 0, false, sps l⟩)], c⟩ ∧ k + i = l.length ∧ ∀ j (hj : j < l.length), j < i → emptyS l[j] = false) ?_ ?_
    · (refine Ev.to _ ?hs1 ?hh1 ?hc1 ⟨l.length, 0, ct', rfl, ?hp1⟩; (case hs1 | hh1 => ((repeat' (first | exact trivial | refine And.intro ?_ ?_)) <;> (first | exact Ev.se | (refine Ev.slot_eq rfl ?_; first | (first | (simp; done) | rfl) | ((first | refine Ev.int_eq ?_ | refine Ev.own_eq ?_ | refine Ev.blk_eq ?_); (first | (simp; done) | rfl))) | exact Ev.sr))); (case hc1 => exact Nat.le_refl _))
      exact ⟨by omega, fun j hj h => by omega⟩
    rintro k s1 ⟨i, c, rfl, hk, he⟩
    repeat' (first | ((refine Ev.sw ?_); conv => whnf) | refine Ev.sn ?_ | ((with_reducible refine Ev.chk_k ?_ ?_); rotate_left; exact Ev.bt; conv => whnf) | ((with_reducible (refine Ev.RI.run ?_; constructor)) <;> intro _) | ((refine Ev.sg ?_); conv => whnf) | ((with_reducible refine Ev.sided ?_ ?_); conv => whnf) | ((with_reducible refine Ev.kr (hs := [79, 122]) (fun Q hQ => ?_)); (simp only [Ev.runE_cons, Ev.runE_nil]); conv => whnf) | (with_reducible refine hQ _ ?_; clear hQ Q) | ((refine Ev.sf ?_); intro F hF; conv => whnf) | (with_reducible refine hF _ ?_; clear hF F) | ((with_reducible refine Ev.go_k (fun c' => ?_)); conv => whnf) | ((with_reducible refine Ev.il0 79 ?_); refine Ev.il 79 [0, 1, 4, 5, 6, 7, 12, 19, 29] [.tmp 4] Tryd.func79 (comp79 _ rfl) (fun ct' => ?_)) | ((with_reducible refine Ev.il0 122 ?_); refine Ev.il 122 [0, 1, 4, 5, 7, 8, 9, 16] [.tmp 4] Tryd.func122 (comp122 _ rfl) (fun ct' => ?_)) | ((with_reducible refine Ev.ca0 ?_); (first | refine Ev.call_det (empty_call _) rfl rfl ?_ | refine Ev.ca (empty_call _) ?_); conv => whnf) | ((with_reducible refine Ev.dr0 ?_); (first | refine Ev.dr 11 [79, 122] [0, 1, 2, 3, 4, 5, 6, 7, 8] ?_ | refine Ev.dr 12 [79, 122] [0, 1, 2, 3, 4, 5, 6, 7, 8, 9, 10] ?_ | refine Ev.dr 13 [79, 122] [0, 1, 2, 3, 4, 5, 6, 7, 8, 9, 10] ?_); intro Q hQ; (simp only [Ev.runE_cons, Ev.runE_nil]); conv => whnf) | ((first | refine Ev.el_map0 ?_ (fun hi => ?_) | refine Ev.el_mapN ?_ (fun hi => ?_)); rotate_left; conv => whnf) | ((with_reducible refine Ev.sd0 ?_); exact Ev.sd) | fail)
    · rename_i h; exact absurd h (by omega)
    · rename_i hemp _
      have f1 := full_none he
      have f2 := full_no hi hemp
      refine Ev.loop (fun k s => ∃ (j c : Nat) (E : List Sp), s = ⟨[(0, .own 528 0 0 l.length), (1, .clo (.func 80) [] []), (4, nilA), (5, .v (.int .i64 (full (l.take j)).length)), (6, .v (.int .i64 j))], [(528, ⟨3, 35, 0, 0, false, sps E⟩)], c⟩ ∧ k + j = l.length ∧ E.length = l.length ∧ (full (l.take j)).length < j ∧ E.take (full (l.take j)).length = full (l.take j) ∧ E.drop j = l.drop j) ?_ ?_
      · have f3 : (full (l.take (i + 1))).length = i := by rw [f2, f1, List.length_take]; omega
        (refine Ev.to _ ?hs2 ?hh2 ?hc2 ⟨l.length - (i + 1), i + 1, c', l, rfl, ?hp2⟩; (case hs2 | hh2 => ((repeat' (first | exact trivial | refine And.intro ?_ ?_)) <;> (first | exact Ev.se | (refine Ev.slot_eq rfl ?_; first | (first | (rw [f3]; done) | exact wrap_succ (by omega) | (simp; done) | rfl) | ((first | refine Ev.int_eq ?_ | refine Ev.own_eq ?_ | refine Ev.blk_eq ?_); (first | (rw [f3]; done) | exact wrap_succ (by omega) | (simp; done) | rfl))) | exact Ev.sr))); (case hc2 => exact Nat.le_refl _))
        exact ⟨by omega, rfl, by omega, by rw [f3, f2, f1], rfl⟩
      rintro k s1 ⟨j, c, E, rfl, hk, hE, hj, hE1, hE2⟩
      have hEj : ∀ (h : j < l.length) (h' : j < E.length), E[j] = l[j] := fun h h' => by
        have e1 : E[j]? = l[j]? := by
          have a := congrArg (fun l => l[0]?) hE2
          simpa using a
        rw [List.getElem?_eq_getElem h, List.getElem?_eq_getElem h'] at e1
        exact Option.some.inj e1
      repeat' (first | ((refine Ev.sw ?_); conv => whnf) | refine Ev.sn ?_ | ((with_reducible refine Ev.chk_k ?_ ?_); rotate_left; exact Ev.bt; conv => whnf) | ((with_reducible (refine Ev.RI.run ?_; constructor)) <;> intro _) | ((refine Ev.sg ?_); conv => whnf) | ((with_reducible refine Ev.sided ?_ ?_); conv => whnf) | ((with_reducible refine Ev.kr (hs := [79, 122]) (fun Q hQ => ?_)); (simp only [Ev.runE_cons, Ev.runE_nil]); conv => whnf) | (with_reducible refine hQ _ ?_; clear hQ Q) | ((refine Ev.sf ?_); intro F hF; conv => whnf) | (with_reducible refine hF _ ?_; clear hF F) | ((with_reducible refine Ev.go_k (fun c' => ?_)); conv => whnf) | ((with_reducible refine Ev.il0 79 ?_); refine Ev.il 79 [0, 1, 4, 5, 6, 7, 12, 19, 29] [.tmp 4] Tryd.func79 (comp79 _ rfl) (fun ct' => ?_)) | ((with_reducible refine Ev.il0 122 ?_); refine Ev.il 122 [0, 1, 4, 5, 7, 8, 9, 16] [.tmp 4] Tryd.func122 (comp122 _ rfl) (fun ct' => ?_)) | ((with_reducible refine Ev.ca0 ?_); (first | refine Ev.call_det (empty_call _) rfl rfl ?_ | refine Ev.ca (empty_call _) ?_); conv => whnf) | ((with_reducible refine Ev.dr0 ?_); (first | refine Ev.dr 11 [79, 122] [0, 1, 2, 3, 4, 5, 6, 7, 8] ?_ | refine Ev.dr 12 [79, 122] [0, 1, 2, 3, 4, 5, 6, 7, 8, 9, 10] ?_ | refine Ev.dr 13 [79, 122] [0, 1, 2, 3, 4, 5, 6, 7, 8, 9, 10] ?_); intro Q hQ; (simp only [Ev.runE_cons, Ev.runE_nil]); conv => whnf) | ((first | refine Ev.el_map0 ?_ (fun hi => ?_) | refine Ev.el_mapN ?_ (fun hi => ?_)); rotate_left; conv => whnf) | ((with_reducible refine Ev.sd0 ?_); exact Ev.sd) | fail)
      · rename_i h
        have hjl : j < l.length := by omega
        rw [hEj hjl hi] at h
        have f3 := full_no hjl h
        (refine Ev.again (k - 1) _ ?hm3 ?hs3 ?hh3 ?hc3 ⟨j + 1, c + 8, E, rfl, ?hp3⟩; (case hs3 | hh3 => ((repeat' (first | exact trivial | refine And.intro ?_ ?_)) <;> (first | exact Ev.se | (refine Ev.slot_eq rfl ?_; first | (first | exact wrap_succ (by omega) | (rw [f3]; done) | rfl) | ((first | refine Ev.int_eq ?_ | refine Ev.own_eq ?_ | refine Ev.blk_eq ?_); (first | exact wrap_succ (by omega) | (rw [f3]; done) | rfl))) | exact Ev.sr))); (case hc3 => exact Nat.le_refl _); (case hm3 => omega))
        exact ⟨by omega, hE, by rw [f3]; omega, by rw [f3]; exact hE1, by rw [← List.drop_drop, hE2, List.drop_drop]⟩
      · rename_i hi2 h
        have hjl : j < l.length := by omega
        have hEj' := hEj hjl hi2
        rw [hEj'] at h
        have f3 := full_yes hjl h
        have f4 := full_len (l.take j)
        have hw : IntKind.i64.wrap ((full (l.take j)).length + 1 : Int) = ((full (l.take (j + 1))).length : Int) := by rw [f3, wrap_id (by omega)]; simp
        (refine Ev.again (k - 1) _ ?hm4 ?hs4 ?hh4 ?hc4 ⟨j + 1, c + 8, E.set (full (l.take j)).length E[j], rfl, ?hp4⟩; (case hs4 | hh4 => ((repeat' (first | exact trivial | refine And.intro ?_ ?_)) <;> (first | exact Ev.se | (refine Ev.slot_eq rfl ?_; first | (first | exact wrap_succ (by omega) | exact hw | (rw [Nat.zero_add, Int.toNat_natCast]; exact congrArg (fun n => Blk.mk 3 35 _ 0 false n) (sps_set _ _ _)) | rfl) | ((first | refine Ev.int_eq ?_ | refine Ev.own_eq ?_ | refine Ev.blk_eq ?_); (first | exact wrap_succ (by omega) | exact hw | (rw [Nat.zero_add, Int.toNat_natCast]; exact congrArg (fun n => Blk.mk 3 35 _ 0 false n) (sps_set _ _ _)) | rfl))) | exact Ev.sr))); (case hc4 => exact Nat.le_refl _); (case hm4 => omega))
        refine ⟨by omega, by simp [hE], by rw [f3]; simp; omega, ?_, ?_⟩
        · rw [f3, List.length_append, List.length_singleton, List.take_succ_eq_append_getElem (by simp; omega), List.take_set_of_le (Nat.le_refl _), hE1, List.getElem_set_self, hEj']
        · rw [List.drop_set_of_lt (by omega), ← List.drop_drop, hE2, List.drop_drop]
      · have hjl : j = l.length := by omega
        subst hjl
        rw [List.take_length] at hj hE1 ⊢
        have hr : List.take (0 + ((full l).length : Int).toNat) (sps E) ++ List.replicate (l.length - ((full l).length : Int).toNat) (List.map AV.v [Value.int .i64 0, Value.int .i64 0, Value.string ⟨#[]⟩]) ++ List.drop (0 + ((full l).length : Int).toNat + (l.length - ((full l).length : Int).toNat)) (sps E) = sps (full l ++ List.replicate (l.length - (full l).length) ⟨0, 0, ⟨#[]⟩⟩) := by
          rw [Int.toNat_natCast, Nat.zero_add, List.drop_of_length_le (by rw [sps_len]; omega), List.append_nil, sps_app1]
          congr 1
          · show List.take _ (E.map spC) = _
            rw [← List.map_take, hE1]; rfl
          · simp [sps, spC]
        (refine Ev.to _ ?hs5 ?hh5 ?hc5 ⟨c', 0, full l ++ List.replicate (l.length - (full l).length) ⟨0, 0, ⟨#[]⟩⟩, rfl, ?hp5⟩; (case hs5 | hh5 => ((repeat' (first | exact trivial | refine And.intro ?_ ?_)) <;> (first | exact Ev.se | (refine Ev.slot_eq rfl ?_; first | (first | (exact congrArg (fun n => Blk.mk 3 35 _ 0 false n) hr) | (simp; done) | rfl) | ((first | refine Ev.int_eq ?_ | refine Ev.own_eq ?_ | refine Ev.blk_eq ?_); (first | (exact congrArg (fun n => Blk.mk 3 35 _ 0 false n) hr) | (simp; done) | rfl))) | exact Ev.sr))); (case hc5 => exact Nat.le_refl _))
        exact ⟨List.take_left .., by simp, by simp; omega⟩
    · (refine Ev.again (k - 1) _ ?hm6 ?hs6 ?hh6 ?hc6 ⟨i + 1, c, rfl, ?hp6⟩; (case hs6 | hh6 => ((repeat' (first | exact trivial | refine And.intro ?_ ?_)) <;> (first | exact Ev.se | (refine Ev.slot_eq rfl ?_; first | (first | exact wrap_succ (by omega) | rfl) | ((first | refine Ev.int_eq ?_ | refine Ev.own_eq ?_ | refine Ev.blk_eq ?_); (first | exact wrap_succ (by omega) | rfl))) | exact Ev.sr))); (case hc6 => exact Nat.le_refl _); (case hm6 => omega))
      refine ⟨by omega, fun j hj hji => ?_⟩
      by_cases e : j = i
      · subst e; assumption
      · exact he j hj (by omega)
    · have e := full_take he (by omega)
      (refine Ev.to _ ?hs7 ?hh7 ?hc7 ⟨c', 0, l, rfl, ?hp7⟩; (case hs7 | hh7 => ((repeat' (first | exact trivial | refine And.intro ?_ ?_)) <;> (first | exact Ev.se | (refine Ev.slot_eq rfl ?_; first | (first | (rw [e]; simp; done) | rfl) | ((first | refine Ev.int_eq ?_ | refine Ev.own_eq ?_ | refine Ev.blk_eq ?_); (first | (rw [e]; simp; done) | rfl))) | exact Ev.sr))); (case hc7 => exact Nat.le_refl _))
      exact ⟨by rw [e]; simp, by rw [e]; exact Nat.le_refl _, rfl⟩
    · rename_i h; exact absurd rfl h
  · rintro s1 ⟨c, v, E, rfl, hF, hF1, hF2⟩
    have hFl := full_len l
    repeat' (first | ((with_reducible refine Ev.br0 ?_); (first | refine Ev.brp ?_ | refine Ev.brn ?_); conv => whnf) | ((with_reducible refine Ev.c0 ?_); first | refine Ev.cp ?_ | refine Ev.cn ?_) | ((refine Ev.sw ?_); conv => whnf) | refine Ev.sn ?_ | ((with_reducible refine Ev.chk_k ?_ ?_); rotate_left; exact Ev.bt; conv => whnf) | ((with_reducible (refine Ev.RI.run ?_; constructor)) <;> intro _) | ((refine Ev.sg ?_); conv => whnf) | ((with_reducible refine Ev.sided ?_ ?_); conv => whnf) | ((with_reducible refine Ev.kr (hs := []) (fun Q hQ => ?_)); (simp only [Ev.runE_cons, Ev.runE_nil]); conv => whnf) | (with_reducible refine hQ _ ?_; clear hQ Q) | ((refine Ev.sf ?_); intro F hF; conv => whnf) | (with_reducible refine hF _ ?_; clear hF F) | ((with_reducible refine Ev.go_k (fun c' => ?_)); conv => whnf) | ((with_reducible refine Ev.dr0 ?_); (first | refine Ev.dr 11 [] [0, 1, 2, 3, 4, 5, 6, 7, 8] ?_ | refine Ev.dr 12 [] [0, 1, 2, 3, 4, 5, 6, 7, 8, 9, 10] ?_ | refine Ev.dr 13 [] [0, 1, 2, 3, 4, 5, 6, 7, 8, 9, 10] ?_); intro Q hQ; (simp only [Ev.runE_cons, Ev.runE_nil]); conv => whnf) | ((first | refine Ev.el_map0 ?_ (fun hi => ?_) | refine Ev.el_mapN ?_ (fun hi => ?_)); rotate_left; conv => whnf) | ((with_reducible refine Ev.sd0 ?_); exact Ev.sd) | fail)
    refine Ev.loop (fun k s => ∃ (i last c : Nat) (E : List Sp), s = ⟨[(0, .lst 3 (sps l)), (2, nilA), (3, .own 528 v 0 (full l).length), (4, .v (.int .i64 last)), (15, .own 528 v 0 (full l).length), (16, .v (.int .i64 (full l).length)), (17, .v (.int .i64 i))], [(528, ⟨3, 35, v, 0, false, sps E⟩)], c⟩ ∧ k + i = (full l).length ∧ CInv l i last E) ?_ ?_
    · (refine Ev.to _ ?hs8 ?hh8 ?hc8 ⟨(full l).length, 0, 0, c, E, rfl, ?hp8⟩; (case hs8 | hh8 => ((repeat' (first | exact trivial | refine And.intro ?_ ?_)) <;> (first | exact Ev.se | (refine Ev.slot_eq rfl ?_; first | (first | (simp; done) | rfl) | ((first | refine Ev.int_eq ?_ | refine Ev.own_eq ?_ | refine Ev.blk_eq ?_); (first | (simp; done) | rfl))) | exact Ev.sr))); (case hc8 => exact Nat.le_refl _))
      exact ⟨by omega, hF2, by rw [hF], .inl ⟨rfl, rfl⟩⟩
    rintro k s1 ⟨i, last, c, E, rfl, hk, hI⟩
    have hln : (sps E).length = E.length := sps_len E
    have hE : E.length = l.length := hI.1
    have hll : last = 0 ∨ last < i := by
      rcases hI.2.2 with h | ⟨_, _, _, _, h, _⟩
      · exact .inl h.2
      · exact .inr h
    have hw : IntKind.i64.wrap ((last : Int) + 1) = ((last + 1 : Nat) : Int) := by rw [wrap_id (by omega)]; simp
    repeat' (first | ((with_reducible refine Ev.br0 ?_); (first | refine Ev.brp ?_ | refine Ev.brn ?_); conv => whnf) | ((with_reducible refine Ev.c0 ?_); first | refine Ev.cp ?_ | refine Ev.cn ?_) | ((refine Ev.sw ?_); conv => whnf) | refine Ev.sn ?_ | ((with_reducible refine Ev.chk_k ?_ ?_); rotate_left; exact Ev.bt; conv => whnf) | ((with_reducible (refine Ev.RI.run ?_; constructor)) <;> intro _) | ((refine Ev.sg ?_); conv => whnf) | ((with_reducible refine Ev.sided ?_ ?_); conv => whnf) | ((with_reducible refine Ev.kr (hs := []) (fun Q hQ => ?_)); (simp only [Ev.runE_cons, Ev.runE_nil]); conv => whnf) | (with_reducible refine hQ _ ?_; clear hQ Q) | ((refine Ev.sf ?_); intro F hF; conv => whnf) | (with_reducible refine hF _ ?_; clear hF F) | ((with_reducible refine Ev.go_k (fun c' => ?_)); conv => whnf) | ((refine el_set (by rw [sps_len, Nat.zero_add, Int.toNat_natCast]; omega) ?_); conv => whnf) | ((with_reducible refine Ev.dr0 ?_); (first | refine Ev.dr 11 [] [0, 1, 2, 3, 4, 5, 6, 7, 8] ?_ | refine Ev.dr 12 [] [0, 1, 2, 3, 4, 5, 6, 7, 8, 9, 10] ?_ | refine Ev.dr 13 [] [0, 1, 2, 3, 4, 5, 6, 7, 8, 9, 10] ?_); intro Q hQ; (simp only [Ev.runE_cons, Ev.runE_nil]); conv => whnf) | ((first | refine Ev.el_map0 ?_ (fun hi => ?_) | refine Ev.el_mapN ?_ (fun hi => ?_)); rotate_left; conv => whnf) | ((with_reducible refine Ev.sd0 ?_); exact Ev.sd) | fail)
    · rename_i hi0
      have : i = 0 := by omega
      subst this
      obtain ⟨rfl, h2⟩ := hI.first (by omega) hb
      (refine Ev.again (k - 1) _ ?hm9 ?hs9 ?hh9 ?hc9 ⟨1, 0, c + 8, E, rfl, ?hp9⟩; (case hs9 | hh9 => ((repeat' (first | exact trivial | refine And.intro ?_ ?_)) <;> (first | exact Ev.se | (refine Ev.slot_eq rfl ?_; first | (first | exact wrap_succ (by omega) | rfl) | ((first | refine Ev.int_eq ?_ | refine Ev.own_eq ?_ | refine Ev.blk_eq ?_); (first | exact wrap_succ (by omega) | rfl))) | exact Ev.sr))); (case hc9 => exact Nat.le_refl _); (case hm9 => omega))
      exact ⟨by omega, h2⟩
    · have hlE : last < E.length := by assumption
      have hi1 : i < E.length := by assumption
      have hkk : E[i].k = E[last].k := by assumption
      (refine Ev.again (k - 1) _ ?hm10 ?hs10 ?hh10 ?hc10 ⟨i + 1, last, c + 8, E.set last (mrg E[last] E[i]), rfl, ?hp10⟩; (case hs10 | hh10 => ((repeat' (first | exact trivial | refine And.intro ?_ ?_)) <;> (first | exact Ev.se | (refine Ev.slot_eq rfl ?_; first | (first | exact wrap_succ (by omega) | (refine congrArg (fun n => Blk.mk 3 35 _ 0 false n) ?_; show ((sps E).set (0 + (last : Int).toNat) _).set (0 + (last : Int).toNat) (spC (mrg E[last] E[i])) = _; rw [Nat.zero_add, Int.toNat_natCast, List.set_set, sps_set]) | rfl) | ((first | refine Ev.int_eq ?_ | refine Ev.own_eq ?_ | refine Ev.blk_eq ?_); (first | exact wrap_succ (by omega) | (refine congrArg (fun n => Blk.mk 3 35 _ 0 false n) ?_; show ((sps E).set (0 + (last : Int).toNat) _).set (0 + (last : Int).toNat) (spC (mrg E[last] E[i])) = _; rw [Nat.zero_add, Int.toNat_natCast, List.set_set, sps_set]) | rfl))) | exact Ev.sr))); (case hc10 => exact Nat.le_refl _); (case hm10 => omega))
      exact ⟨by omega, hI.same (by omega) (by omega) hlE hi1 hkk⟩
    · have := hI.size (by omega) (by omega) ‹last < E.length› ‹i < E.length›
      refine Ev.Side.of ?_; omega
    · have hlE : last < E.length := by omega
      have hi1 : i < E.length := by omega
      have hkk : ¬ E[i].k = E[last].k := by assumption
      (refine Ev.again (k - 1) _ ?hm11 ?hs11 ?hh11 ?hc11 ⟨i + 1, last + 1, c + 8, E.set (last + 1) E[i], rfl, ?hp11⟩; (case hs11 | hh11 => ((repeat' (first | exact trivial | refine And.intro ?_ ?_)) <;> (first | exact Ev.se | (refine Ev.slot_eq rfl ?_; first | (first | exact wrap_succ (by omega) | exact hw | (refine congrArg (fun n => Blk.mk 3 35 _ 0 false n) ?_; show (sps E).set (0 + (IntKind.i64.wrap ((last : Int) + 1)).toNat) (spC E[i]) = _; rw [hw, Nat.zero_add, Int.toNat_natCast, sps_set]) | rfl) | ((first | refine Ev.int_eq ?_ | refine Ev.own_eq ?_ | refine Ev.blk_eq ?_); (first | exact wrap_succ (by omega) | exact hw | (refine congrArg (fun n => Blk.mk 3 35 _ 0 false n) ?_; show (sps E).set (0 + (IntKind.i64.wrap ((last : Int) + 1)).toNat) (spC E[i]) = _; rw [hw, Nat.zero_add, Int.toNat_natCast, sps_set]) | rfl))) | exact Ev.sr))); (case hc11 => exact Nat.le_refl _); (case hm11 => omega))
      exact ⟨by omega, hI.new (by omega) (by omega) hlE hi1 hkk⟩
    · refine Ev.Side.of ?_; rw [hw]; show last + 1 < E.length; omega
    · have hc := hI
      rw [show i = (full l).length by omega] at hc
      have he := hc.end
      refine ⟨Ev.lst_eq ?_, rfl⟩
      have e1 : (min (IntKind.i64.wrap ((last : Int) + 1)) ((full l).length : Int)).toNat - 0 = min (last + 1) (full l).length := by rw [hw]; omega
      rw [e1, List.drop_zero, ← he]
      show List.take _ (E.map spC) = (E.take _).map spC
      rw [List.map_take]
  · refine Ev.Side.of ⟨by omega, ?_, ?_, sps_all3 l⟩ <;> simp
def normA (acc : List Sp) (s : Sp) : List Sp :=
  if emptyS s then acc
  else match acc.getLast? with
    | none => [s]
    | some c => if s.k = c.k then acc.set (acc.length - 1) (mrg c s) else acc ++ [s]
theorem normA_empty {acc : List Sp} {s : Sp} (h : emptyS s = true) : normA acc s = acc := by unfold normA; rw [if_pos h]
theorem normA_nil {s : Sp} (h : emptyS s = false) : normA [] s = [s] := by unfold normA; rw [h]; rfl
theorem normA_same {acc : List Sp} {s : Sp} {n : Nat} (h : emptyS s = false) (hn : acc.length = n + 1) (h' : n < acc.length) (hk : acc[n].k = s.k) : normA acc s = acc.set n (mrg acc[n] s) := by
  unfold normA
  rw [h, List.getLast?_eq_getElem?, show acc.length - 1 = n by omega, List.getElem?_eq_getElem h']
  simp [hk]
theorem normA_new {acc : List Sp} {s : Sp} {n : Nat} (h : emptyS s = false) (hn : acc.length = n + 1) (h' : n < acc.length) (hk : acc[n].k ≠ s.k) : normA acc s = acc ++ [s] := by
  unfold normA
  rw [h, List.getLast?_eq_getElem?, show acc.length - 1 = n by omega, List.getElem?_eq_getElem h']
  simp [Ne.symm hk]
theorem normA_fold : ∀ (l : List Sp) (pre : List Sp) (cur : Sp), l.foldl normA (pre ++ [cur]) = pre ++ normC cur l
  | [], pre, cur => rfl
  | s :: l, pre, cur => by
    rw [List.foldl_cons]
    simp only [normC]
    cases h : emptyS s with
    | true => rw [normA_empty h, if_pos rfl, normA_fold l]
    | false =>
      have hn : (pre ++ [cur]).length = pre.length + 1 := by simp
      have h' : pre.length < (pre ++ [cur]).length := by omega
      have hg : (pre ++ [cur])[pre.length] = cur := by simp
      rw [if_neg (by decide)]
      by_cases hk : s.k = cur.k
      · rw [normA_same h hn h' (by rw [hg, hk]), if_pos hk, hg]
        have : (pre ++ [cur]).set pre.length (mrg cur s) = pre ++ [mrg cur s] := by simp
        rw [this, normA_fold l]
      · rw [normA_new h hn h' (by rw [hg]; exact fun e => hk e.symm), if_neg hk, normA_fold l, List.append_assoc]; rfl
theorem normA_all : ∀ l : List Sp, l.foldl normA [] = norm l
  | [] => rfl
  | s :: l => by
    rw [List.foldl_cons]
    simp only [norm]
    cases h : emptyS s with
    | true => rw [normA_empty h, if_pos rfl, normA_all l]
    | false => rw [normA_nil h, if_neg (by decide)]; exact normA_fold l [] s
theorem tbs_app (a b : List Sp) : tbs (a ++ b) = tbs a + tbs b := by unfold tbs; rw [List.map_append, List.sum_append]
theorem normA_tbs (acc : List Sp) (s : Sp) : tbs (normA acc s) ≤ tbs acc + s.t.size := by
  unfold normA
  split
  · omega
  · rcases List.eq_nil_or_concat acc with rfl | ⟨pre, c, rfl⟩
    · simp [tbs]
    · have h : (pre ++ [c]).getLast? = some c := by simp
      rw [List.concat_eq_append, h]; simp only
      split
      · have e : (pre ++ [c]).set ((pre ++ [c]).length - 1) (mrg c s) = pre ++ [mrg c s] := by simp
        rw [e, tbs_app, tbs_app]; simp [tbs, mrg, ByteArray.size_append]; omega
      · rw [tbs_app _ [s]]; simp [tbs]
theorem normA_len (acc : List Sp) (s : Sp) : (normA acc s).length ≤ acc.length + 1 := by
  unfold normA
  split
  · omega
  · split
    · simp
    · split <;> simp
def normTo (l : List Sp) (i : Nat) : List Sp := (l.take i).foldl normA []
theorem normTo_succ {l : List Sp} {i : Nat} (hi : i < l.length) : normTo l (i + 1) = normA (normTo l i) l[i] := by
  unfold normTo; rw [List.take_succ_eq_append_getElem hi, List.foldl_append]; rfl
theorem normTo_all {l : List Sp} {i : Nat} (hi : l.length ≤ i) : normTo l i = norm l := by
  unfold normTo; rw [List.take_of_length_le hi, normA_all]
theorem normTo_len (l : List Sp) : ∀ i, (normTo l i).length ≤ i
  | 0 => by simp [normTo]
  | i + 1 => by
    by_cases hi : i < l.length
    · rw [normTo_succ hi]; have := normA_len (normTo l i) l[i]; have := normTo_len l i; omega
    · have e : normTo l (i + 1) = normTo l i := by unfold normTo; rw [List.take_of_length_le (by omega), List.take_of_length_le (by omega)]
      rw [e]; have := normTo_len l i; omega
theorem normTo_tbs (l : List Sp) : ∀ i, tbs (normTo l i) ≤ tbs (l.take i)
  | 0 => by simp [normTo]
  | i + 1 => by
    by_cases hi : i < l.length
    · rw [normTo_succ hi, tbs_take l hi]; have := normA_tbs (normTo l i) l[i]; have := normTo_tbs l i; omega
    · have e : normTo l (i + 1) = normTo l i := by unfold normTo; rw [List.take_of_length_le (by omega), List.take_of_length_le (by omega)]
      have e2 : l.take (i + 1) = l.take i := by rw [List.take_of_length_le (by omega), List.take_of_length_le (by omega)]
      rw [e, e2]; exact normTo_tbs l i
theorem tbs_mem {l : List Sp} {s : Sp} (h : s ∈ l) : s.t.size ≤ tbs l := by
  induction l with
  | nil => cases h
  | cons x l ih =>
    rw [tbs_cons]
    rcases List.mem_cons.1 h with rfl | h'
    · omega
    · have := ih h'; omega
theorem set_last {E : List Sp} {x : Sp} {w : Int} {n : Nat} (hw : w = (n : Int)) (A : List AV) (h : w.toNat < E.length) (h' : n < E.length) : ((sps E).set (0 + w.toNat) A).set (0 + w.toNat) (spC (mrg E[w.toNat] x)) = sps (E.set n (mrg E[n] x)) := by
  subst hw; rw [Nat.zero_add]; simp only [Int.toNat_natCast]; rw [List.set_set, sps_set]
theorem k_last {E : List Sp} {w : Int} {n : Nat} (hw : w = (n : Int)) (h : w.toNat < E.length) (h' : n < E.length) : E[w.toNat] = E[n] := by
  subst hw; rfl
theorem rnof_call (l : List Sp) (hl : l.length ≤ 100000000) (hb : tbs l ≤ 1000000000) : CallW env 71 [.lst 3 (sps l)] (fun r hs => r = .lst 3 (sps (norm l)) ∧ hs = []) := by
  have hsl := sps_len l
  have hmx : 2000000003 ≤ maxLen := by decide
  refine Ev.fn [0, 2, 3, 4, 5, 6, 11, 25, 40] 0 [.tmp 2] Tryd.func71 (comp71 _ rfl) ?_
  repeat' (first | ((refine Ev.sw ?_); conv => whnf) | refine Ev.sn ?_ | ((with_reducible refine Ev.chk_k ?_ ?_); rotate_left; exact Ev.bt; conv => whnf) | ((with_reducible (refine Ev.RI.run ?_; constructor)) <;> intro _) | ((refine Ev.sg ?_); conv => whnf) | ((with_reducible refine Ev.sided ?_ ?_); conv => whnf) | ((with_reducible refine Ev.kr (hs := []) (fun Q hQ => ?_)); (simp only [Ev.runE_cons, Ev.runE_nil]); conv => whnf) | (with_reducible refine hQ _ ?_; clear hQ Q) | ((refine Ev.sf ?_); intro F hF; conv => whnf) | (with_reducible refine hF _ ?_; clear hF F) | ((with_reducible refine Ev.go_k (fun c' => ?_)); conv => whnf) | ((with_reducible refine Ev.dr0 ?_); (first | refine Ev.dr 8 [] [0, 1, 2, 3, 4, 9, 10, 5, 6, 7, 8, 11, 12] ?_); intro Q hQ; (simp only [Ev.runE_cons, Ev.runE_nil]); conv => whnf) | ((with_reducible refine Ev.dr0 ?_); (first | refine Ev.drv 9 [] [(0, false), (1, false), (2, true), (3, false), (4, false), (5, true), (6, false), (7, false), (8, false), (9, false), (10, false), (11, true), (12, false), (13, false), (14, false)] ?_ | refine Ev.drv 10 [] [(0, false), (1, false), (2, true), (3, false), (4, false), (5, true), (6, false), (7, false), (8, false), (9, false), (10, false), (11, false), (12, false), (13, false), (14, false)] ?_); intro Q hQ; (simp only [Ev.runV_consF, Ev.runV_consT, Ev.runV_nil]); conv => whnf) | ((first | refine Ev.el_map0 ?_ (fun hi => ?_) | refine Ev.el_mapN ?_ (fun hi => ?_)); rotate_left; conv => whnf) | ((with_reducible refine Ev.sd0 ?_); exact Ev.sd) | fail)
  refine Ev.loop (fun k s => ∃ (i v c : Nat) (E : List Sp), s = ⟨[(0, .lst 3 (sps l)), (2, nilA), (3, .own 512 v 0 E.length), (4, .v (.int .i64 i))], [(512, ⟨3, 35, v, 0, false, sps E⟩)], c⟩ ∧ k + i = l.length ∧ E = normTo l i) ?_ ?_
  · (refine Ev.to _ ?hs1 ?hh1 ?hc1 ⟨l.length, 0, 0, ?_, [], rfl, ?hp1⟩; (case hs1 | hh1 => ((repeat' (first | exact trivial | refine And.intro ?_ ?_)) <;> (first | exact Ev.se | (refine Ev.slot_eq rfl ?_; first | (first | (simp; done) | (simp; omega)) | ((first | refine Ev.int_eq ?_ | refine Ev.own_eq ?_ | refine Ev.blk_eq ?_); (first | (simp; done) | (simp; omega)))) | exact Ev.sr))); (case hc1 => exact Nat.le_refl _))
    exact ⟨rfl, rfl⟩
  rintro k s1 ⟨i, v, c, E, rfl, hk, hE⟩
  have hln := sps_len E
  have hlE := normTo_len l i
  rw [← hE] at hlE
  have hw : 0 < E.length → IntKind.i64.wrap ((E.length : Int) - 1) = ((E.length - 1 : Nat) : Int) := fun h => by rw [wrap_id (by omega)]; omega
  repeat' (first | ((refine Ev.sw ?_); conv => whnf) | refine Ev.sn ?_ | ((with_reducible refine Ev.chk_k ?_ ?_); rotate_left; exact Ev.bt; conv => whnf) | ((with_reducible (refine Ev.RI.run ?_; constructor)) <;> intro _) | ((refine Ev.sg ?_); conv => whnf) | ((with_reducible refine Ev.sided ?_ ?_); conv => whnf) | ((with_reducible refine Ev.kr (hs := []) (fun Q hQ => ?_)); (simp only [Ev.runE_cons, Ev.runE_nil]); conv => whnf) | (with_reducible refine hQ _ ?_; clear hQ Q) | ((refine Ev.sf ?_); intro F hF; conv => whnf) | (with_reducible refine hF _ ?_; clear hF F) | ((with_reducible refine Ev.go_k (fun c' => ?_)); conv => whnf) | ((refine el_set (by rw [sps_len, Nat.zero_add, hw (by omega)]; omega) ?_); conv => whnf) | ((with_reducible refine Ev.dr0 ?_); (first | refine Ev.dr 8 [] [0, 1, 2, 3, 4, 9, 10, 5, 6, 7, 8, 11, 12] ?_); intro Q hQ; (simp only [Ev.runE_cons, Ev.runE_nil]); conv => whnf) | ((with_reducible refine Ev.dr0 ?_); (first | refine Ev.drv 9 [] [(0, false), (1, false), (2, true), (3, false), (4, false), (5, true), (6, false), (7, false), (8, false), (9, false), (10, false), (11, true), (12, false), (13, false), (14, false)] ?_ | refine Ev.drv 10 [] [(0, false), (1, false), (2, true), (3, false), (4, false), (5, true), (6, false), (7, false), (8, false), (9, false), (10, false), (11, false), (12, false), (13, false), (14, false)] ?_); intro Q hQ; (simp only [Ev.runV_consF, Ev.runV_consT, Ev.runV_nil]); conv => whnf) | ((first | refine Ev.el_map0 ?_ (fun hi => ?_) | refine Ev.el_mapN ?_ (fun hi => ?_)); rotate_left; conv => whnf) | ((with_reducible refine Ev.sd0 ?_); exact Ev.sd) | fail)
  · have hi : i < l.length := by omega
    have he : emptyS l[i] = true := by simp [emptyS, *]
    (refine Ev.again (k - 1) _ ?hm2 ?hs2 ?hh2 ?hc2 ⟨i + 1, v, c + 8, E, rfl, ?hp2⟩; (case hs2 | hh2 => ((repeat' (first | exact trivial | refine And.intro ?_ ?_)) <;> (first | exact Ev.se | (refine Ev.slot_eq rfl ?_; first | (first | exact wrap_succ (by omega) | rfl) | ((first | refine Ev.int_eq ?_ | refine Ev.own_eq ?_ | refine Ev.blk_eq ?_); (first | exact wrap_succ (by omega) | rfl))) | exact Ev.sr))); (case hc2 => exact Nat.le_refl _); (case hm2 => omega))
    exact ⟨by omega, by rw [normTo_succ hi, ← hE, normA_empty he]⟩
  · have hi : i < l.length := by omega
    have he : emptyS l[i] = false := by simp [emptyS, *]
    have hn : E.length - 1 < E.length := by omega
    have hm : (IntKind.i64.wrap ((E.length : Int) - 1)).toNat < E.length := by assumption
    have hkk : E[(IntKind.i64.wrap ((E.length : Int) - 1)).toNat].k = l[i].k := by assumption
    rw [k_last (hw (by omega)) hm hn] at hkk
    have hr := fun A => set_last (x := l[i]) (hw (by omega)) A hm hn
    (refine Ev.again (k - 1) _ ?hm3 ?hs3 ?hh3 ?hc3 ⟨i + 1, v, c + 8, E.set (E.length - 1) (mrg E[E.length - 1] l[i]), rfl, ?hp3⟩; (case hs3 | hh3 => ((repeat' (first | exact trivial | refine And.intro ?_ ?_)) <;> (first | exact Ev.se | (refine Ev.slot_eq rfl ?_; first | (first | exact wrap_succ (by omega) | (exact congrArg (fun n => Blk.mk 3 35 _ 0 false n) (hr _)) | (simp; done) | rfl) | ((first | refine Ev.int_eq ?_ | refine Ev.own_eq ?_ | refine Ev.blk_eq ?_); (first | exact wrap_succ (by omega) | (exact congrArg (fun n => Blk.mk 3 35 _ 0 false n) (hr _)) | (simp; done) | rfl))) | exact Ev.sr))); (case hc3 => exact Nat.le_refl _); (case hm3 => omega))
    exact ⟨by omega, by rw [normTo_succ hi, ← hE, normA_same he (n := E.length - 1) (by omega) hn hkk]⟩
  · have hi : i < l.length := by omega
    have hn : E.length - 1 < E.length := by omega
    have hm : (IntKind.i64.wrap ((E.length : Int) - 1)).toNat < E.length := by assumption
    have h1 := tbs_mem (List.getElem_mem hm)
    have h2 := normTo_tbs l i
    have h3 := tbs_take l hi
    have h4 := tbs_le l (i + 1)
    rw [← hE] at h2
    refine Ev.Side.of ?_
    show (E[(IntKind.i64.wrap ((E.length : Int) - 1)).toNat]).t.size + _ ≤ _
    omega
  · have hi : i < l.length := by omega
    have he : emptyS l[i] = false := by simp [emptyS, *]
    have hn : E.length - 1 < E.length := by omega
    have hm : (IntKind.i64.wrap ((E.length : Int) - 1)).toNat < E.length := by assumption
    have hkk : ¬ E[(IntKind.i64.wrap ((E.length : Int) - 1)).toNat].k = l[i].k := by assumption
    rw [k_last (hw (by omega)) hm hn] at hkk
    (refine Ev.again (k - 1) _ ?hm4 ?hs4 ?hh4 ?hc4 ⟨i + 1, c + 8 + 8, c + 8 + 8 + 8, E ++ [l[i]], rfl, ?hp4⟩; (case hs4 | hh4 => ((repeat' (first | exact trivial | refine And.intro ?_ ?_)) <;> (first | exact Ev.se | (refine Ev.slot_eq rfl ?_; first | (first | exact wrap_succ (by omega) | (simp; done) | (simp [sps, spC]; done) | rfl) | ((first | refine Ev.int_eq ?_ | refine Ev.own_eq ?_ | refine Ev.blk_eq ?_); (first | exact wrap_succ (by omega) | (simp; done) | (simp [sps, spC]; done) | rfl))) | exact Ev.sr))); (case hc4 => exact Nat.le_refl _); (case hm4 => omega))
    exact ⟨by omega, by rw [normTo_succ hi, ← hE, normA_new he (n := E.length - 1) (by omega) hn hkk]⟩
  · refine Ev.Side.of ?_
    show (IntKind.i64.wrap ((E.length : Int) - 1)).toNat < E.length
    rw [hw (by omega)]; omega
  · have hi : i < l.length := by omega
    have he : emptyS l[i] = false := by simp [emptyS, *]
    have hz : E = [] := List.eq_nil_of_length_eq_zero (by omega)
    subst hz
    (refine Ev.again (k - 1) _ ?hm5 ?hs5 ?hh5 ?hc5 ⟨i + 1, c + 8 + 8, c + 8 + 8 + 8, [l[i]], rfl, ?hp5⟩; (case hs5 | hh5 => ((repeat' (first | exact trivial | refine And.intro ?_ ?_)) <;> (first | exact Ev.se | (refine Ev.slot_eq rfl ?_; first | (first | exact wrap_succ (by omega) | (simp; done) | (simp [sps, spC]; done) | rfl) | ((first | refine Ev.int_eq ?_ | refine Ev.own_eq ?_ | refine Ev.blk_eq ?_); (first | exact wrap_succ (by omega) | (simp; done) | (simp [sps, spC]; done) | rfl))) | exact Ev.sr))); (case hc5 => exact Nat.le_refl _); (case hm5 => omega))
    exact ⟨by omega, by rw [normTo_succ hi, ← hE, normA_nil he]⟩
  · have hi : i < l.length := by omega
    have he : emptyS l[i] = false := by simp [emptyS, *]
    have hn : E.length - 1 < E.length := by omega
    have hm : (IntKind.i64.wrap ((E.length : Int) - 1)).toNat < E.length := by assumption
    have hkk : E[(IntKind.i64.wrap ((E.length : Int) - 1)).toNat].k = l[i].k := by assumption
    rw [k_last (hw (by omega)) hm hn] at hkk
    have hr := fun A => set_last (x := l[i]) (hw (by omega)) A hm hn
    (refine Ev.again (k - 1) _ ?hm6 ?hs6 ?hh6 ?hc6 ⟨i + 1, v, c + 8, E.set (E.length - 1) (mrg E[E.length - 1] l[i]), rfl, ?hp6⟩; (case hs6 | hh6 => ((repeat' (first | exact trivial | refine And.intro ?_ ?_)) <;> (first | exact Ev.se | (refine Ev.slot_eq rfl ?_; first | (first | exact wrap_succ (by omega) | (exact congrArg (fun n => Blk.mk 3 35 _ 0 false n) (hr _)) | (simp; done) | rfl) | ((first | refine Ev.int_eq ?_ | refine Ev.own_eq ?_ | refine Ev.blk_eq ?_); (first | exact wrap_succ (by omega) | (exact congrArg (fun n => Blk.mk 3 35 _ 0 false n) (hr _)) | (simp; done) | rfl))) | exact Ev.sr))); (case hc6 => exact Nat.le_refl _); (case hm6 => omega))
    exact ⟨by omega, by rw [normTo_succ hi, ← hE, normA_same he (n := E.length - 1) (by omega) hn hkk]⟩
  · have hi : i < l.length := by omega
    have hn : E.length - 1 < E.length := by omega
    have hm : (IntKind.i64.wrap ((E.length : Int) - 1)).toNat < E.length := by assumption
    have h1 := tbs_mem (List.getElem_mem hm)
    have h2 := normTo_tbs l i
    have h3 := tbs_take l hi
    have h4 := tbs_le l (i + 1)
    rw [← hE] at h2
    refine Ev.Side.of ?_
    show (E[(IntKind.i64.wrap ((E.length : Int) - 1)).toNat]).t.size + _ ≤ _
    omega
  · have hi : i < l.length := by omega
    have he : emptyS l[i] = false := by simp [emptyS, *]
    have hn : E.length - 1 < E.length := by omega
    have hm : (IntKind.i64.wrap ((E.length : Int) - 1)).toNat < E.length := by assumption
    have hkk : ¬ E[(IntKind.i64.wrap ((E.length : Int) - 1)).toNat].k = l[i].k := by assumption
    rw [k_last (hw (by omega)) hm hn] at hkk
    (refine Ev.again (k - 1) _ ?hm7 ?hs7 ?hh7 ?hc7 ⟨i + 1, c + 8 + 8, c + 8 + 8 + 8, E ++ [l[i]], rfl, ?hp7⟩; (case hs7 | hh7 => ((repeat' (first | exact trivial | refine And.intro ?_ ?_)) <;> (first | exact Ev.se | (refine Ev.slot_eq rfl ?_; first | (first | exact wrap_succ (by omega) | (simp; done) | (simp [sps, spC]; done) | rfl) | ((first | refine Ev.int_eq ?_ | refine Ev.own_eq ?_ | refine Ev.blk_eq ?_); (first | exact wrap_succ (by omega) | (simp; done) | (simp [sps, spC]; done) | rfl))) | exact Ev.sr))); (case hc7 => exact Nat.le_refl _); (case hm7 => omega))
    exact ⟨by omega, by rw [normTo_succ hi, ← hE, normA_new he (n := E.length - 1) (by omega) hn hkk]⟩
  · refine Ev.Side.of ?_
    show (IntKind.i64.wrap ((E.length : Int) - 1)).toNat < E.length
    rw [hw (by omega)]; omega
  · have hi : i < l.length := by omega
    have he : emptyS l[i] = false := by simp [emptyS, *]
    have hz : E = [] := List.eq_nil_of_length_eq_zero (by omega)
    subst hz
    (refine Ev.again (k - 1) _ ?hm8 ?hs8 ?hh8 ?hc8 ⟨i + 1, c + 8 + 8, c + 8 + 8 + 8, [l[i]], rfl, ?hp8⟩; (case hs8 | hh8 => ((repeat' (first | exact trivial | refine And.intro ?_ ?_)) <;> (first | exact Ev.se | (refine Ev.slot_eq rfl ?_; first | (first | exact wrap_succ (by omega) | (simp; done) | (simp [sps, spC]; done) | rfl) | ((first | refine Ev.int_eq ?_ | refine Ev.own_eq ?_ | refine Ev.blk_eq ?_); (first | exact wrap_succ (by omega) | (simp; done) | (simp [sps, spC]; done) | rfl))) | exact Ev.sr))); (case hc8 => exact Nat.le_refl _); (case hm8 => omega))
    exact ⟨by omega, by rw [normTo_succ hi, ← hE, normA_nil he]⟩
  · refine ⟨Ev.lst_eq ?_, rfl⟩
    rw [List.drop_zero, List.take_of_length_le (by omega), hE, normTo_all (by omega)]
theorem tbs_small {l : List Sp} (h : tbs l ≤ 1000000000) : Small l := by
  intro s hs
  have : s.t.size ≤ tbs l := by
    clear h
    induction l with
    | nil => cases hs
    | cons x l ih =>
      rw [tbs_cons]
      rcases List.mem_cons.1 hs with rfl | h'
      · omega
      · have := ih h'; omega
  omega
end Go.Proofs.YtadlnaljicikfaaDoor.Abs
namespace Go.Proofs.YtadlnaljicikfaaDoor.Abs
open Go Go.Lib
theorem norm_tbs (l : List Sp) : tbs (norm l) ≤ tbs l := by
  have := normTo_tbs l l.length
  rwa [normTo_all (Nat.le_refl _), List.take_length] at this
theorem norm_len (l : List Sp) : (norm l).length ≤ l.length := by
  have := normTo_len l l.length
  rwa [normTo_all (Nat.le_refl _)] at this
theorem tbs_bound {l : List Sp} {b : Nat} (h : ∀ s ∈ l, s.t.size ≤ b) : tbs l ≤ b * l.length := by
  induction l with
  | nil => simp [tbs]
  | cons s l ih =>
    have h1 := h s (by simp)
    have h2 := ih (fun x hx => h x (by simp [hx]))
    rw [tbs_cons, List.length_cons, Nat.mul_succ]; omega
theorem may_norm {l : List Sp} (h : opMayF l = 0) (hl : l.length ≤ 65536) (ht : tbs l ≤ 65536) : wPutE (norm l) = 0 ∧ (norm l).length ≤ l.length ∧ tbs (norm l) ≤ 65536 := by
  have h1 := norm_tbs l
  have h2 := norm_len l
  obtain ⟨h3, h4⟩ := (opMay_iff l).1 h
  refine ⟨wPutE_of (norm_may h (by omega)) (norm_isN l h3 ?_) (by omega) (fun s hs => by have := tbs_mem hs; omega), h2, by omega⟩
  rw [← inW_sum h3 (by omega)]; exact h4
theorem fit_tbs (l : List Sp) {n : Int} (hn : 0 ≤ n ∧ n ≤ 1048576) : (fitO l n).length ≤ 13 ∧ tbs (fitO l n) ≤ 312 := by
  obtain ⟨h1, h2, h3⟩ := fitO_all l hn
  have := tbs_bound (b := 24) (fun s hs => (h1 s hs).2.1)
  omega
theorem fit_norm (l : List Sp) {n : Int} (hn : 0 ≤ n ∧ n ≤ 1048576) : wPutE (norm (fitO l n)) = 0 ∧ (norm (fitO l n)).length ≤ 13 ∧ tbs (norm (fitO l n)) ≤ 312 := by
  obtain ⟨h1, h2⟩ := fit_tbs l hn
  obtain ⟨a, b, c⟩ := may_norm (fitO_may l hn) (by omega) (by omega)
  have := norm_tbs (fitO l n)
  exact ⟨a, by omega, by omega⟩
theorem outS_le {s : Sp} (h : SpOK s) (ht : s.t.size ≤ 24) : outS s ≤ inS s + 24 ∧ 0 ≤ outS s := by
  rcases h.cases with ⟨a, b, c, _⟩ | ⟨a, b, c⟩
  · have hi : inS s = s.n := by unfold Abs.inS inF; rw [if_pos a]
    rcases a with a | a
    · have ho : outS s = s.n := by unfold outS outF; rw [if_pos a]
      omega
    · have ho : outS s = 0 := by unfold outS outF; rw [if_neg (by omega), if_neg (by omega)]
      omega
  · have ho : outS s = max (countD s.t.data.toList) 0 := by unfold outS outF; rw [if_neg (by omega), if_pos a]
    have hi : inS s = 0 := by unfold Abs.inS inF; rw [if_neg (by omega)]
    rw [countD_pts c] at ho
    have := pts_len s.t.data.toList
    rw [len_list] at this; omega
theorem sum_out {l : List Sp} (h : ∀ s ∈ l, SpOK s ∧ s.t.size ≤ 24) : sumI outS l ≤ sumI inS l + 24 * l.length ∧ 0 ≤ sumI outS l := by
  induction l with
  | nil => simp [sumI]
  | cons s l ih =>
    have h1 := outS_le (h s (by simp)).1 (h s (by simp)).2
    have h2 := ih (fun x hx => h x (by simp [hx]))
    rw [sumI_cons, sumI_cons, List.length_cons]; omega
theorem fit_out (l : List Sp) {n : Int} (hn : 0 ≤ n ∧ n ≤ 1048576) : 0 ≤ outW (fitO l n) ∧ outW (fitO l n) ≤ n + 312 := by
  obtain ⟨h1, h2, h3⟩ := fitO_all l hn
  have h4 := sum_out (l := fitO l n) (fun s hs => ⟨(h1 s hs).1, (h1 s hs).2.1⟩)
  rw [outW_eq, wrap_id (by omega)]; omega
def chS (p : List (List Sp) × Int) (x : List Sp) : List (List Sp) × Int := (p.1 ++ [fitO x p.2], outW (fitO x p.2))
def chP (l : List (List Sp)) (n : Int) (i : Nat) : List (List Sp) × Int := (l.take i).foldl chS ([], n)
theorem chP_succ {l : List (List Sp)} {n : Int} {i : Nat} (hi : i < l.length) : chP l n (i + 1) = chS (chP l n i) l[i] := by
  unfold chP; rw [List.take_succ_eq_append_getElem hi, List.foldl_append]; rfl
theorem chP_all (l : List (List Sp)) {n : Int} (hn : 0 ≤ n ∧ n ≤ 1000) : ∀ i, i ≤ 20 → 0 ≤ (chP l n i).2 ∧ (chP l n i).2 ≤ n + 312 * i ∧ (chP l n i).1.length ≤ i ∧ (i ≤ l.length → (chP l n i).1.length = i)
  | 0, _ => by simp [chP]; omega
  | i + 1, h => by
    obtain ⟨a, b, c, d⟩ := chP_all l hn i (by omega)
    by_cases hi : i < l.length
    · have e := fit_out l[i] (n := (chP l n i).2) (by omega)
      rw [chP_succ hi]
      simp only [chS, List.length_append, List.length_singleton]
      omega
    · have e : chP l n (i + 1) = chP l n i := by unfold chP; rw [List.take_of_length_le (by omega), List.take_of_length_le (by omega)]
      rw [e]; omega
def chO (l : List (List Sp)) (n : Int) : List (List Sp) := (chP l n 20).1
theorem chP_end {l : List (List Sp)} {n : Int} {i : Nat} (h : l.length ≤ i ∨ i = 20) (h' : i ≤ 20) : (chP l n i).1 = chO l n := by
  rcases h with h | rfl
  · unfold chO chP; rw [List.take_of_length_le h, List.take_of_length_le (by omega)]
  · rfl
def Chn : Int → List (List Sp) → Prop
  | _, [] => True
  | n, x :: l => (∃ y m, x = fitO y m ∧ 0 ≤ m ∧ m ≤ 10000) ∧ inW x = n ∧ Chn (outW x) l
def endN : Int → List (List Sp) → Int
  | n, [] => n
  | _, x :: l => endN (outW x) l
theorem chn_app : ∀ (l : List (List Sp)) (n : Int) (x : List Sp), Chn n l → (∃ y m, x = fitO y m ∧ 0 ≤ m ∧ m ≤ 10000) → inW x = endN n l → Chn n (l ++ [x]) ∧ endN n (l ++ [x]) = outW x
  | [], n, x, _, h, h' => ⟨⟨h, h', trivial⟩, rfl⟩
  | y :: l, n, x, ⟨a, b, c⟩, h, h' => by
    obtain ⟨e, f⟩ := chn_app l (outW y) x c h h'
    exact ⟨⟨a, b, e⟩, f⟩
theorem chP_chn (l : List (List Sp)) {n : Int} (hn : 0 ≤ n ∧ n ≤ 1000) : ∀ i, i ≤ 20 → Chn n (chP l n i).1 ∧ endN n (chP l n i).1 = (chP l n i).2
  | 0, _ => ⟨trivial, rfl⟩
  | i + 1, h => by
    obtain ⟨a, b⟩ := chP_chn l hn i (by omega)
    obtain ⟨c, d, _⟩ := chP_all l hn i (by omega)
    by_cases hi : i < l.length
    · rw [chP_succ hi]
      exact chn_app _ _ _ a ⟨_, _, rfl, c, by omega⟩ (by rw [b]; exact fitO_in _ (by omega))
    · have e : chP l n (i + 1) = chP l n i := by unfold chP; rw [List.take_of_length_le (by omega), List.take_of_length_le (by omega)]
      rw [e]; exact ⟨a, b⟩
theorem chO_chn (l : List (List Sp)) {n : Int} (hn : 0 ≤ n ∧ n ≤ 1000) : Chn n (chO l n) ∧ (chO l n).length ≤ 20 := ⟨(chP_chn l hn 20 (by omega)).1, (chP_all l hn 20 (by omega)).2.2.1⟩
theorem chn_mem : ∀ {l : List (List Sp)} {n : Int}, Chn n l → ∀ x ∈ l, ∃ y m, x = fitO y m ∧ 0 ≤ m ∧ m ≤ 10000
  | [], _, _, x, hx => by cases hx
  | y :: l, n, ⟨a, b, c⟩, x, hx => by
    rcases List.mem_cons.1 hx with rfl | h
    · exact a
    · exact chn_mem c x h
end Go.Proofs.YtadlnaljicikfaaDoor.Abs
namespace Go.Proofs.YtadlnaljicikfaaDoor.Abs
open Go
set_option maxRecDepth 100000
attribute [local irreducible] Ev.Unr Ev.Go' Ev.bytK Ev.runK Ev.FinL Ev.brC Ev.Side Ev.Wp Ev.Again Ev.To Ev.Fin
open Go.Lib Go.RowKit
theorem comp69 : ∀ c, Tryd.f69.body = some c → comp c = (.seq (.reg 0 [I.n 0 4 I.sn]) (.seq (.reg 1 [I.n 0 8 (.buildSlice 22 0 #[]), I.n 1 5 (I.sa 8)]) (.seq (.seq (.reg 2 [I.n 0 6 (I.si 0)]) (.block 0 (.loop (.seq (.seq (.reg 3 [I.n 0 9 (I.mv 6), I.n 1 10 (I.mv 0), I.n 2 11 (I.ln 10 22), I.n 3 12 (I.bo .lss 3 9 11 3), I.n 4 13 (I.mv 12), I.w 5 14 (I.mv 6) 13 true, I.w 6 15 (I.bc .lss 3 14 20 3) 13 true, I.n 7 16 (I.pc 13 15 false)]) (.cond (.tmp 16) .skip (.exit 0))) (.seq (.block 1 (.seq (.reg 5 [I.n 0 19 (I.mv 0), I.n 1 20 (I.mv 6), I.n 2 21 (I.ia 22 19 20), I.n 3 22 (I.ld 23 21), I.n 4 23 (I.mv 1), I.n 5 24 (I.c2 31 22 23 23 3), I.n 6 7 (I.sa 24)]) (.seq (.reg 6 [I.n 0 25 (I.mv 5), I.n 1 26 (I.mv 7), I.n 2 27 (I.b1 22 26), I.n 3 28 (I.ap 25 27 22 22), I.n 4 5 (I.sa 28)]) (.reg 7 [I.n 0 29 (I.mv 7), I.n 1 30 (I.c1 102 29 23), I.n 2 1 (I.sa 30)])))) (.reg 4 [I.n 0 17 (I.mv 6), I.n 1 18 (I.bc .add 3 17 1 3), I.n 2 6 (I.sa 18)])))))) (.seq (.reg 8 [I.n 0 31 (I.mv 5), I.n 1 4 (I.sa 31)]) .ret)))) := by
  intro c h
  have : c = Tryd.f69.body.get rfl := by rw [← Option.some_inj, ← h]; rfl
  rw [this]; rfl
def rowsA (l : List (List Sp)) : List (List AV) := l.map fun x => [.lst 3 (sps x)]
@[simp] theorem rowsA_len (l : List (List Sp)) : (rowsA l).length = l.length := by simp [rowsA]
theorem rowsA_app (a b : List (List Sp)) : rowsA (a ++ b) = rowsA a ++ rowsA b := by simp [rowsA]
theorem chain4_call (l : List (List Sp)) (n : Int) (hn : 0 ≤ n ∧ n ≤ 1000) : CallW env 69 [.lst 1 (rowsA l), .v (.int .i64 n)] (fun r hs => r = .lst 1 (rowsA (chO l n)) ∧ hs = []) := by
  have hrl := rowsA_len l
  refine Ev.fn [0, 1, 4, 5, 6, 7, 16] 0 [.tmp 4] Tryd.func69 (comp69 _ rfl) ?_
  repeat' (first | ((refine Ev.sw ?_); conv => whnf) | refine Ev.sn ?_ | ((with_reducible refine Ev.chk_k ?_ ?_); rotate_left; exact Ev.bt; conv => whnf) | ((with_reducible (refine Ev.RI.run ?_; constructor)) <;> intro _) | ((refine Ev.sg ?_); conv => whnf) | ((with_reducible refine Ev.sided ?_ ?_); conv => whnf) | ((with_reducible refine Ev.kr (hs := []) (fun Q hQ => ?_)); (simp only [Ev.runE_cons, Ev.runE_nil]); conv => whnf) | (with_reducible refine hQ _ ?_; clear hQ Q) | ((refine Ev.sf ?_); intro F hF; conv => whnf) | (with_reducible refine hF _ ?_; clear hF F) | ((with_reducible refine Ev.go_k (fun c' => ?_)); conv => whnf) | ((first | refine Ev.el_map0 ?_ (fun hi => ?_) | refine Ev.el_mapN ?_ (fun hi => ?_)); rotate_left; conv => whnf) | ((with_reducible refine Ev.sd0 ?_); exact Ev.sd) | fail)
  refine Ev.loop (fun k s => ∃ (i v c : Nat) (E : List (List Sp)) (m : Int), s = ⟨[(0, .lst 1 (rowsA l)), (1, .v (.int .i64 m)), (4, nilA), (5, .own 512 v 0 E.length), (6, .v (.int .i64 i))], [(512, ⟨1, 23, v, 0, false, rowsA E⟩)], c⟩ ∧ k + i = 20 ∧ i ≤ l.length ∧ (E, m) = chP l n i) ?_ ?_
  · (refine Ev.to _ ?hs1 ?hh1 ?hc1 ⟨20, 0, ?_, ?_, [], n, rfl, ?hp1⟩; (case hs1 | hh1 => ((repeat' (first | exact trivial | refine And.intro ?_ ?_)) <;> (first | exact Ev.se | (refine Ev.slot_eq rfl ?_; first | (first | (simp; done) | (simp; omega)) | ((first | refine Ev.int_eq ?_ | refine Ev.own_eq ?_ | refine Ev.blk_eq ?_); (first | (simp; done) | (simp; omega)))) | exact Ev.sr))); (case hc1 => exact Nat.le_refl _))
    exact ⟨by omega, by omega, rfl⟩
  rintro k s1 ⟨i, v, c, E, m, rfl, hk, hi', hE⟩
  obtain ⟨c1, c2, c3, c4⟩ := chP_all l hn i (by omega)
  rw [← hE] at c1 c2 c3 c4
  simp only at c1 c2 c3 c4
  have hel := rowsA_len E
  have hlen := c4 hi'
  repeat' (first | ((refine Ev.sw ?_); conv => whnf) | refine Ev.sn ?_ | ((with_reducible refine Ev.chk_k ?_ ?_); rotate_left; exact Ev.bt; conv => whnf) | ((with_reducible (refine Ev.RI.run ?_; constructor)) <;> intro _) | ((refine Ev.sg ?_); conv => whnf) | ((with_reducible refine Ev.sided ?_ ?_); conv => whnf) | ((with_reducible refine Ev.kr (hs := []) (fun Q hQ => ?_)); (simp only [Ev.runE_cons, Ev.runE_nil]); conv => whnf) | (with_reducible refine hQ _ ?_; clear hQ Q) | ((refine Ev.sf ?_); intro F hF; conv => whnf) | (with_reducible refine hF _ ?_; clear hF F) | ((with_reducible refine Ev.go_k (fun c' => ?_)); conv => whnf) | ((with_reducible refine Ev.ca0 ?_); (first | refine Ev.call_det (fit4_call _ m (by omega)) rfl rfl ?_ | refine Ev.call_det (r4out_call (fitO _ m) (by have := (fit_tbs l[i] (n := m) (by omega)).1; omega) (fitO_small _ (by omega))) rfl rfl ?_ | refine Ev.ca (fit4_call _ m (by omega)) ?_ | refine Ev.ca (r4out_call (fitO _ m) (by have := (fit_tbs l[i] (n := m) (by omega)).1; omega) (fitO_small _ (by omega))) ?_); conv => whnf) | ((first | refine Ev.el_map0 ?_ (fun hi => ?_) | refine Ev.el_mapN ?_ (fun hi => ?_)); rotate_left; conv => whnf) | ((with_reducible refine Ev.sd0 ?_); exact Ev.sd) | fail)
  · have hi : i < l.length := by assumption
    (refine Ev.again (k - 1) _ ?hm2 ?hs2 ?hh2 ?hc2 ⟨i + 1, ?_, ?_, E ++ [fitO l[i] m], outW (fitO l[i] m), rfl, ?hp2⟩; (case hs2 | hh2 => ((repeat' (first | exact trivial | refine And.intro ?_ ?_)) <;> (first | exact Ev.se | (refine Ev.slot_eq rfl ?_; first | (first | exact wrap_succ (by omega) | (rw [rowsA_app]; rfl) | (simp; done) | rfl) | ((first | refine Ev.int_eq ?_ | refine Ev.own_eq ?_ | refine Ev.blk_eq ?_); (first | exact wrap_succ (by omega) | (rw [rowsA_app]; rfl) | (simp; done) | rfl))) | exact Ev.sr))); (case hc2 => exact Nat.le_refl _); (case hm2 => omega))
    exact ⟨by omega, by omega, by rw [chP_succ hi, ← hE]; rfl⟩
  all_goals
    have he := chP_end (l := l) (n := n) (i := i) (by omega) (by omega)
    rw [← hE] at he
    refine ⟨Ev.lst_eq (Ev.take_all (by omega) ?_), rfl⟩
    exact congrArg rowsA he
@[simp] theorem ints_len (l : List Int) : (ints l).length = l.length := by simp [ints]
def lastI (was : Int) (l : List Int) : Int := l.getLast?.getD was
theorem lastI_snoc (was : Int) (l : List Int) (x : Int) : lastI was (l ++ [x]) = x := by simp [lastI]
theorem lastI_cons (was x : Int) (l : List Int) : lastI was (x :: l) = lastI x l := by
  cases l with
  | nil => rfl
  | cons y l => simp [lastI, List.getLast?_cons]
theorem risesG_snoc : ∀ (l : List Int) (was x : Int), risesG was (l ++ [x]) = (risesG was l && (decide (lastI was l < x) && decide (x ≤ 268435455)))
  | [], was, x => by simp only [List.nil_append, risesG, lastI, List.getLast?_nil, Option.getD_none, Bool.and_true, Bool.true_and]; rfl
  | y :: l, was, x => by rw [List.cons_append]; simp only [risesG]; rw [risesG_snoc l, lastI_cons]; simp only [Bool.and_assoc]
structure Lg where
  base : ByteArray
  revs : List Int
  segs : List (List Sp)
def lgA (c : Lg) : AV := .agg [.v (.string c.base), .lst 1 (ints c.revs), .lst 1 (rowsA c.segs)]
def segE (n : Int) (l : List Sp) : Int := if opMayF l ≠ 0 then opMayF l else if inW l ≠ n then 5 else if 1048576 < outW l then 4 else if isN l then 0 else 8
def segsE : Int → List (List Sp) → Int
  | _, [] => 0
  | n, x :: l => if segE n x = 0 then segsE (outW x) l else segE n x
def szL : Int → List (List Sp) → List Int
  | n, [] => [n]
  | n, x :: l => n :: szL (outW x) l
def chE (c : Lg) : Int := if countD c.base.data.toList < 0 then 3 else if 1048576 < countD c.base.data.toList then 4 else if rPutE c.revs ≠ 0 ∨ c.revs.length ≠ c.segs.length + 1 then 6 else segsE (countD c.base.data.toList) c.segs
def LgS (c : Lg) : Prop := c.base.size ≤ 1000000000 ∧ c.revs.length ≤ 100000000 ∧ c.segs.length ≤ 100000000 ∧ ∀ x ∈ c.segs, x.length ≤ 100000000 ∧ Small x
theorem segsE_app : ∀ (a b : List (List Sp)) (n : Int), segsE n (a ++ b) = if segsE n a = 0 then segsE (endN n a) b else segsE n a
  | [], b, n => rfl
  | x :: a, b, n => by
    rw [List.cons_append]
    by_cases h : segE n x = 0
    · have e1 : segsE n (x :: (a ++ b)) = segsE (outW x) (a ++ b) := if_pos h
      have e2 : segsE n (x :: a) = segsE (outW x) a := if_pos h
      rw [e1, e2, segsE_app a b]; rfl
    · have e1 : segsE n (x :: (a ++ b)) = segE n x := if_neg h
      have e2 : segsE n (x :: a) = segE n x := if_neg h
      rw [e1, e2, if_neg h]
theorem szL_len : ∀ (a : List (List Sp)) (n : Int), (szL n a).length = a.length + 1
  | [], n => rfl
  | y :: a, n => by simp only [szL, List.length_cons]; rw [szL_len a]
theorem ints_app (a b : List Int) : ints (a ++ b) = ints a ++ ints b := by simp [ints]
end Go.Proofs.YtadlnaljicikfaaDoor.Abs
namespace Go.Proofs.YtadlnaljicikfaaDoor.Abs
open Go Go.Lib
theorem decodeL_cut {l : List UInt8} (hl : l ≠ []) (h : decodeL l ≠ (65533, 1)) : decodeL (l.take (decodeL l).2) = decodeL l := by
  have hp := List.length_pos_iff.2 hl
  have hle := decodeL_le l hl
  have g : ∀ w i, i < w → ((l.take w).getD i 0) = l.getD i 0 := fun w i hi => by
    simp only [List.getD_eq_getElem?_getD, List.getElem?_take, if_pos hi]
  rw [decodeL_N] at h hle ⊢
  rw [decodeL_N]
  rcases decodeN_shape l.length (l.getD 0 0).toNat (l.getD 1 0).toNat (l.getD 2 0).toNat (l.getD 3 0).toNat with ⟨c, e⟩ | ⟨c1, c2, c3, cv, e⟩ | ⟨c1, c2, c3, c4, cv, cs, e⟩ | ⟨c1, c2, c3, c4, c5, cv, cw, e⟩ | e
  · rw [e]
    simp only
    rw [g 1 0 (by omega)]
    unfold decodeN; rw [if_pos c]
  · rw [e]
    simp only
    rw [g 2 0 (by omega), g 2 1 (by omega), show (l.take 2).length = 2 by rw [List.length_take]; omega]
    unfold decodeN; rw [if_neg (by omega), if_pos ⟨c1, by omega, c3⟩, if_pos cv]
  · rw [e]
    simp only
    rw [g 3 0 (by omega), g 3 1 (by omega), g 3 2 (by omega), show (l.take 3).length = 3 by rw [List.length_take]; omega]
    unfold decodeN; rw [if_neg (by omega), if_neg (by omega), if_pos ⟨c1, ⟨by omega, c3⟩, by omega, c4⟩, if_pos ⟨cv, by omega⟩]
  · rw [e]
    simp only
    rw [g 4 0 (by omega), g 4 1 (by omega), g 4 2 (by omega), g 4 3 (by omega), show (l.take 4).length = 4 by rw [List.length_take]; omega]
    unfold decodeN; rw [if_neg (by omega), if_neg (by omega), if_neg (by omega), if_pos ⟨c1, ⟨by omega, c3⟩, ⟨by omega, c4⟩, by omega, c5⟩, if_pos ⟨cv, by omega⟩]
  · exact absurd e h
def Scal (p : Nat) : Prop := encodeRune (p : Int) ≠ [] ∧ ∀ rest, decodeL (encodeRune (p : Int) ++ rest) = (p, (encodeRune (p : Int)).length) ∧ (p, (encodeRune (p : Int)).length) ≠ (65533, 1)
theorem scal_decode {l : List UInt8} (hl : l ≠ []) (h : decodeL l ≠ (65533, 1)) : Scal (decodeL l).1 ∧ encodeRune ((decodeL l).1 : Int) = l.take (decodeL l).2 := by
  have e := encode_decode l hl (fun hh => h (Prod.ext hh.1 hh.2))
  have hw := decodeL_width l
  have hle := decodeL_le l hl
  have hlen : (l.take (decodeL l).2).length = (decodeL l).2 := by rw [List.length_take]; omega
  have hne : l.take (decodeL l).2 ≠ [] := by intro hh; rw [hh] at hlen; simp at hlen; omega
  have hc := decodeL_cut hl h
  refine ⟨⟨by rw [e]; exact hne, fun rest => ?_⟩, e⟩
  rw [e, hlen]
  refine ⟨?_, h⟩
  rw [decode_app hne (by rw [hc]; exact h), hc]
def encU (l : List Nat) : List UInt8 := l.flatMap fun (p : Nat) => encodeRune (p : Int)
theorem encU_cons (p : Nat) (l : List Nat) : encU (p :: l) = encodeRune (p : Int) ++ encU l := rfl
theorem encU_app (a b : List Nat) : encU (a ++ b) = encU a ++ encU b := by simp [encU]
theorem pts_scal : ∀ l, validD l = true → encU (pts l) = l ∧ ∀ p ∈ pts l, Scal p := by
  refine text_ind ⟨rfl, fun p hp => by simp [pts_nil] at hp⟩ (fun l he hv hd hs ih => ?_)
  obtain ⟨s, e⟩ := scal_decode he hd
  rw [pts_step he]
  refine ⟨?_, ?_⟩
  · rw [encU_cons, e, ih.1, List.take_append_drop]
  · intro p hp
    rcases List.mem_cons.1 hp with rfl | hp
    · exact s
    · exact ih.2 p hp
theorem scal_text : ∀ (l : List Nat), (∀ p ∈ l, Scal p) → validD (encU l) = true ∧ pts (encU l) = l
  | [], _ => ⟨rfl, rfl⟩
  | p :: l, h => by
    obtain ⟨h1, h2⟩ := h p (by simp)
    obtain ⟨i1, i2⟩ := scal_text l (fun q hq => h q (by simp [hq]))
    obtain ⟨d1, d2⟩ := h2 (encU l)
    have hne : encodeRune (p : Int) ++ encU l ≠ [] := by simp [h1]
    rw [encU_cons]
    refine ⟨?_, ?_⟩
    · rw [validD_step hne, d1, if_neg d2]
      simp only [List.drop_left]; exact i1
    · rw [pts_step hne, d1]
      simp only [List.drop_left]; rw [i2]
theorem encode_bytes (p : Nat) : (Utf8.encode (p : Int)).data.toList = encodeRune (p : Int) := by
  have h := Extern.FmtText.encode_eq p
  unfold encodeRune
  rw [← h]
  unfold Extern.FmtText.nums
  rw [List.map_map]
  conv => lhs; rw [← List.map_id (Utf8.encode (p : Int)).data.toList]
  refine List.map_congr_left (fun b _ => ?_)
  simp
theorem runes_bytes (l : List Nat) : (runesBytes (l.map fun (p : Nat) => (p : Int))).data.toList = encU l := by
  have key : ∀ (l : List Nat) (r : ByteArray), ((l.map fun (p : Nat) => (p : Int)).foldl (fun r n => r ++ Utf8.encode n) r).data.toList = r.data.toList ++ encU l := by
    intro l
    induction l with
    | nil => intro r; simp [encU]
    | cons p l ih => intro r; rw [List.map_cons, List.foldl_cons, ih, str_app, encode_bytes, encU_cons, List.append_assoc]
  exact key l _
def nIs (l : List Nat) : List Int := l.map fun (p : Nat) => (p : Int)
theorem runes_all (b : ByteArray) : runesAV b = rnsV (nIs (pts b.data.toList)) := by
  have key : ∀ (n i : Nat) (acc : Array Value), (Conv.runesFrom b n i acc).toList = acc.toList ++ (ptsGo n (b.data.toList.drop i)).map fun (p : Nat) => Value.int .i32 (p : Int) := by
    intro n
    induction n with
    | zero => intro i acc; simp [Conv.runesFrom, ptsGo]
    | succ n ih =>
      intro i acc
      have hsz : b.data.toList.length = b.size := len_list b
      by_cases hi : i < b.size
      · have hne : b.data.toList.drop i ≠ [] := by intro hh; have := congrArg List.length hh; rw [List.length_drop] at this; simp at this; omega
        simp only [Conv.runesFrom, ptsGo, if_pos hi, if_neg hne]
        rw [ih, decodeL_drop, List.drop_drop]
        simp
      · have he : b.data.toList.drop i = [] := List.drop_of_length_le (by omega)
        simp only [Conv.runesFrom, ptsGo, if_neg hi, he, if_pos]
        simp
  unfold runesAV
  rw [key]
  simp only [List.drop_zero, List.nil_append]
  have e : ptsGo b.size b.data.toList = pts b.data.toList := by unfold pts; rw [len_list]
  rw [e]
  simp [rnsV, nIs]
theorem encU_len {l : List Nat} : l.length ≤ (encU l).length ∨ ∃ p ∈ l, ¬ Scal p := by
  induction l with
  | nil => exact .inl (Nat.le_refl _)
  | cons p l ih =>
    by_cases h : Scal p
    · have := List.length_pos_iff.2 h.1
      rcases ih with ih | ⟨q, a, b⟩
      · refine .inl ?_
        rw [encU_cons, List.length_append, List.length_cons]; omega
      · exact .inr ⟨q, by simp [a], b⟩
    · exact .inr ⟨p, by simp, h⟩
end Go.Proofs.YtadlnaljicikfaaDoor.Abs
namespace Go.Proofs.YtadlnaljicikfaaDoor.Abs
open Go
set_option maxRecDepth 100000
attribute [local irreducible] Ev.Unr Ev.Go' Ev.bytK Ev.runK Ev.FinL Ev.brC Ev.Side Ev.Wp Ev.Again Ev.To Ev.Fin
open Go.Lib Go.RowKit
theorem comp56 : ∀ c, Tryd.f56.body = some c → comp c = (.seq (.reg 0 [I.n 0 4 (.assign (.const (Value.string { data := #[] }))), I.n 1 5 (I.si 0)]) (.seq (.seq (.reg 1 [I.n 0 12 (I.mv 0), I.n 1 13 (I.c1 72 12 23), I.n 2 6 (I.sa 13)]) (.seq (.reg 2 [I.n 0 14 (I.mv 6), I.n 1 15 (I.bc .neq 30 14 0 30)]) (.cond (.tmp 15) (.seq (.reg 3 [I.n 0 16 (I.mv 6), I.n 1 4 (.assign (.const (Value.string { data := #[] }))), I.n 2 5 (I.sa 16)]) .ret) .skip))) (.seq (.seq (.reg 4 [I.n 0 17 (I.mv 1), I.n 1 18 (I.c1 32 17 9), I.n 2 7 (I.sa 18)]) (.block 0 (.seq (.reg 5 [I.n 0 20 (I.mv 7), I.n 1 21 (I.bc .lss 3 20 0 3), I.n 2 19 (I.sa 21)]) (.cond (.tmp 19) (.seq (.reg 6 [I.n 0 4 (.assign (.const (Value.string { data := #[] }))), I.n 1 5 (I.si 3)]) .ret) (.seq (.reg 7 [I.n 0 23 (I.mv 7), I.n 1 24 (I.mv 0), I.n 2 25 (I.c1 74 24 23), I.n 3 26 (I.bo .neq 3 23 25 3), I.n 4 22 (I.sa 26)]) (.cond (.tmp 22) (.seq (.reg 8 [I.n 0 4 (.assign (.const (Value.string { data := #[] }))), I.n 1 5 (I.si 5)]) .ret) .skip)))))) (.seq (.reg 9 [I.n 0 27 (I.mv 1), I.n 1 28 (I.cv 9 115 27), I.n 2 8 (I.sa 28)]) (.seq (.reg 10 [I.n 0 9 I.sn]) (.seq (.seq (.reg 11 [I.n 0 29 (I.mv 0), I.n 1 30 (I.ln 29 23), I.n 2 31 (.move (.const (Value.int .i64 0)))]) (.block 1 (.loop (.seq (.reg 12 [I.n 0 32 (I.bo .lss 3 31 30 3)]) (.seq (.cond (.tmp 32) .skip (.exit 1)) (.seq (.block 2 (.seq (.reg 13 [I.n 0 33 (I.ia 23 29 31), I.n 1 34 (I.ld 35 33), I.n 2 11 (.alloc 35), I.u 3 (I.st 35 11 34)]) (.seq (.seq (.reg 14 [I.n 0 35 (I.fa 35 11 0), I.n 1 36 (I.ld 3 35)]) (.block 3 (.seq (.reg 15 [I.n 0 38 (I.bc .eql 3 36 2 3), I.n 1 37 (I.sa 38)]) (.cond (.tmp 37) (.reg 16 [I.n 0 39 (I.mv 9), I.n 1 40 (I.fa 35 11 2), I.n 2 41 (I.ld 9 40), I.n 3 42 (I.cv 9 115 41), I.n 4 43 (I.ap 39 42 115 115), I.n 5 9 (I.sa 43)]) (.seq (.reg 17 [I.n 0 45 (I.bc .eql 3 36 1 3), I.n 1 44 (I.sa 45)]) (.cond (.tmp 44) (.reg 18 [I.n 0 46 (I.mv 9), I.n 1 47 (I.mv 8), I.n 2 48 (I.fa 35 11 1), I.n 3 49 (I.ld 3 48), I.n 4 50 (.slice 115 (.tmp 47) none (some (.tmp 49)) none), I.n 5 51 (I.ap 46 50 115 115), I.n 6 9 (I.sa 51)]) .skip)))))) (.reg 19 [I.n 0 52 (I.mv 8), I.n 1 53 (I.fa 35 11 1), I.n 2 54 (I.ld 3 53), I.n 3 55 (.slice 115 (.tmp 52) (some (.tmp 54)) none none), I.n 4 8 (I.sa 55)])))) (.reg 20 [I.n 0 56 (I.bc .add 3 31 1 3), I.n 1 31 (I.mv 56)]))))))) (.seq (.reg 21 [I.n 0 57 (I.mv 9), I.n 1 58 (I.cv 115 9 57), I.n 2 4 (I.sa 58), I.n 3 5 (I.si 0)]) .ret))))))) := by
  intro c h
  have : c = Tryd.f56.body.get rfl := by rw [← Option.some_inj, ← h]; rfl
  rw [this]; rfl
theorem comp57 : ∀ c, Tryd.f57.body = some c → comp c = (.seq (.reg 0 [I.n 0 4 (.assign (.const (Value.string { data := #[] }))), I.n 1 5 (I.si 0)]) (.seq (.seq (.reg 1 [I.n 0 10 (I.mv 1), I.n 1 11 (I.ln 10 22), I.n 2 12 (I.bc .eql 3 11 0 3), I.n 3 13 (I.mv 12), I.w 4 14 (I.mv 0) 13 true, I.w 5 15 (I.c1 78 14 9) 13 true, I.w 6 16 (.unOp .not 4 (.tmp 15)) 13 true, I.n 7 17 (I.pc 13 16 false)]) (.cond (.tmp 17) (.seq (.reg 2 [I.n 0 4 (.assign (.const (Value.string { data := #[] }))), I.n 1 5 (I.si 3)]) .ret) .skip)) (.seq (.seq (.reg 3 [I.n 0 18 (I.mv 1), I.n 1 19 (I.ln 18 22), I.n 2 20 (.move (.const (Value.int .i64 0)))]) (.block 0 (.loop (.seq (.reg 4 [I.n 0 21 (I.bo .lss 3 20 19 3)]) (.seq (.cond (.tmp 21) .skip (.exit 0)) (.seq (.block 1 (.seq (.reg 5 [I.n 0 22 (I.ia 22 18 20), I.n 1 23 (I.ld 23 22), I.n 2 7 (I.sa 23)]) (.seq (.reg 6 [I.n 0 25 (I.mv 7), I.n 1 26 (I.mv 0), I.n 2 27 (I.c2 56 25 26 23 9), I.n 3 24 (I.mv 27), I.n 4 28 (I.ex 24 0), I.n 5 29 (I.ex 24 1), I.n 6 8 (I.sa 28), I.n 7 9 (I.sa 29)]) (.seq (.seq (.reg 7 [I.n 0 30 (I.mv 9), I.n 1 31 (I.bc .neq 30 30 0 30)]) (.cond (.tmp 31) (.seq (.reg 8 [I.n 0 32 (I.mv 9), I.n 1 4 (.assign (.const (Value.string { data := #[] }))), I.n 2 5 (I.sa 32)]) .ret) .skip)) (.reg 9 [I.n 0 33 (I.mv 8), I.n 1 0 (I.sa 33)]))))) (.reg 10 [I.n 0 34 (I.bc .add 3 20 1 3), I.n 1 20 (I.mv 34)]))))))) (.seq (.reg 11 [I.n 0 35 (I.mv 0), I.n 1 4 (I.sa 35), I.n 2 5 (I.si 0)]) .ret)))) := by
  intro c h
  have : c = Tryd.f57.body.get rfl := by rw [← Option.some_inj, ← h]; rfl
  rw [this]; rfl
def appP : List Sp → List Nat → List Nat
  | [], _ => []
  | s :: l, r => (if s.k = 2 then pts s.t.data.toList else if s.k = 1 then r.take s.n.toNat else []) ++ appP l (r.drop s.n.toNat)
def toE (l : List Sp) (t : ByteArray) : Int := if opMayF l ≠ 0 then opMayF l else if countD t.data.toList < 0 then 3 else if countD t.data.toList ≠ inW l then 5 else 0
def txt (ns : List Nat) : ByteArray := ⟨(encU ns).toArray⟩
def toT (l : List Sp) (t : ByteArray) : ByteArray := if toE l t = 0 then txt (appP l (pts t.data.toList)) else ⟨#[]⟩
def toA (l : List Sp) (t : ByteArray) : AV := .tup [.v (.string (toT l t)), .v (.int .i64 (toE l t))]
theorem toA_bad {l : List Sp} {t : ByteArray} {e : Int} (h : toE l t = e) (he : e ≠ 0) : toA l t = .tup [.v (.string ⟨#[]⟩), .v (.int .i64 e)] := by
  unfold toA toT; rw [h, if_neg he]
theorem toA_ok {l : List Sp} {t : ByteArray} (h : toE l t = 0) : toA l t = .tup [.v (.string (txt (appP l (pts t.data.toList)))), .v (.int .i64 0)] := by
  unfold toA toT; rw [h, if_pos rfl]
theorem txt_list (ns : List Nat) : (txt ns).data.toList = encU ns := by simp [txt]
theorem ba_ext {a b : ByteArray} (h : a.data.toList = b.data.toList) : a = b := by
  cases a; cases b; simp at h ⊢
  exact h
theorem txt_runes (ns : List Nat) : runesBytes (nIs ns) = txt ns := ba_ext (by rw [txt_list]; exact runes_bytes ns)
theorem txt_app (a b : List Nat) : txt a ++ txt b = txt (a ++ b) := ba_ext (by rw [str_app, txt_list, txt_list, txt_list, encU_app])
theorem txt_pts {t : ByteArray} (h : validD t.data.toList = true) : txt (pts t.data.toList) = t := ba_ext (by rw [txt_list, (pts_scal _ h).1])
theorem toE_zero {l : List Sp} {t : ByteArray} (h : toE l t = 0) : opMayF l = 0 ∧ validD t.data.toList = true ∧ inW l = (pts t.data.toList).length := by
  unfold toE at h
  by_cases h1 : opMayF l = 0
  · rw [if_neg (by simp [h1])] at h
    by_cases h2 : countD t.data.toList < 0
    · rw [if_pos h2] at h; cases h
    · rw [if_neg h2] at h
      by_cases h3 : countD t.data.toList = inW l
      · cases hv : validD t.data.toList with
        | false => rw [countD_bad hv] at h2; omega
        | true => exact ⟨h1, rfl, by rw [← h3, countD_pts hv]⟩
      · rw [if_pos h3] at h; cases h
  · rw [if_pos h1] at h; exact absurd h h1
theorem toE_of {l : List Sp} {t : ByteArray} (h1 : opMayF l = 0) (h2 : validD t.data.toList = true) (h3 : inW l = (pts t.data.toList).length) : toE l t = 0 := by
  unfold toE; rw [if_neg (by simp [h1]), countD_pts h2, if_neg (by omega), if_neg (by simp [h3])]
def pce (s : Sp) (r : List Nat) : List Nat := if s.k = 2 then pts s.t.data.toList else if s.k = 1 then r.take s.n.toNat else []
theorem appP_cons (s : Sp) (l : List Sp) (r : List Nat) : appP (s :: l) r = pce s r ++ appP l (r.drop s.n.toNat) := rfl
theorem appP_at {l : List Sp} {i : Nat} (hi : i < l.length) (r : List Nat) : appP (l.drop i) r = pce l[i] r ++ appP (l.drop (i + 1)) (r.drop l[i].n.toNat) := by
  rw [List.drop_eq_getElem_cons hi, appP_cons]
theorem sum_at {l : List Sp} {i : Nat} (hi : i < l.length) : sumI inS (l.drop i) = inS l[i] + sumI inS (l.drop (i + 1)) := by
  rw [List.drop_eq_getElem_cons hi, sumI_cons]
theorem sum_pos {l : List Sp} (h : ∀ s ∈ l, SpOK s) : 0 ≤ sumI inS l := (sumI_bound inS 1048576 l (fun x hx => (h x hx).inS)).1
theorem span_at {s : Sp} (h : SpOK s) : (s.k = 2 ∧ s.n = 0 ∧ inS s = 0 ∧ validD s.t.data.toList = true) ∨ ((s.k = 1 ∨ s.k = 3) ∧ 0 ≤ s.n ∧ inS s = s.n ∧ s.t = ⟨#[]⟩) := by
  rcases h.cases with ⟨a, b, c, d⟩ | ⟨a, b, c⟩
  · exact .inr ⟨a, b, by unfold Abs.inS inF; rw [if_pos a], d⟩
  · exact .inl ⟨a, b, by unfold Abs.inS inF; rw [if_neg (by omega)], c⟩
theorem appP_len : ∀ (l : List Sp) (r : List Nat), (∀ s ∈ l, SpOK s) → sumI inS l = r.length → ((appP l r).length : Int) = sumI outS l
  | [], r, _, _ => by simp [appP, sumI]
  | s :: l, r, h, hr => by
    have hs := h s (by simp)
    have hp := sum_pos (fun x hx => h x (by simp [hx]) : ∀ x ∈ l, SpOK x)
    rw [sumI_cons] at hr
    have hn : s.n.toNat ≤ r.length ∧ inS s = (s.n.toNat : Int) := by rcases span_at hs with ⟨a, b, c, d⟩ | ⟨a, b, c, d⟩ <;> omega
    have ih := appP_len l (r.drop s.n.toNat) (fun x hx => h x (by simp [hx])) (by rw [List.length_drop]; omega)
    rw [appP_cons, List.length_append, sumI_cons, Int.natCast_add, ih]
    congr 1
    unfold pce outS outF
    rcases span_at hs with ⟨a, b, c, d⟩ | ⟨a | a, b, c, d⟩
    · rw [if_pos a, if_neg (by omega), if_pos a, countD_pts d]; omega
    · rw [if_neg (by omega), if_pos a, if_pos a, List.length_take]; omega
    · rw [if_neg (by omega), if_neg (by omega), if_neg (by omega), if_neg (by omega)]; rfl
theorem appP_scal : ∀ (l : List Sp) (r : List Nat), (∀ s ∈ l, SpOK s) → (∀ p ∈ r, Scal p) → ∀ p ∈ appP l r, Scal p
  | [], r, _, _, p, hp => by simp [appP] at hp
  | s :: l, r, h, hr, p, hp => by
    rw [appP_cons, List.mem_append] at hp
    rcases hp with hp | hp
    · unfold pce at hp
      rcases span_at (h s (by simp)) with ⟨a, b, c, d⟩ | ⟨a | a, b, c, d⟩
      · rw [if_pos a] at hp; exact (pts_scal _ d).2 p hp
      · rw [if_neg (by omega), if_pos a] at hp; exact hr p (List.mem_of_mem_take hp)
      · rw [if_neg (by omega), if_neg (by omega)] at hp; cases hp
    · exact appP_scal l _ (fun x hx => h x (by simp [hx])) (fun q hq => hr q (List.mem_of_mem_drop hq)) p hp
theorem appP_size : ∀ (l : List Sp) (r : List Nat), (∀ s ∈ l, SpOK s) → (encU (appP l r)).length ≤ (encU r).length + tbs l
  | [], r, _ => by simp [appP, encU]
  | s :: l, r, h => by
    have ih := appP_size l (r.drop s.n.toNat) (fun x hx => h x (by simp [hx]))
    have hr : (encU r).length = (encU (r.take s.n.toNat)).length + (encU (r.drop s.n.toNat)).length := by
      rw [← List.length_append, ← encU_app, List.take_append_drop]
    rw [appP_cons, encU_app, List.length_append, tbs_cons]
    have : (encU (pce s r)).length ≤ (encU (r.take s.n.toNat)).length + s.t.size := by
      unfold pce
      rcases span_at (h s (by simp)) with ⟨a, b, c, d⟩ | ⟨a | a, b, c, d⟩
      · rw [if_pos a, (pts_scal _ d).1, len_list]; omega
      · rw [if_neg (by omega), if_pos a]; omega
      · rw [if_neg (by omega), if_neg (by omega)]; simp [encU]
    omega
theorem toT_facts {l : List Sp} {t : ByteArray} (h : toE l t = 0) (hl : l.length ≤ 1000000000) (hb : t.size + tbs l ≤ 1000000000) : validD (toT l t).data.toList = true ∧ pts (toT l t).data.toList = appP l (pts t.data.toList) ∧ ((pts (toT l t).data.toList).length : Int) = outW l ∧ (toT l t).size ≤ t.size + tbs l := by
  obtain ⟨h1, h2, h3⟩ := toE_zero h
  obtain ⟨h4, h5⟩ := (opMay_iff l).1 h1
  have hs := inW_sum h4 hl
  have hT : toT l t = txt (appP l (pts t.data.toList)) := if_pos h
  obtain ⟨p1, p2⟩ := pts_scal _ h2
  obtain ⟨q1, q2⟩ := scal_text _ (appP_scal l _ h4 p2)
  have hlen := appP_len l (pts t.data.toList) h4 (by omega)
  have hsz := appP_size l (pts t.data.toList) h4
  rw [p1, len_list] at hsz
  rw [hT, txt_list]
  refine ⟨q1, q2, ?_, ?_⟩
  · rw [q2, outW_eq, ← hlen, wrap_id]
    rcases encU_len (l := appP l (pts t.data.toList)) with hu | ⟨p, hp, hn⟩
    · omega
    · exact absurd (appP_scal l _ h4 p2 p hp) hn
  · rw [← len_list, txt_list]; exact hsz
theorem rnsV_len (l : List Int) : (rnsV l).length = l.length := by simp [rnsV]
theorem nIs_len (l : List Nat) : (nIs l).length = l.length := by simp [nIs]
theorem rnsV_all (l : List Int) : ∀ y ∈ rnsV l, y.length = 1 := by
  intro y hy
  obtain ⟨s, _, rfl⟩ := List.mem_map.1 hy
  rfl
set_option maxHeartbeats 8000000 in
theorem to_call (l : List Sp) (t : ByteArray) (hl : l.length ≤ 100000000) (hb : tbs l + t.size ≤ 1000000000) : CallW env 56 [.lst 3 (sps l), .v (.string t)] (fun r hs => r = toA l t ∧ hs = []) := by
  have hsl := sps_len l
  have hra := runes_all t
  have hc := pcount_call t (by omega)
  have hsm : Small l := tbs_small (by omega)
  have hpl := pts_len t.data.toList
  rw [len_list] at hpl
  refine Ev.fn [0, 1, 4, 5, 6, 7, 8, 9, 11, 15, 19, 22, 29, 30, 31, 32, 36, 37, 44] 0 [.tmp 4, .tmp 5] Tryd.func56 (comp56 _ rfl) ?_
  repeat' (first | ((refine Ev.sw ?_); conv => whnf) | refine Ev.sn ?_ | ((with_reducible refine Ev.chk_k ?_ ?_); rotate_left; exact Ev.bt; conv => whnf) | ((with_reducible (refine Ev.RI.run ?_; constructor)) <;> intro _) | ((refine Ev.sg ?_); conv => whnf) | ((with_reducible refine Ev.sided ?_ ?_); conv => whnf) | ((with_reducible refine Ev.kr (hs := []) (fun Q hQ => ?_)); (simp only [Ev.runE_cons, Ev.runE_nil]); conv => whnf) | (with_reducible refine hQ _ ?_; clear hQ Q) | ((refine Ev.sf ?_); intro F hF; conv => whnf) | (with_reducible refine hF _ ?_; clear hF F) | ((with_reducible refine Ev.go_k (fun c' => ?_)); conv => whnf) | ((with_reducible refine Ev.ca0 ?_); (first | refine Ev.call_det (opMay_call l (by omega) hsm) rfl rfl ?_ | refine Ev.call_det (opIn_call l (by omega)) rfl rfl ?_ | refine Ev.ca (opMay_call l (by omega) hsm) ?_ | refine Ev.ca (hc) ?_ | refine Ev.ca (opIn_call l (by omega)) ?_); conv => whnf) | ((first | refine Ev.el_map0 ?_ (fun hi => ?_) | refine Ev.el_mapN ?_ (fun hi => ?_)); rotate_left; conv => whnf) | ((with_reducible refine Ev.sd0 ?_); exact Ev.sd) | fail)
  · have : toE l t = 3 := by unfold toE; rw [if_neg (by simp; assumption), if_pos (by assumption)]
    exact ⟨(toA_bad this (by decide)).symm, rfl⟩
  · have h1 : opMayF l = 0 := by assumption
    have h2 : ¬ countD t.data.toList < 0 := by assumption
    have h3 : countD t.data.toList = inW l := by assumption
    have hz : toE l t = 0 := by unfold toE; rw [if_neg (by simp [h1]), if_neg h2, if_neg (by simp [h3])]
    obtain ⟨_, hv, hin⟩ := toE_zero hz
    obtain ⟨h4, h5⟩ := (opMay_iff l).1 h1
    have hsum := inW_sum h4 (by omega)
    rw [toA_ok hz]
    generalize pts t.data.toList = r0 at *
    refine Ev.loop (fun k s => ∃ (i c : Nat) (O R : List Nat) (st : AV) (hx : List (Nat × Blk)), s = ⟨[(8, .lst 1 (rnsV (nIs R))), (9, st), (29, .lst 3 (sps l)), (30, .v (.int .i64 (sps l).length)), (31, .v (.int .i64 i))], hx, c⟩ ∧
      ((O = [] ∧ st = nilA ∧ hx = []) ∨ (∃ v, st = .own 8224 v 0 O.length ∧ hx = [(8224, ⟨1, 21, v, 0, false, rnsV (nIs O)⟩)]) ∨ (∃ v, st = .own 9256 v 0 O.length ∧ hx = [(9256, ⟨1, 21, v, 0, false, rnsV (nIs O)⟩)])) ∧
      k + i = l.length ∧ appP l r0 = O ++ appP (l.drop i) R ∧ (R.length : Int) = sumI inS (l.drop i) ∧ O.length + R.length ≤ tbs (l.take i) + r0.length) ?_ ?_
    · (refine Ev.to _ ?hs1 ?hh1 ?hc1 ⟨l.length, 0, ?_, [], r0, nilA, [], rfl, ?hp1⟩; (case hs1 | hh1 => ((repeat' (first | exact trivial | refine And.intro ?_ ?_)) <;> (first | exact Ev.se | (refine Ev.slot_eq rfl ?_; first | (first | (rw [hra]; done) | rfl) | ((first | refine Ev.int_eq ?_ | refine Ev.own_eq ?_ | refine Ev.blk_eq ?_); (first | (rw [hra]; done) | rfl))) | exact Ev.sr))); (case hc1 => exact Nat.le_refl _))
      exact ⟨.inl ⟨rfl, rfl, rfl⟩, by omega, rfl, by rw [List.drop_zero]; omega, by simp⟩
    rintro k s1 ⟨i, c, O, R, st, hx, rfl, hst, hk, hap, hR, hsz⟩
    have hrl := rnsV_len (nIs R)
    rw [nIs_len] at hrl
    have hol := rnsV_len (nIs O)
    rw [nIs_len] at hol
    by_cases hil : i < l.length
    · have hs := h4 _ (List.getElem_mem hil)
      have hsa := sum_at hil
      have hsp := sum_pos (fun x hx => h4 x (List.mem_of_mem_drop hx) : ∀ x ∈ l.drop (i + 1), SpOK x)
      have hpa := appP_at hil R
      have htk := tbs_take l hil
      have htl := tbs_le l (i + 1)
      have hxa := runes_all l[i].t
      have hpx := pts_len l[i].t.data.toList
      rw [len_list] at hpx
      have hdr : List.take ((rnsV (nIs R)).length - (l[i].n).toNat) (List.drop (l[i].n).toNat (rnsV (nIs R))) = rnsV (nIs (R.drop l[i].n.toNat)) := by
        rw [rnsV_cut, List.take_of_length_le (by rw [List.length_drop, nIs_len, hrl]; exact Nat.le_refl _)]; simp [nIs, List.map_drop]
      have htk2 : List.take ((l[i].n).toNat - 0) (List.drop 0 (rnsV (nIs R))) = rnsV (nIs (R.take l[i].n.toNat)) := by
        rw [rnsV_cut, List.drop_zero, Nat.sub_zero]; simp [nIs, List.map_take]
      rcases hst with ⟨rfl, rfl, rfl⟩ | ⟨v, rfl, rfl⟩ | ⟨v, rfl, rfl⟩
      · rcases span_at hs with ⟨a, b, c', d⟩ | ⟨a | a, b, c', d⟩
        · have hi2 : (i : Int) < ((sps l).length : Int) := by omega
          have hn : l[i].n.toNat ≤ R.length := by omega
          have hP : pce l[i] R = pts l[i].t.data.toList := by unfold pce; rw [if_pos a]
          have hstep : appP l r0 = ([] ++ pts l[i].t.data.toList) ++ appP (l.drop (i + 1)) (R.drop l[i].n.toNat) := by rw [hap, hpa, hP, List.append_assoc]
          have hrow : runesAV l[i].t = rnsV (nIs ([] ++ pts l[i].t.data.toList)) := by rw [hxa]; simp [rnsV, nIs]
          have hlr : (runesAV l[i].t).length = ([] ++ pts l[i].t.data.toList).length := by rw [hxa, rnsV_len, nIs_len]; simp
          have hpl2 : (pts l[i].t.data.toList).length ≤ l[i].t.size := by exact hpx
          repeat' (first | ((with_reducible refine Ev.br0 ?_); (first | refine Ev.brp ?_ | refine Ev.brn ?_); conv => whnf) | ((with_reducible refine Ev.c0 ?_); first | refine Ev.cp ?_ | refine Ev.cn ?_) | (with_reducible refine Ev.c_pos hi2 ?_) | (with_reducible refine Ev.c_pos a ?_) | ((refine Ev.sw ?_); conv => whnf) | refine Ev.sn ?_ | ((with_reducible refine Ev.chk_k ?_ ?_); rotate_left; exact Ev.bt; conv => whnf) | ((with_reducible (refine Ev.RI.run ?_; constructor)) <;> intro _) | ((refine Ev.sg ?_); conv => whnf) | ((with_reducible refine Ev.sided ?_ ?_); conv => whnf) | ((with_reducible refine Ev.kr (hs := []) (fun Q hQ => ?_)); (simp only [Ev.runE_cons, Ev.runE_nil]); conv => whnf) | (with_reducible refine hQ _ ?_; clear hQ Q) | ((refine Ev.sf ?_); intro F hF; conv => whnf) | (with_reducible refine hF _ ?_; clear hF F) | ((with_reducible refine Ev.go_k (fun c' => ?_)); conv => whnf) | ((first | refine Ev.el_map0 ?_ (fun hi => ?_) | refine Ev.el_mapN ?_ (fun hi => ?_)); rotate_left; conv => whnf) | ((with_reducible refine Ev.sd0 ?_); exact Ev.sd) | fail)
          · (refine Ev.again (k - 1) _ ?hm2 ?hs2 ?hh2 ?hc2 ⟨i + 1, c + 8 + 8, ([] ++ pts l[i].t.data.toList), R.drop l[i].n.toNat, .own 8224 (c + 8) 0 ([] ++ pts l[i].t.data.toList).length, [(8224, ⟨1, 21, c + 8, 0, false, rnsV (nIs ([] ++ pts l[i].t.data.toList))⟩)], rfl, ?hp2⟩; (case hs2 | hh2 => ((repeat' (first | exact trivial | refine And.intro ?_ ?_)) <;> (first | exact Ev.se | (refine Ev.slot_eq rfl ?_; first | (first | exact wrap_succ (by omega) | exact congrArg (AV.lst 1) hdr | exact hlr | (exact congrArg (fun n => Blk.mk 1 21 _ 0 false n) hrow) | rfl) | ((first | refine Ev.int_eq ?_ | refine Ev.own_eq ?_ | refine Ev.blk_eq ?_); (first | exact wrap_succ (by omega) | exact congrArg (AV.lst 1) hdr | exact hlr | (exact congrArg (fun n => Blk.mk 1 21 _ 0 false n) hrow) | rfl))) | exact Ev.sr))); (case hc2 => exact Nat.le_refl _); (case hm2 => omega))
            refine ⟨.inr (.inl ⟨_, rfl, rfl⟩), by omega, hstep, by rw [List.length_drop]; omega, ?_⟩
            simp only [List.length_append, List.length_nil, List.length_drop, List.length_take] at hsz ⊢; omega
          · rw [hxa]; exact Ev.app_nil (rnsV_all _) (by rw [rnsV_len, nIs_len]; omega) (by decide)
        · have hi2 : (i : Int) < ((sps l).length : Int) := by omega
          have a2 : ¬ l[i].k = 2 := by omega
          have hn : l[i].n.toNat ≤ R.length := by omega
          have hP : pce l[i] R = R.take l[i].n.toNat := by unfold pce; rw [if_neg a2, if_pos a]
          have hstep : appP l r0 = ([] ++ R.take l[i].n.toNat) ++ appP (l.drop (i + 1)) (R.drop l[i].n.toNat) := by rw [hap, hpa, hP, List.append_assoc]
          have hrow : List.take (l[i].n.toNat - 0) (List.drop 0 (rnsV (nIs R))) = rnsV (nIs ([] ++ R.take l[i].n.toNat)) := by rw [htk2]; simp [rnsV, nIs]
          have hlr : (List.take (l[i].n.toNat - 0) (List.drop 0 (rnsV (nIs R)))).length = ([] ++ R.take l[i].n.toNat).length := by rw [htk2, rnsV_len, nIs_len]; simp
          have hpl2 : (R.take l[i].n.toNat).length ≤ R.length := by rw [List.length_take]; omega
          repeat' (first | ((with_reducible refine Ev.br0 ?_); (first | refine Ev.brp ?_ | refine Ev.brn ?_); conv => whnf) | ((with_reducible refine Ev.c0 ?_); first | refine Ev.cp ?_ | refine Ev.cn ?_) | (with_reducible refine Ev.c_pos hi2 ?_) | (with_reducible refine Ev.c_neg a2 ?_) | (with_reducible refine Ev.c_pos a ?_) | ((refine Ev.sw ?_); conv => whnf) | refine Ev.sn ?_ | ((with_reducible refine Ev.chk_k ?_ ?_); rotate_left; exact Ev.bt; conv => whnf) | ((with_reducible (refine Ev.RI.run ?_; constructor)) <;> intro _) | ((refine Ev.sg ?_); conv => whnf) | ((with_reducible refine Ev.sided ?_ ?_); conv => whnf) | ((with_reducible refine Ev.kr (hs := []) (fun Q hQ => ?_)); (simp only [Ev.runE_cons, Ev.runE_nil]); conv => whnf) | (with_reducible refine hQ _ ?_; clear hQ Q) | ((refine Ev.sf ?_); intro F hF; conv => whnf) | (with_reducible refine hF _ ?_; clear hF F) | ((with_reducible refine Ev.go_k (fun c' => ?_)); conv => whnf) | ((first | refine Ev.el_map0 ?_ (fun hi => ?_) | refine Ev.el_mapN ?_ (fun hi => ?_)); rotate_left; conv => whnf) | ((with_reducible refine Ev.sd0 ?_); exact Ev.sd) | fail)
          · (refine Ev.again (k - 1) _ ?hm3 ?hs3 ?hh3 ?hc3 ⟨i + 1, c + 8 + 8, ([] ++ R.take l[i].n.toNat), R.drop l[i].n.toNat, .own 9256 (c + 8) 0 ([] ++ R.take l[i].n.toNat).length, [(9256, ⟨1, 21, c + 8, 0, false, rnsV (nIs ([] ++ R.take l[i].n.toNat))⟩)], rfl, ?hp3⟩; (case hs3 | hh3 => ((repeat' (first | exact trivial | refine And.intro ?_ ?_)) <;> (first | exact Ev.se | (refine Ev.slot_eq rfl ?_; first | (first | exact wrap_succ (by omega) | exact congrArg (AV.lst 1) hdr | exact hlr | (exact congrArg (fun n => Blk.mk 1 21 _ 0 false n) hrow) | rfl) | ((first | refine Ev.int_eq ?_ | refine Ev.own_eq ?_ | refine Ev.blk_eq ?_); (first | exact wrap_succ (by omega) | exact congrArg (AV.lst 1) hdr | exact hlr | (exact congrArg (fun n => Blk.mk 1 21 _ 0 false n) hrow) | rfl))) | exact Ev.sr))); (case hc3 => exact Nat.le_refl _); (case hm3 => omega))
            refine ⟨.inr (.inr ⟨_, rfl, rfl⟩), by omega, hstep, by rw [List.length_drop]; omega, ?_⟩
            simp only [List.length_append, List.length_nil, List.length_drop, List.length_take] at hsz ⊢; omega
          · rw [htk2]; exact Ev.app_nil (rnsV_all _) (by rw [rnsV_len, nIs_len]; omega) (by decide)
        · have hi2 : (i : Int) < ((sps l).length : Int) := by omega
          have a2 : ¬ l[i].k = 2 := by omega
          have a1 : ¬ l[i].k = 1 := by omega
          have hn : l[i].n.toNat ≤ R.length := by omega
          have hP : pce l[i] R = [] := by unfold pce; rw [if_neg a2, if_neg a1]
          have hstep : appP l r0 = [] ++ appP (l.drop (i + 1)) (R.drop l[i].n.toNat) := by rw [hap, hpa, hP]; rfl
          repeat' (first | ((with_reducible refine Ev.br0 ?_); (first | refine Ev.brp ?_ | refine Ev.brn ?_); conv => whnf) | ((with_reducible refine Ev.c0 ?_); first | refine Ev.cp ?_ | refine Ev.cn ?_) | (with_reducible refine Ev.c_pos hi2 ?_) | (with_reducible refine Ev.c_neg a2 ?_) | (with_reducible refine Ev.c_neg a1 ?_) | ((refine Ev.sw ?_); conv => whnf) | refine Ev.sn ?_ | ((with_reducible refine Ev.chk_k ?_ ?_); rotate_left; exact Ev.bt; conv => whnf) | ((with_reducible (refine Ev.RI.run ?_; constructor)) <;> intro _) | ((refine Ev.sg ?_); conv => whnf) | ((with_reducible refine Ev.sided ?_ ?_); conv => whnf) | ((with_reducible refine Ev.kr (hs := []) (fun Q hQ => ?_)); (simp only [Ev.runE_cons, Ev.runE_nil]); conv => whnf) | (with_reducible refine hQ _ ?_; clear hQ Q) | ((refine Ev.sf ?_); intro F hF; conv => whnf) | (with_reducible refine hF _ ?_; clear hF F) | ((with_reducible refine Ev.go_k (fun c' => ?_)); conv => whnf) | ((first | refine Ev.el_map0 ?_ (fun hi => ?_) | refine Ev.el_mapN ?_ (fun hi => ?_)); rotate_left; conv => whnf) | ((with_reducible refine Ev.sd0 ?_); exact Ev.sd) | fail)
          · (refine Ev.again (k - 1) _ ?hm4 ?hs4 ?hh4 ?hc4 ⟨i + 1, c + 8, [], R.drop l[i].n.toNat, nilA, [], rfl, ?hp4⟩; (case hs4 | hh4 => ((repeat' (first | exact trivial | refine And.intro ?_ ?_)) <;> (first | exact Ev.se | (refine Ev.slot_eq rfl ?_; first | (first | exact wrap_succ (by omega) | exact congrArg (AV.lst 1) hdr | rfl) | ((first | refine Ev.int_eq ?_ | refine Ev.own_eq ?_ | refine Ev.blk_eq ?_); (first | exact wrap_succ (by omega) | exact congrArg (AV.lst 1) hdr | rfl))) | exact Ev.sr))); (case hc4 => exact Nat.le_refl _); (case hm4 => omega))
            refine ⟨.inl ⟨rfl, rfl, rfl⟩, by omega, hstep, by rw [List.length_drop]; omega, ?_⟩
            simp only [List.length_append, List.length_nil, List.length_drop, List.length_take] at hsz ⊢; omega
      · rcases span_at hs with ⟨a, b, c', d⟩ | ⟨a | a, b, c', d⟩
        · have hi2 : (i : Int) < ((sps l).length : Int) := by omega
          have hn : l[i].n.toNat ≤ R.length := by omega
          have hP : pce l[i] R = pts l[i].t.data.toList := by unfold pce; rw [if_pos a]
          have hstep : appP l r0 = (O ++ pts l[i].t.data.toList) ++ appP (l.drop (i + 1)) (R.drop l[i].n.toNat) := by rw [hap, hpa, hP, List.append_assoc]
          have hrow : rnsV (nIs O) ++ runesAV l[i].t = rnsV (nIs (O ++ pts l[i].t.data.toList)) := by rw [hxa]; simp [rnsV, nIs]
          have hlr : O.length + (runesAV l[i].t).length = (O ++ pts l[i].t.data.toList).length := by rw [hxa, rnsV_len, nIs_len]; simp
          have hpl2 : (pts l[i].t.data.toList).length ≤ l[i].t.size := by exact hpx
          repeat' (first | ((with_reducible refine Ev.br0 ?_); (first | refine Ev.brp ?_ | refine Ev.brn ?_); conv => whnf) | ((with_reducible refine Ev.c0 ?_); first | refine Ev.cp ?_ | refine Ev.cn ?_) | (with_reducible refine Ev.c_pos hi2 ?_) | (with_reducible refine Ev.c_pos a ?_) | ((refine Ev.sw ?_); conv => whnf) | refine Ev.sn ?_ | ((with_reducible refine Ev.chk_k ?_ ?_); rotate_left; exact Ev.bt; conv => whnf) | ((with_reducible (refine Ev.RI.run ?_; constructor)) <;> intro _) | ((refine Ev.sg ?_); conv => whnf) | ((with_reducible refine Ev.sided ?_ ?_); conv => whnf) | ((with_reducible refine Ev.kr (hs := []) (fun Q hQ => ?_)); (simp only [Ev.runE_cons, Ev.runE_nil]); conv => whnf) | (with_reducible refine hQ _ ?_; clear hQ Q) | ((refine Ev.sf ?_); intro F hF; conv => whnf) | (with_reducible refine hF _ ?_; clear hF F) | ((with_reducible refine Ev.go_k (fun c' => ?_)); conv => whnf) | ((first | refine Ev.el_map0 ?_ (fun hi => ?_) | refine Ev.el_mapN ?_ (fun hi => ?_)); rotate_left; conv => whnf) | ((with_reducible refine Ev.sd0 ?_); exact Ev.sd) | fail)
          · (refine Ev.again (k - 1) _ ?hm5 ?hs5 ?hh5 ?hc5 ⟨i + 1, c + 8 + 8, (O ++ pts l[i].t.data.toList), R.drop l[i].n.toNat, .own 8224 (c + 8) 0 (O ++ pts l[i].t.data.toList).length, [(8224, ⟨1, 21, c + 8, 0, false, rnsV (nIs (O ++ pts l[i].t.data.toList))⟩)], rfl, ?hp5⟩; (case hs5 | hh5 => ((repeat' (first | exact trivial | refine And.intro ?_ ?_)) <;> (first | exact Ev.se | (refine Ev.slot_eq rfl ?_; first | (first | exact wrap_succ (by omega) | exact congrArg (AV.lst 1) hdr | exact hlr | (exact congrArg (fun n => Blk.mk 1 21 _ 0 false n) hrow) | rfl) | ((first | refine Ev.int_eq ?_ | refine Ev.own_eq ?_ | refine Ev.blk_eq ?_); (first | exact wrap_succ (by omega) | exact congrArg (AV.lst 1) hdr | exact hlr | (exact congrArg (fun n => Blk.mk 1 21 _ 0 false n) hrow) | rfl))) | exact Ev.sr))); (case hc5 => exact Nat.le_refl _); (case hm5 => omega))
            refine ⟨.inr (.inl ⟨_, rfl, rfl⟩), by omega, hstep, by rw [List.length_drop]; omega, ?_⟩
            simp only [List.length_append, List.length_nil, List.length_drop, List.length_take] at hsz ⊢; omega
          · rw [hxa]; exact Ev.app_ys (by rw [hol]) (rnsV_all _) (by rw [rnsV_len, nIs_len]; omega) (by decide)
        · have hi2 : (i : Int) < ((sps l).length : Int) := by omega
          have a2 : ¬ l[i].k = 2 := by omega
          have hn : l[i].n.toNat ≤ R.length := by omega
          have hP : pce l[i] R = R.take l[i].n.toNat := by unfold pce; rw [if_neg a2, if_pos a]
          have hstep : appP l r0 = (O ++ R.take l[i].n.toNat) ++ appP (l.drop (i + 1)) (R.drop l[i].n.toNat) := by rw [hap, hpa, hP, List.append_assoc]
          have hrow : rnsV (nIs O) ++ List.take (l[i].n.toNat - 0) (List.drop 0 (rnsV (nIs R))) = rnsV (nIs (O ++ R.take l[i].n.toNat)) := by rw [htk2]; simp [rnsV, nIs]
          have hlr : O.length + (List.take (l[i].n.toNat - 0) (List.drop 0 (rnsV (nIs R)))).length = (O ++ R.take l[i].n.toNat).length := by rw [htk2, rnsV_len, nIs_len]; simp
          have hpl2 : (R.take l[i].n.toNat).length ≤ R.length := by rw [List.length_take]; omega
          repeat' (first | ((with_reducible refine Ev.br0 ?_); (first | refine Ev.brp ?_ | refine Ev.brn ?_); conv => whnf) | ((with_reducible refine Ev.c0 ?_); first | refine Ev.cp ?_ | refine Ev.cn ?_) | (with_reducible refine Ev.c_pos hi2 ?_) | (with_reducible refine Ev.c_neg a2 ?_) | (with_reducible refine Ev.c_pos a ?_) | ((refine Ev.sw ?_); conv => whnf) | refine Ev.sn ?_ | ((with_reducible refine Ev.chk_k ?_ ?_); rotate_left; exact Ev.bt; conv => whnf) | ((with_reducible (refine Ev.RI.run ?_; constructor)) <;> intro _) | ((refine Ev.sg ?_); conv => whnf) | ((with_reducible refine Ev.sided ?_ ?_); conv => whnf) | ((with_reducible refine Ev.kr (hs := []) (fun Q hQ => ?_)); (simp only [Ev.runE_cons, Ev.runE_nil]); conv => whnf) | (with_reducible refine hQ _ ?_; clear hQ Q) | ((refine Ev.sf ?_); intro F hF; conv => whnf) | (with_reducible refine hF _ ?_; clear hF F) | ((with_reducible refine Ev.go_k (fun c' => ?_)); conv => whnf) | ((first | refine Ev.el_map0 ?_ (fun hi => ?_) | refine Ev.el_mapN ?_ (fun hi => ?_)); rotate_left; conv => whnf) | ((with_reducible refine Ev.sd0 ?_); exact Ev.sd) | fail)
          · (refine Ev.again (k - 1) _ ?hm6 ?hs6 ?hh6 ?hc6 ⟨i + 1, c + 8 + 8, (O ++ R.take l[i].n.toNat), R.drop l[i].n.toNat, .own 8224 (c + 8) 0 (O ++ R.take l[i].n.toNat).length, [(8224, ⟨1, 21, c + 8, 0, false, rnsV (nIs (O ++ R.take l[i].n.toNat))⟩)], rfl, ?hp6⟩; (case hs6 | hh6 => ((repeat' (first | exact trivial | refine And.intro ?_ ?_)) <;> (first | exact Ev.se | (refine Ev.slot_eq rfl ?_; first | (first | exact wrap_succ (by omega) | exact congrArg (AV.lst 1) hdr | exact hlr | (exact congrArg (fun n => Blk.mk 1 21 _ 0 false n) hrow) | rfl) | ((first | refine Ev.int_eq ?_ | refine Ev.own_eq ?_ | refine Ev.blk_eq ?_); (first | exact wrap_succ (by omega) | exact congrArg (AV.lst 1) hdr | exact hlr | (exact congrArg (fun n => Blk.mk 1 21 _ 0 false n) hrow) | rfl))) | exact Ev.sr))); (case hc6 => exact Nat.le_refl _); (case hm6 => omega))
            refine ⟨.inr (.inl ⟨_, rfl, rfl⟩), by omega, hstep, by rw [List.length_drop]; omega, ?_⟩
            simp only [List.length_append, List.length_nil, List.length_drop, List.length_take] at hsz ⊢; omega
          · rw [htk2]; exact Ev.app_ys (by rw [hol]) (rnsV_all _) (by rw [rnsV_len, nIs_len]; omega) (by decide)
        · have hi2 : (i : Int) < ((sps l).length : Int) := by omega
          have a2 : ¬ l[i].k = 2 := by omega
          have a1 : ¬ l[i].k = 1 := by omega
          have hn : l[i].n.toNat ≤ R.length := by omega
          have hP : pce l[i] R = [] := by unfold pce; rw [if_neg a2, if_neg a1]
          have hstep : appP l r0 = O ++ appP (l.drop (i + 1)) (R.drop l[i].n.toNat) := by rw [hap, hpa, hP]; rfl
          repeat' (first | ((with_reducible refine Ev.br0 ?_); (first | refine Ev.brp ?_ | refine Ev.brn ?_); conv => whnf) | ((with_reducible refine Ev.c0 ?_); first | refine Ev.cp ?_ | refine Ev.cn ?_) | (with_reducible refine Ev.c_pos hi2 ?_) | (with_reducible refine Ev.c_neg a2 ?_) | (with_reducible refine Ev.c_neg a1 ?_) | ((refine Ev.sw ?_); conv => whnf) | refine Ev.sn ?_ | ((with_reducible refine Ev.chk_k ?_ ?_); rotate_left; exact Ev.bt; conv => whnf) | ((with_reducible (refine Ev.RI.run ?_; constructor)) <;> intro _) | ((refine Ev.sg ?_); conv => whnf) | ((with_reducible refine Ev.sided ?_ ?_); conv => whnf) | ((with_reducible refine Ev.kr (hs := []) (fun Q hQ => ?_)); (simp only [Ev.runE_cons, Ev.runE_nil]); conv => whnf) | (with_reducible refine hQ _ ?_; clear hQ Q) | ((refine Ev.sf ?_); intro F hF; conv => whnf) | (with_reducible refine hF _ ?_; clear hF F) | ((with_reducible refine Ev.go_k (fun c' => ?_)); conv => whnf) | ((first | refine Ev.el_map0 ?_ (fun hi => ?_) | refine Ev.el_mapN ?_ (fun hi => ?_)); rotate_left; conv => whnf) | ((with_reducible refine Ev.sd0 ?_); exact Ev.sd) | fail)
          · (refine Ev.again (k - 1) _ ?hm7 ?hs7 ?hh7 ?hc7 ⟨i + 1, c + 8, O, R.drop l[i].n.toNat, .own 8224 v 0 O.length, [(8224, ⟨1, 21, v, 0, false, rnsV (nIs O)⟩)], rfl, ?hp7⟩; (case hs7 | hh7 => ((repeat' (first | exact trivial | refine And.intro ?_ ?_)) <;> (first | exact Ev.se | (refine Ev.slot_eq rfl ?_; first | (first | exact wrap_succ (by omega) | exact congrArg (AV.lst 1) hdr | rfl) | ((first | refine Ev.int_eq ?_ | refine Ev.own_eq ?_ | refine Ev.blk_eq ?_); (first | exact wrap_succ (by omega) | exact congrArg (AV.lst 1) hdr | rfl))) | exact Ev.sr))); (case hc7 => exact Nat.le_refl _); (case hm7 => omega))
            refine ⟨.inr (.inl ⟨_, rfl, rfl⟩), by omega, hstep, by rw [List.length_drop]; omega, ?_⟩
            simp only [List.length_drop] at hsz ⊢; omega
      · rcases span_at hs with ⟨a, b, c', d⟩ | ⟨a | a, b, c', d⟩
        · have hi2 : (i : Int) < ((sps l).length : Int) := by omega
          have hn : l[i].n.toNat ≤ R.length := by omega
          have hP : pce l[i] R = pts l[i].t.data.toList := by unfold pce; rw [if_pos a]
          have hstep : appP l r0 = (O ++ pts l[i].t.data.toList) ++ appP (l.drop (i + 1)) (R.drop l[i].n.toNat) := by rw [hap, hpa, hP, List.append_assoc]
          have hrow : rnsV (nIs O) ++ runesAV l[i].t = rnsV (nIs (O ++ pts l[i].t.data.toList)) := by rw [hxa]; simp [rnsV, nIs]
          have hlr : O.length + (runesAV l[i].t).length = (O ++ pts l[i].t.data.toList).length := by rw [hxa, rnsV_len, nIs_len]; simp
          have hpl2 : (pts l[i].t.data.toList).length ≤ l[i].t.size := by exact hpx
          repeat' (first | ((with_reducible refine Ev.br0 ?_); (first | refine Ev.brp ?_ | refine Ev.brn ?_); conv => whnf) | ((with_reducible refine Ev.c0 ?_); first | refine Ev.cp ?_ | refine Ev.cn ?_) | (with_reducible refine Ev.c_pos hi2 ?_) | (with_reducible refine Ev.c_pos a ?_) | ((refine Ev.sw ?_); conv => whnf) | refine Ev.sn ?_ | ((with_reducible refine Ev.chk_k ?_ ?_); rotate_left; exact Ev.bt; conv => whnf) | ((with_reducible (refine Ev.RI.run ?_; constructor)) <;> intro _) | ((refine Ev.sg ?_); conv => whnf) | ((with_reducible refine Ev.sided ?_ ?_); conv => whnf) | ((with_reducible refine Ev.kr (hs := []) (fun Q hQ => ?_)); (simp only [Ev.runE_cons, Ev.runE_nil]); conv => whnf) | (with_reducible refine hQ _ ?_; clear hQ Q) | ((refine Ev.sf ?_); intro F hF; conv => whnf) | (with_reducible refine hF _ ?_; clear hF F) | ((with_reducible refine Ev.go_k (fun c' => ?_)); conv => whnf) | ((first | refine Ev.el_map0 ?_ (fun hi => ?_) | refine Ev.el_mapN ?_ (fun hi => ?_)); rotate_left; conv => whnf) | ((with_reducible refine Ev.sd0 ?_); exact Ev.sd) | fail)
          · (refine Ev.again (k - 1) _ ?hm8 ?hs8 ?hh8 ?hc8 ⟨i + 1, c + 8 + 8, (O ++ pts l[i].t.data.toList), R.drop l[i].n.toNat, .own 9256 (c + 8) 0 (O ++ pts l[i].t.data.toList).length, [(9256, ⟨1, 21, c + 8, 0, false, rnsV (nIs (O ++ pts l[i].t.data.toList))⟩)], rfl, ?hp8⟩; (case hs8 | hh8 => ((repeat' (first | exact trivial | refine And.intro ?_ ?_)) <;> (first | exact Ev.se | (refine Ev.slot_eq rfl ?_; first | (first | exact wrap_succ (by omega) | exact congrArg (AV.lst 1) hdr | exact hlr | (exact congrArg (fun n => Blk.mk 1 21 _ 0 false n) hrow) | rfl) | ((first | refine Ev.int_eq ?_ | refine Ev.own_eq ?_ | refine Ev.blk_eq ?_); (first | exact wrap_succ (by omega) | exact congrArg (AV.lst 1) hdr | exact hlr | (exact congrArg (fun n => Blk.mk 1 21 _ 0 false n) hrow) | rfl))) | exact Ev.sr))); (case hc8 => exact Nat.le_refl _); (case hm8 => omega))
            refine ⟨.inr (.inr ⟨_, rfl, rfl⟩), by omega, hstep, by rw [List.length_drop]; omega, ?_⟩
            simp only [List.length_append, List.length_nil, List.length_drop, List.length_take] at hsz ⊢; omega
          · rw [hxa]; exact Ev.app_ys (by rw [hol]) (rnsV_all _) (by rw [rnsV_len, nIs_len]; omega) (by decide)
        · have hi2 : (i : Int) < ((sps l).length : Int) := by omega
          have a2 : ¬ l[i].k = 2 := by omega
          have hn : l[i].n.toNat ≤ R.length := by omega
          have hP : pce l[i] R = R.take l[i].n.toNat := by unfold pce; rw [if_neg a2, if_pos a]
          have hstep : appP l r0 = (O ++ R.take l[i].n.toNat) ++ appP (l.drop (i + 1)) (R.drop l[i].n.toNat) := by rw [hap, hpa, hP, List.append_assoc]
          have hrow : rnsV (nIs O) ++ List.take (l[i].n.toNat - 0) (List.drop 0 (rnsV (nIs R))) = rnsV (nIs (O ++ R.take l[i].n.toNat)) := by rw [htk2]; simp [rnsV, nIs]
          have hlr : O.length + (List.take (l[i].n.toNat - 0) (List.drop 0 (rnsV (nIs R)))).length = (O ++ R.take l[i].n.toNat).length := by rw [htk2, rnsV_len, nIs_len]; simp
          have hpl2 : (R.take l[i].n.toNat).length ≤ R.length := by rw [List.length_take]; omega
          repeat' (first | ((with_reducible refine Ev.br0 ?_); (first | refine Ev.brp ?_ | refine Ev.brn ?_); conv => whnf) | ((with_reducible refine Ev.c0 ?_); first | refine Ev.cp ?_ | refine Ev.cn ?_) | (with_reducible refine Ev.c_pos hi2 ?_) | (with_reducible refine Ev.c_neg a2 ?_) | (with_reducible refine Ev.c_pos a ?_) | ((refine Ev.sw ?_); conv => whnf) | refine Ev.sn ?_ | ((with_reducible refine Ev.chk_k ?_ ?_); rotate_left; exact Ev.bt; conv => whnf) | ((with_reducible (refine Ev.RI.run ?_; constructor)) <;> intro _) | ((refine Ev.sg ?_); conv => whnf) | ((with_reducible refine Ev.sided ?_ ?_); conv => whnf) | ((with_reducible refine Ev.kr (hs := []) (fun Q hQ => ?_)); (simp only [Ev.runE_cons, Ev.runE_nil]); conv => whnf) | (with_reducible refine hQ _ ?_; clear hQ Q) | ((refine Ev.sf ?_); intro F hF; conv => whnf) | (with_reducible refine hF _ ?_; clear hF F) | ((with_reducible refine Ev.go_k (fun c' => ?_)); conv => whnf) | ((first | refine Ev.el_map0 ?_ (fun hi => ?_) | refine Ev.el_mapN ?_ (fun hi => ?_)); rotate_left; conv => whnf) | ((with_reducible refine Ev.sd0 ?_); exact Ev.sd) | fail)
          · (refine Ev.again (k - 1) _ ?hm9 ?hs9 ?hh9 ?hc9 ⟨i + 1, c + 8 + 8, (O ++ R.take l[i].n.toNat), R.drop l[i].n.toNat, .own 9256 (c + 8) 0 (O ++ R.take l[i].n.toNat).length, [(9256, ⟨1, 21, c + 8, 0, false, rnsV (nIs (O ++ R.take l[i].n.toNat))⟩)], rfl, ?hp9⟩; (case hs9 | hh9 => ((repeat' (first | exact trivial | refine And.intro ?_ ?_)) <;> (first | exact Ev.se | (refine Ev.slot_eq rfl ?_; first | (first | exact wrap_succ (by omega) | exact congrArg (AV.lst 1) hdr | exact hlr | (exact congrArg (fun n => Blk.mk 1 21 _ 0 false n) hrow) | rfl) | ((first | refine Ev.int_eq ?_ | refine Ev.own_eq ?_ | refine Ev.blk_eq ?_); (first | exact wrap_succ (by omega) | exact congrArg (AV.lst 1) hdr | exact hlr | (exact congrArg (fun n => Blk.mk 1 21 _ 0 false n) hrow) | rfl))) | exact Ev.sr))); (case hc9 => exact Nat.le_refl _); (case hm9 => omega))
            refine ⟨.inr (.inr ⟨_, rfl, rfl⟩), by omega, hstep, by rw [List.length_drop]; omega, ?_⟩
            simp only [List.length_append, List.length_nil, List.length_drop, List.length_take] at hsz ⊢; omega
          · rw [htk2]; exact Ev.app_ys (by rw [hol]) (rnsV_all _) (by rw [rnsV_len, nIs_len]; omega) (by decide)
        · have hi2 : (i : Int) < ((sps l).length : Int) := by omega
          have a2 : ¬ l[i].k = 2 := by omega
          have a1 : ¬ l[i].k = 1 := by omega
          have hn : l[i].n.toNat ≤ R.length := by omega
          have hP : pce l[i] R = [] := by unfold pce; rw [if_neg a2, if_neg a1]
          have hstep : appP l r0 = O ++ appP (l.drop (i + 1)) (R.drop l[i].n.toNat) := by rw [hap, hpa, hP]; rfl
          repeat' (first | ((with_reducible refine Ev.br0 ?_); (first | refine Ev.brp ?_ | refine Ev.brn ?_); conv => whnf) | ((with_reducible refine Ev.c0 ?_); first | refine Ev.cp ?_ | refine Ev.cn ?_) | (with_reducible refine Ev.c_pos hi2 ?_) | (with_reducible refine Ev.c_neg a2 ?_) | (with_reducible refine Ev.c_neg a1 ?_) | ((refine Ev.sw ?_); conv => whnf) | refine Ev.sn ?_ | ((with_reducible refine Ev.chk_k ?_ ?_); rotate_left; exact Ev.bt; conv => whnf) | ((with_reducible (refine Ev.RI.run ?_; constructor)) <;> intro _) | ((refine Ev.sg ?_); conv => whnf) | ((with_reducible refine Ev.sided ?_ ?_); conv => whnf) | ((with_reducible refine Ev.kr (hs := []) (fun Q hQ => ?_)); (simp only [Ev.runE_cons, Ev.runE_nil]); conv => whnf) | (with_reducible refine hQ _ ?_; clear hQ Q) | ((refine Ev.sf ?_); intro F hF; conv => whnf) | (with_reducible refine hF _ ?_; clear hF F) | ((with_reducible refine Ev.go_k (fun c' => ?_)); conv => whnf) | ((first | refine Ev.el_map0 ?_ (fun hi => ?_) | refine Ev.el_mapN ?_ (fun hi => ?_)); rotate_left; conv => whnf) | ((with_reducible refine Ev.sd0 ?_); exact Ev.sd) | fail)
          · (refine Ev.again (k - 1) _ ?hm10 ?hs10 ?hh10 ?hc10 ⟨i + 1, c + 8, O, R.drop l[i].n.toNat, .own 9256 v 0 O.length, [(9256, ⟨1, 21, v, 0, false, rnsV (nIs O)⟩)], rfl, ?hp10⟩; (case hs10 | hh10 => ((repeat' (first | exact trivial | refine And.intro ?_ ?_)) <;> (first | exact Ev.se | (refine Ev.slot_eq rfl ?_; first | (first | exact wrap_succ (by omega) | exact congrArg (AV.lst 1) hdr | rfl) | ((first | refine Ev.int_eq ?_ | refine Ev.own_eq ?_ | refine Ev.blk_eq ?_); (first | exact wrap_succ (by omega) | exact congrArg (AV.lst 1) hdr | rfl))) | exact Ev.sr))); (case hc10 => exact Nat.le_refl _); (case hm10 => omega))
            refine ⟨.inr (.inr ⟨_, rfl, rfl⟩), by omega, hstep, by rw [List.length_drop]; omega, ?_⟩
            simp only [List.length_drop] at hsz ⊢; omega
    · have hi2 : ¬ (i : Int) < ((sps l).length : Int) := by omega
      have hdl : l.drop i = [] := List.drop_of_length_le (by omega)
      rw [hdl] at hap
      have hO : appP l r0 = O := by rw [hap]; simp [appP]
      rw [hO, ← txt_runes]
      rcases hst with ⟨rfl, rfl, rfl⟩ | ⟨v, rfl, rfl⟩ | ⟨v, rfl, rfl⟩
      all_goals (repeat' (first | ((with_reducible refine Ev.br0 ?_); (first | refine Ev.brp ?_ | refine Ev.brn ?_); conv => whnf) | ((with_reducible refine Ev.c0 ?_); first | refine Ev.cp ?_ | refine Ev.cn ?_) | (with_reducible refine Ev.c_neg hi2 ?_) | ((refine Ev.sw ?_); conv => whnf) | refine Ev.sn ?_ | ((with_reducible refine Ev.chk_k ?_ ?_); rotate_left; exact Ev.bt; conv => whnf) | ((with_reducible (refine Ev.RI.run ?_; constructor)) <;> intro _) | ((refine Ev.sg ?_); conv => whnf) | ((with_reducible refine Ev.sided ?_ ?_); conv => whnf) | ((with_reducible refine Ev.kr (hs := []) (fun Q hQ => ?_)); (simp only [Ev.runE_cons, Ev.runE_nil]); conv => whnf) | (with_reducible refine hQ _ ?_; clear hQ Q) | ((refine Ev.sf ?_); intro F hF; conv => whnf) | (with_reducible refine hF _ ?_; clear hF F) | ((with_reducible refine Ev.go_k (fun c' => ?_)); conv => whnf) | ((refine Ev.run_k [] rfl ?_); conv => whnf) | ((first | refine Ev.el_map0 ?_ (fun hi => ?_) | refine Ev.el_mapN ?_ (fun hi => ?_)); rotate_left; conv => whnf) | ((with_reducible refine Ev.sd0 ?_); exact Ev.sd) | fail))
      · exact ⟨rfl, rfl⟩
      all_goals
        refine ⟨?_, rfl⟩
        have e : List.take O.length (List.drop 0 (nIs O)) = nIs O := by rw [List.drop_zero, List.take_of_length_le (by rw [nIs_len]; exact Nat.le_refl _)]
        show AV.tup [.v (.string (runesBytes (List.take O.length (List.drop 0 (nIs O))))), _] = _
        rw [e]
  · have : toE l t = 5 := by unfold toE; rw [if_neg (by simp; assumption), if_neg (by assumption), if_pos (by assumption)]
    exact ⟨(toA_bad this (by decide)).symm, rfl⟩
  · have h1 : opMayF l ≠ 0 := by assumption
    have : toE l t = opMayF l := by unfold toE; rw [if_pos h1]
    exact ⟨(toA_bad this h1).symm, rfl⟩
theorem comp23 : ∀ c, Tryd.f23.body = some c → comp c = (.seq (.reg 0 [I.n 0 4 (.alloc 27)]) (.seq (.reg 1 [I.n 0 8 (I.mv 0), I.n 1 9 (I.mv 0), I.n 2 10 (I.ln 9 9), I.n 3 11 (.call { callee := .builtin .min, args := #[.tmp 10, .const (Value.int .i64 20)], argTypes := #[3, 3] }), I.n 4 12 (.slice 9 (.tmp 8) none (some (.tmp 11)) none), I.n 5 13 (I.c1 37 12 9), I.n 6 14 (.buildSlice 25 1 #[(0, .const (Value.int .i64 0))]), I.n 7 15 (.build 27 #[(0, .tmp 13), (1, .tmp 14)]), I.n 8 5 (.alloc 27), I.u 9 (I.st 27 5 15)]) (.seq (.reg 2 [I.n 0 16 (I.mv 1), I.n 1 17 (I.fa 27 5 0), I.n 2 18 (I.ld 9 17), I.n 3 19 (I.c1 70 18 9), I.n 4 20 (I.c2 69 16 19 22 3), I.n 5 6 (I.sa 20)]) (.seq (.seq (.reg 3 [I.n 0 7 (I.si 0)]) (.block 0 (.loop (.seq (.seq (.reg 4 [I.n 0 21 (I.mv 7), I.n 1 22 (I.mv 6), I.n 2 23 (I.ln 22 22), I.n 3 24 (I.bo .lss 3 21 23 3)]) (.cond (.tmp 24) .skip (.exit 0))) (.seq (.block 1 (.seq (.reg 6 [I.n 0 27 (I.fa 27 5 1), I.n 1 28 (I.ld 25 27), I.n 2 29 (I.mv 7), I.n 3 30 (I.bc .add 3 29 1 3), I.n 4 31 (I.b1 25 30), I.n 5 32 (I.ap 28 31 25 25), I.n 6 33 (I.fa 27 5 1), I.u 7 (I.st 25 33 32)]) (.draw 7 [I.n 0 34 (I.fa 27 5 2), I.n 1 35 (I.ld 22 34), I.n 2 36 (I.mv 6), I.n 3 37 (I.mv 7), I.n 4 38 (I.ia 22 36 37), I.n 5 39 (I.ld 23 38), I.n 6 40 (I.c1 71 39 23), I.n 7 41 (I.b1 22 40), I.n 8 42 (I.ap 35 41 22 22), I.n 9 43 (I.fa 27 5 2), I.u 10 (I.st 22 43 42)] [[], [0], [], [], [2, 3], [4], [5], [6], [1, 7, 6], [0, 1, 2, 3, 4, 5, 6, 7, 8], [9, 8, 8, 0, 1, 2, 3, 4, 5, 6, 7, 8]]))) (.reg 5 [I.n 0 25 (I.mv 7), I.n 1 26 (I.bc .add 3 25 1 3), I.n 2 7 (I.sa 26)])))))) (.seq (.reg 8 [I.n 0 44 (I.ld 27 5), I.u 1 (I.st 27 4 44)]) .ret))))) := by
  intro c h
  have : c = Tryd.f23.body.get rfl := by rw [← Option.some_inj, ← h]; rfl
  rw [this]; rfl
def allG : List (List Sp) → ByteArray → Int × ByteArray
  | [], t => (0, t)
  | x :: l, t => if toE x t = 0 then allG l (toT x t) else (toE x t, ⟨#[]⟩)
def allR (t : ByteArray) (l : List (List Sp)) : Int × ByteArray := if l = [] ∧ validD t.data.toList = false then (3, ⟨#[]⟩) else allG l t
def allA (t : ByteArray) (l : List (List Sp)) : AV := .tup [.v (.string (allR t l).2), .v (.int .i64 (allR t l).1)]
def totb (l : List (List Sp)) : Nat := (l.map tbs).sum
theorem totb_cons (x : List Sp) (l : List (List Sp)) : totb (x :: l) = tbs x + totb l := by simp [totb]
theorem totb_take (l : List (List Sp)) : ∀ i, totb (l.take i) ≤ totb l := fun i => by
  have : totb l = totb (l.take i) + totb (l.drop i) := by
    conv => lhs; rw [← List.take_append_drop i l]
    unfold totb; rw [List.map_append, List.sum_append]
  omega
theorem allR_nil {t : ByteArray} (h : validD t.data.toList = false) : allR t [] = (3, ⟨#[]⟩) := if_pos ⟨rfl, h⟩
theorem allR_ok {t : ByteArray} {l : List (List Sp)} (h : ¬ (l = [] ∧ validD t.data.toList = false)) : allR t l = allG l t := if_neg h
theorem to_size {l : List Sp} {t : ByteArray} (h : toE l t = 0) : (toT l t).size ≤ t.size + tbs l := by
  obtain ⟨h1, h2, h3⟩ := toE_zero h
  have hT : toT l t = txt (appP l (pts t.data.toList)) := if_pos h
  have hsz := appP_size l (pts t.data.toList) ((opMay_iff l).1 h1).1
  rw [(pts_scal _ h2).1, len_list] at hsz
  rw [hT, ← len_list, txt_list]; exact hsz
theorem all_call (t : ByteArray) (l : List (List Sp)) (hl : l.length ≤ 100000000) (hx : ∀ x ∈ l, x.length ≤ 100000000) (hb : t.size + totb l ≤ 1000000000) : CallW env 57 [.v (.string t), .lst 1 (rowsA l)] (fun r hs => r = allA t l ∧ hs = []) := by
  have hrl := rowsA_len l
  have hpv := pvalid_call t (by omega)
  refine Ev.fn [0, 1, 4, 5, 7, 8, 9, 17, 18, 19, 20, 21, 31] 0 [.tmp 4, .tmp 5] Tryd.func57 (comp57 _ rfl) ?_
  repeat' (first | ((refine Ev.sw ?_); conv => whnf) | refine Ev.sn ?_ | ((with_reducible refine Ev.chk_k ?_ ?_); rotate_left; exact Ev.bt; conv => whnf) | ((with_reducible (refine Ev.RI.run ?_; constructor)) <;> intro _) | ((refine Ev.sg ?_); conv => whnf) | ((with_reducible refine Ev.sided ?_ ?_); conv => whnf) | ((with_reducible refine Ev.kr (hs := []) (fun Q hQ => ?_)); (simp only [Ev.runE_cons, Ev.runE_nil]); conv => whnf) | (with_reducible refine hQ _ ?_; clear hQ Q) | ((refine Ev.sf ?_); intro F hF; conv => whnf) | (with_reducible refine hF _ ?_; clear hF F) | ((with_reducible refine Ev.go_k (fun c' => ?_)); conv => whnf) | ((with_reducible refine Ev.ca0 ?_); (first | refine Ev.ca (hpv) ?_); conv => whnf) | ((first | refine Ev.el_map0 ?_ (fun hi => ?_) | refine Ev.el_mapN ?_ (fun hi => ?_)); rotate_left; conv => whnf) | ((with_reducible refine Ev.sd0 ?_); exact Ev.sd) | fail)
  · have hne : ¬ (l = [] ∧ validD t.data.toList = false) := by
      rintro ⟨e1, e2⟩
      first
        | (rename_i hv; rw [e2] at hv; cases hv)
        | (subst e1; rename_i h0; exact h0 rfl)
    have hA : allA t l = .tup [.v (.string (allG l t).2), .v (.int .i64 (allG l t).1)] := by unfold allA; rw [allR_ok hne]
    rw [hA]
    refine Ev.loop (fun k s => ∃ (i c : Nat) (u : ByteArray), s = ⟨[(0, .v (.string u)), (4, .v (.string ⟨#[]⟩)), (5, .v (.int .i64 0)), (18, .lst 1 (rowsA l)), (19, .v (.int .i64 (rowsA l).length)), (20, .v (.int .i64 i))], [], c⟩ ∧ k + i = l.length ∧ allG l t = allG (l.drop i) u ∧ u.size + totb (l.drop i) ≤ 1000000000) ?_ ?_
    · (refine Ev.to _ ?hs1 ?hh1 ?hc1 ⟨l.length, 0, ?_, t, rfl, ?hp1⟩; (case hs1 | hh1 => ((repeat' (first | exact trivial | refine And.intro ?_ ?_)) <;> (first | exact Ev.se | (refine Ev.slot_eq rfl ?_; first | (first | rfl | (simp; done)) | ((first | refine Ev.int_eq ?_ | refine Ev.own_eq ?_ | refine Ev.blk_eq ?_); (first | rfl | (simp; done)))) | exact Ev.sr))); (case hc1 => exact Nat.le_refl _))
      exact ⟨by omega, rfl, by rw [List.drop_zero]; exact hb⟩
    rintro k s1 ⟨i, c, u, rfl, hk, hg, hu⟩
    by_cases hi : i < l.length
    · have hi2 : (i : Int) < ((rowsA l).length : Int) := by omega
      have hd : l.drop i = l[i] :: l.drop (i + 1) := List.drop_eq_getElem_cons hi
      rw [hd] at hg hu
      rw [totb_cons] at hu
      have hT := to_call l[i] u (hx _ (List.getElem_mem hi)) (by omega)
      by_cases h0 : toE l[i] u = 0
      · have hsz := to_size h0
        have e1 : toA l[i] u = .tup [.v (.string (toT l[i] u)), .v (.int .i64 0)] := by unfold toA; rw [h0]
        rw [e1] at hT
        repeat' (first | ((with_reducible refine Ev.br0 ?_); (first | refine Ev.brp ?_ | refine Ev.brn ?_); conv => whnf) | ((with_reducible refine Ev.c0 ?_); first | refine Ev.cp ?_ | refine Ev.cn ?_) | (with_reducible refine Ev.c_pos hi2 ?_) | ((refine Ev.sw ?_); conv => whnf) | refine Ev.sn ?_ | ((with_reducible refine Ev.chk_k ?_ ?_); rotate_left; exact Ev.bt; conv => whnf) | ((with_reducible (refine Ev.RI.run ?_; constructor)) <;> intro _) | ((refine Ev.sg ?_); conv => whnf) | ((with_reducible refine Ev.sided ?_ ?_); conv => whnf) | ((with_reducible refine Ev.kr (hs := []) (fun Q hQ => ?_)); (simp only [Ev.runE_cons, Ev.runE_nil]); conv => whnf) | (with_reducible refine hQ _ ?_; clear hQ Q) | ((refine Ev.sf ?_); intro F hF; conv => whnf) | (with_reducible refine hF _ ?_; clear hF F) | ((with_reducible refine Ev.go_k (fun c' => ?_)); conv => whnf) | ((with_reducible refine Ev.ca0 ?_); (first | refine Ev.ca (hT) ?_); conv => whnf) | ((first | refine Ev.el_map0 ?_ (fun hi => ?_) | refine Ev.el_mapN ?_ (fun hi => ?_)); rotate_left; conv => whnf) | ((with_reducible refine Ev.sd0 ?_); exact Ev.sd) | fail)
        (refine Ev.again (k - 1) _ ?hm2 ?hs2 ?hh2 ?hc2 ⟨i + 1, ?_, toT l[i] u, rfl, ?hp2⟩; (case hs2 | hh2 => ((repeat' (first | exact trivial | refine And.intro ?_ ?_)) <;> (first | exact Ev.se | (refine Ev.slot_eq rfl ?_; first | (first | exact wrap_succ (by omega) | rfl) | ((first | refine Ev.int_eq ?_ | refine Ev.own_eq ?_ | refine Ev.blk_eq ?_); (first | exact wrap_succ (by omega) | rfl))) | exact Ev.sr))); (case hc2 => exact Nat.le_refl _); (case hm2 => omega))
        refine ⟨by omega, ?_, by omega⟩
        rw [hg]; simp only [allG]; rw [if_pos h0]
      · have e1 : toA l[i] u = .tup [.v (.string ⟨#[]⟩), .v (.int .i64 (toE l[i] u))] := toA_bad rfl h0
        rw [e1] at hT
        have e2 : allG l t = (toE l[i] u, ⟨#[]⟩) := by rw [hg]; simp only [allG]; rw [if_neg h0]
        rw [e2]
        repeat' (first | ((with_reducible refine Ev.br0 ?_); (first | refine Ev.brp ?_ | refine Ev.brn ?_); conv => whnf) | ((with_reducible refine Ev.c0 ?_); first | refine Ev.cp ?_ | refine Ev.cn ?_) | (with_reducible refine Ev.c_pos hi2 ?_) | (with_reducible refine Ev.c_neg h0 ?_) | (((with_reducible refine Ev.br_neg h0 ?_); conv => whnf)) | ((refine Ev.sw ?_); conv => whnf) | refine Ev.sn ?_ | ((with_reducible refine Ev.chk_k ?_ ?_); rotate_left; exact Ev.bt; conv => whnf) | ((with_reducible (refine Ev.RI.run ?_; constructor)) <;> intro _) | ((refine Ev.sg ?_); conv => whnf) | ((with_reducible refine Ev.sided ?_ ?_); conv => whnf) | ((with_reducible refine Ev.kr (hs := []) (fun Q hQ => ?_)); (simp only [Ev.runE_cons, Ev.runE_nil]); conv => whnf) | (with_reducible refine hQ _ ?_; clear hQ Q) | ((refine Ev.sf ?_); intro F hF; conv => whnf) | (with_reducible refine hF _ ?_; clear hF F) | ((with_reducible refine Ev.go_k (fun c' => ?_)); conv => whnf) | ((with_reducible refine Ev.ca0 ?_); (first | refine Ev.ca (hT) ?_); conv => whnf) | ((first | refine Ev.el_map0 ?_ (fun hi => ?_) | refine Ev.el_mapN ?_ (fun hi => ?_)); rotate_left; conv => whnf) | ((with_reducible refine Ev.sd0 ?_); exact Ev.sd) | fail)
        exact ⟨rfl, rfl⟩
    · have hi2 : ¬ (i : Int) < ((rowsA l).length : Int) := by omega
      have hd : l.drop i = [] := List.drop_of_length_le (by omega)
      rw [hd] at hg
      have e2 : allG l t = (0, u) := hg
      rw [e2]
      repeat' (first | ((with_reducible refine Ev.br0 ?_); (first | refine Ev.brp ?_ | refine Ev.brn ?_); conv => whnf) | ((with_reducible refine Ev.c0 ?_); first | refine Ev.cp ?_ | refine Ev.cn ?_) | (with_reducible refine Ev.c_neg hi2 ?_) | ((refine Ev.sw ?_); conv => whnf) | refine Ev.sn ?_ | ((with_reducible refine Ev.chk_k ?_ ?_); rotate_left; exact Ev.bt; conv => whnf) | ((with_reducible (refine Ev.RI.run ?_; constructor)) <;> intro _) | ((refine Ev.sg ?_); conv => whnf) | ((with_reducible refine Ev.sided ?_ ?_); conv => whnf) | ((with_reducible refine Ev.kr (hs := []) (fun Q hQ => ?_)); (simp only [Ev.runE_cons, Ev.runE_nil]); conv => whnf) | (with_reducible refine hQ _ ?_; clear hQ Q) | ((refine Ev.sf ?_); intro F hF; conv => whnf) | (with_reducible refine hF _ ?_; clear hF F) | ((with_reducible refine Ev.go_k (fun c' => ?_)); conv => whnf) | ((first | refine Ev.el_map0 ?_ (fun hi => ?_) | refine Ev.el_mapN ?_ (fun hi => ?_)); rotate_left; conv => whnf) | ((with_reducible refine Ev.sd0 ?_); exact Ev.sd) | fail)
      exact ⟨rfl, rfl⟩
  · rename_i h0 hv
    have : l = [] := List.eq_nil_of_length_eq_zero (by omega)
    subst this
    refine ⟨?_, rfl⟩
    unfold allA; rw [allR_nil hv]; rfl
  · have hne : ¬ (l = [] ∧ validD t.data.toList = false) := by
      rintro ⟨e1, e2⟩
      first
        | (rename_i hv; rw [e2] at hv; cases hv)
        | (subst e1; rename_i h0; exact h0 rfl)
    have hA : allA t l = .tup [.v (.string (allG l t).2), .v (.int .i64 (allG l t).1)] := by unfold allA; rw [allR_ok hne]
    rw [hA]
    refine Ev.loop (fun k s => ∃ (i c : Nat) (u : ByteArray), s = ⟨[(0, .v (.string u)), (4, .v (.string ⟨#[]⟩)), (5, .v (.int .i64 0)), (18, .lst 1 (rowsA l)), (19, .v (.int .i64 (rowsA l).length)), (20, .v (.int .i64 i))], [], c⟩ ∧ k + i = l.length ∧ allG l t = allG (l.drop i) u ∧ u.size + totb (l.drop i) ≤ 1000000000) ?_ ?_
    · (refine Ev.to _ ?hs3 ?hh3 ?hc3 ⟨l.length, 0, ?_, t, rfl, ?hp3⟩; (case hs3 | hh3 => ((repeat' (first | exact trivial | refine And.intro ?_ ?_)) <;> (first | exact Ev.se | (refine Ev.slot_eq rfl ?_; first | (first | rfl | (simp; done)) | ((first | refine Ev.int_eq ?_ | refine Ev.own_eq ?_ | refine Ev.blk_eq ?_); (first | rfl | (simp; done)))) | exact Ev.sr))); (case hc3 => exact Nat.le_refl _))
      exact ⟨by omega, rfl, by rw [List.drop_zero]; exact hb⟩
    rintro k s1 ⟨i, c, u, rfl, hk, hg, hu⟩
    by_cases hi : i < l.length
    · have hi2 : (i : Int) < ((rowsA l).length : Int) := by omega
      have hd : l.drop i = l[i] :: l.drop (i + 1) := List.drop_eq_getElem_cons hi
      rw [hd] at hg hu
      rw [totb_cons] at hu
      have hT := to_call l[i] u (hx _ (List.getElem_mem hi)) (by omega)
      by_cases h0 : toE l[i] u = 0
      · have hsz := to_size h0
        have e1 : toA l[i] u = .tup [.v (.string (toT l[i] u)), .v (.int .i64 0)] := by unfold toA; rw [h0]
        rw [e1] at hT
        repeat' (first | ((with_reducible refine Ev.br0 ?_); (first | refine Ev.brp ?_ | refine Ev.brn ?_); conv => whnf) | ((with_reducible refine Ev.c0 ?_); first | refine Ev.cp ?_ | refine Ev.cn ?_) | (with_reducible refine Ev.c_pos hi2 ?_) | ((refine Ev.sw ?_); conv => whnf) | refine Ev.sn ?_ | ((with_reducible refine Ev.chk_k ?_ ?_); rotate_left; exact Ev.bt; conv => whnf) | ((with_reducible (refine Ev.RI.run ?_; constructor)) <;> intro _) | ((refine Ev.sg ?_); conv => whnf) | ((with_reducible refine Ev.sided ?_ ?_); conv => whnf) | ((with_reducible refine Ev.kr (hs := []) (fun Q hQ => ?_)); (simp only [Ev.runE_cons, Ev.runE_nil]); conv => whnf) | (with_reducible refine hQ _ ?_; clear hQ Q) | ((refine Ev.sf ?_); intro F hF; conv => whnf) | (with_reducible refine hF _ ?_; clear hF F) | ((with_reducible refine Ev.go_k (fun c' => ?_)); conv => whnf) | ((with_reducible refine Ev.ca0 ?_); (first | refine Ev.ca (hT) ?_); conv => whnf) | ((first | refine Ev.el_map0 ?_ (fun hi => ?_) | refine Ev.el_mapN ?_ (fun hi => ?_)); rotate_left; conv => whnf) | ((with_reducible refine Ev.sd0 ?_); exact Ev.sd) | fail)
        (refine Ev.again (k - 1) _ ?hm4 ?hs4 ?hh4 ?hc4 ⟨i + 1, ?_, toT l[i] u, rfl, ?hp4⟩; (case hs4 | hh4 => ((repeat' (first | exact trivial | refine And.intro ?_ ?_)) <;> (first | exact Ev.se | (refine Ev.slot_eq rfl ?_; first | (first | exact wrap_succ (by omega) | rfl) | ((first | refine Ev.int_eq ?_ | refine Ev.own_eq ?_ | refine Ev.blk_eq ?_); (first | exact wrap_succ (by omega) | rfl))) | exact Ev.sr))); (case hc4 => exact Nat.le_refl _); (case hm4 => omega))
        refine ⟨by omega, ?_, by omega⟩
        rw [hg]; simp only [allG]; rw [if_pos h0]
      · have e1 : toA l[i] u = .tup [.v (.string ⟨#[]⟩), .v (.int .i64 (toE l[i] u))] := toA_bad rfl h0
        rw [e1] at hT
        have e2 : allG l t = (toE l[i] u, ⟨#[]⟩) := by rw [hg]; simp only [allG]; rw [if_neg h0]
        rw [e2]
        repeat' (first | ((with_reducible refine Ev.br0 ?_); (first | refine Ev.brp ?_ | refine Ev.brn ?_); conv => whnf) | ((with_reducible refine Ev.c0 ?_); first | refine Ev.cp ?_ | refine Ev.cn ?_) | (with_reducible refine Ev.c_pos hi2 ?_) | (with_reducible refine Ev.c_neg h0 ?_) | (((with_reducible refine Ev.br_neg h0 ?_); conv => whnf)) | ((refine Ev.sw ?_); conv => whnf) | refine Ev.sn ?_ | ((with_reducible refine Ev.chk_k ?_ ?_); rotate_left; exact Ev.bt; conv => whnf) | ((with_reducible (refine Ev.RI.run ?_; constructor)) <;> intro _) | ((refine Ev.sg ?_); conv => whnf) | ((with_reducible refine Ev.sided ?_ ?_); conv => whnf) | ((with_reducible refine Ev.kr (hs := []) (fun Q hQ => ?_)); (simp only [Ev.runE_cons, Ev.runE_nil]); conv => whnf) | (with_reducible refine hQ _ ?_; clear hQ Q) | ((refine Ev.sf ?_); intro F hF; conv => whnf) | (with_reducible refine hF _ ?_; clear hF F) | ((with_reducible refine Ev.go_k (fun c' => ?_)); conv => whnf) | ((with_reducible refine Ev.ca0 ?_); (first | refine Ev.ca (hT) ?_); conv => whnf) | ((first | refine Ev.el_map0 ?_ (fun hi => ?_) | refine Ev.el_mapN ?_ (fun hi => ?_)); rotate_left; conv => whnf) | ((with_reducible refine Ev.sd0 ?_); exact Ev.sd) | fail)
        exact ⟨rfl, rfl⟩
    · have hi2 : ¬ (i : Int) < ((rowsA l).length : Int) := by omega
      have hd : l.drop i = [] := List.drop_of_length_le (by omega)
      rw [hd] at hg
      have e2 : allG l t = (0, u) := hg
      rw [e2]
      repeat' (first | ((with_reducible refine Ev.br0 ?_); (first | refine Ev.brp ?_ | refine Ev.brn ?_); conv => whnf) | ((with_reducible refine Ev.c0 ?_); first | refine Ev.cp ?_ | refine Ev.cn ?_) | (with_reducible refine Ev.c_neg hi2 ?_) | ((refine Ev.sw ?_); conv => whnf) | refine Ev.sn ?_ | ((with_reducible refine Ev.chk_k ?_ ?_); rotate_left; exact Ev.bt; conv => whnf) | ((with_reducible (refine Ev.RI.run ?_; constructor)) <;> intro _) | ((refine Ev.sg ?_); conv => whnf) | ((with_reducible refine Ev.sided ?_ ?_); conv => whnf) | ((with_reducible refine Ev.kr (hs := []) (fun Q hQ => ?_)); (simp only [Ev.runE_cons, Ev.runE_nil]); conv => whnf) | (with_reducible refine hQ _ ?_; clear hQ Q) | ((refine Ev.sf ?_); intro F hF; conv => whnf) | (with_reducible refine hF _ ?_; clear hF F) | ((with_reducible refine Ev.go_k (fun c' => ?_)); conv => whnf) | ((first | refine Ev.el_map0 ?_ (fun hi => ?_) | refine Ev.el_mapN ?_ (fun hi => ?_)); rotate_left; conv => whnf) | ((with_reducible refine Ev.sd0 ?_); exact Ev.sd) | fail)
      exact ⟨rfl, rfl⟩
def fitL' (t : ByteArray) (l : List (List Sp)) : Lg :=
  let b := fitS (t.extract 0 (min t.size 20))
  let w := chO l (countD b.data.toList)
  ⟨b, (List.range (w.length + 1)).map fun (i : Nat) => (i : Int), w.map norm⟩
theorem fit16_core (t : ByteArray) (l : List (List Sp)) : CallW env 23 [.v (.string t), .lst 1 (rowsA l)] (fun r hs => LeR r (lgA (fitL' t l)) ∧ hs = []) := by
  have hrl := rowsA_len l
  have hs20 : (t.extract 0 (min t.size 20)).size ≤ 20 := by rw [ByteArray.size_extract]; omega
  have hx : (min (t.size : Int) 20).toNat = min t.size 20 := by omega
  have hF : CallW env 37 [.v (.string (t.extract 0 (min (t.size : Int) 20).toNat))] (fun r hs => r = .v (.string (fitS (t.extract 0 (min t.size 20)))) ∧ hs = []) := by rw [hx]; exact fit_call _ (by omega)
  have hC := rcount_call (fitS (t.extract 0 (min t.size 20))) (by have := fit_size (t.extract 0 (min t.size 20)) (by omega); omega)
  have hcc := fit_count (t.extract 0 (min t.size 20))
  have hW := chain4_call l (countD (fitS (t.extract 0 (min t.size 20))).data.toList) (by omega)
  have hL : lgA (fitL' t l) = .agg [.v (.string (fitS (t.extract 0 (min t.size 20)))), .lst 1 (ints ((List.range ((chO l (countD (fitS (t.extract 0 (min t.size 20))).data.toList)).length + 1)).map fun (i : Nat) => (i : Int))), .lst 1 (rowsA ((chO l (countD (fitS (t.extract 0 (min t.size 20))).data.toList)).map norm))] := rfl
  rw [hL]
  have hcw := chO_chn l (n := countD (fitS (t.extract 0 (min t.size 20))).data.toList) (by omega)
  have hN : ∀ x ∈ chO l (countD (fitS (t.extract 0 (min t.size 20))).data.toList), x.length ≤ 13 ∧ tbs x ≤ 312 := by
    intro x hx
    obtain ⟨y, m, rfl, m1, m2⟩ := chn_mem hcw.1 x hx
    exact fit_tbs y (by omega)
  obtain ⟨_, h20⟩ := hcw
  generalize fitS (t.extract 0 (min t.size 20)) = b at *
  generalize chO l (countD b.data.toList) = W at *
  have hwl := rowsA_len W
  refine Ev.fn [0, 1, 4, 5, 6, 7, 24] 0 [.cell 4 27] Tryd.func23 (comp23 _ rfl) ?_
  repeat' (first | ((with_reducible refine Ev.br0 ?_); (first | refine Ev.brp ?_ | refine Ev.brn ?_); conv => whnf) | ((with_reducible refine Ev.c0 ?_); first | refine Ev.cp ?_ | refine Ev.cn ?_) | ((refine Ev.sw ?_); conv => whnf) | refine Ev.sn ?_ | ((with_reducible refine Ev.chk_k ?_ ?_); rotate_left; exact Ev.bt; conv => whnf) | ((with_reducible (refine Ev.RI.run ?_; constructor)) <;> intro _) | ((refine Ev.sg ?_); conv => whnf) | ((with_reducible refine Ev.sided ?_ ?_); conv => whnf) | ((with_reducible refine Ev.kr (hs := []) (fun Q hQ => ?_)); (simp only [Ev.runE_cons, Ev.runE_nil]); conv => whnf) | (with_reducible refine hQ _ ?_; clear hQ Q) | ((refine Ev.sf ?_); intro F hF; conv => whnf) | (with_reducible refine hF _ ?_; clear hF F) | ((with_reducible refine Ev.go_k (fun c' => ?_)); conv => whnf) | ((with_reducible refine Ev.ca0 ?_); (first | refine Ev.ca (hF) ?_ | refine Ev.ca (hC) ?_ | refine Ev.ca (hW) ?_); conv => whnf) | ((with_reducible refine Ev.dr0 ?_); (first | refine Ev.dr 7 [] [0, 1, 2, 3, 4, 5, 6, 7, 8, 9, 10] ?_); intro Q hQ; (simp only [Ev.runE_cons, Ev.runE_nil]); conv => whnf) | ((first | refine Ev.el_map0 ?_ (fun hi => ?_) | refine Ev.el_mapN ?_ (fun hi => ?_)); rotate_left; conv => whnf) | ((with_reducible refine Ev.sd0 ?_); exact Ev.sd) | fail)
  have hrg : ∀ i : Nat, ((List.range (i + 1)).map fun (i : Nat) => (i : Int)) = ((List.range i).map fun (i : Nat) => (i : Int)) ++ [(i : Int)] := fun i => by rw [List.range_succ, List.map_append]; rfl
  refine Ev.loop (fun k s => ∃ (i c v w : Nat) (sg : AV) (hx : List (Nat × Blk)), s = ⟨[(4, .ptr 0 0 0 0), (5, .ptr 576 w 0 0), (6, .lst 1 (rowsA W)), (7, .v (.int .i64 i))],
      (576, ⟨3, 27, w, 0, true, [[.v (.string b), .own 560 v 0 (i + 1), sg]]⟩) :: (560, ⟨1, 3, v, 0, false, ints ((List.range (i + 1)).map fun (i : Nat) => (i : Int))⟩) :: (0, ⟨3, 27, 0, 0, true, [[.v (.string ⟨#[]⟩), nilA, nilA]]⟩) :: hx, c⟩ ∧
      ((i = 0 ∧ sg = nilA ∧ hx = []) ∨ (0 < i ∧ ∃ u, sg = .own 3648 u 0 i ∧ hx = [(3648, ⟨1, 23, u, 0, false, rowsA ((W.take i).map norm)⟩)])) ∧ k + i = W.length) ?_ ?_
  · (refine Ev.to _ ?hs5 ?hh5 ?hc5 ⟨W.length, 0, ?_, ?_, ?_, nilA, [], rfl, ?hp5⟩; (case hs5 | hh5 => ((repeat' (first | exact trivial | refine And.intro ?_ ?_)) <;> (first | exact Ev.se | (refine Ev.slot_eq rfl ?_; first | (first | rfl | (simp; done)) | ((first | refine Ev.int_eq ?_ | refine Ev.own_eq ?_ | refine Ev.blk_eq ?_); (first | rfl | (simp; done)))) | exact Ev.sr))); (case hc5 => exact Nat.le_refl _))
    exact ⟨.inl ⟨rfl, rfl, rfl⟩, by omega⟩
  rintro k s1 ⟨i, c, v, w, sg, hx, rfl, hsg, hk⟩
  have hlr := ints_len ((List.range (i + 1)).map fun (i : Nat) => (i : Int))
  rw [List.length_map, List.length_range] at hlr
  have hO : ∀ (hi : i < W.length), CallW env 71 [.lst 3 (sps W[i])] (fun r hs => r = .lst 3 (sps (norm W[i])) ∧ hs = []) := fun hi => by
    have := hN _ (List.getElem_mem hi); exact rnof_call _ (by omega) (by omega)
  by_cases hi : i < W.length
  · have hi2 : (i : Int) < ((rowsA W).length : Int) := by omega
    rcases hsg with ⟨rfl, rfl, rfl⟩ | ⟨h0, u, rfl, rfl⟩
    · repeat' (first | ((with_reducible refine Ev.br0 ?_); (first | refine Ev.brp ?_ | refine Ev.brn ?_); conv => whnf) | ((with_reducible refine Ev.c0 ?_); first | refine Ev.cp ?_ | refine Ev.cn ?_) | (with_reducible refine Ev.c_pos hi2 ?_) | ((refine Ev.sw ?_); conv => whnf) | refine Ev.sn ?_ | ((with_reducible refine Ev.chk_k ?_ ?_); rotate_left; exact Ev.bt; conv => whnf) | ((with_reducible (refine Ev.RI.run ?_; constructor)) <;> intro _) | ((refine Ev.sg ?_); conv => whnf) | ((with_reducible refine Ev.sided ?_ ?_); conv => whnf) | ((with_reducible refine Ev.kr (hs := []) (fun Q hQ => ?_)); (simp only [Ev.runE_cons, Ev.runE_nil]); conv => whnf) | (with_reducible refine hQ _ ?_; clear hQ Q) | ((refine Ev.sf ?_); intro F hF; conv => whnf) | (with_reducible refine hF _ ?_; clear hF F) | ((with_reducible refine Ev.go_k (fun c' => ?_)); conv => whnf) | ((with_reducible refine Ev.ca0 ?_); (first | refine Ev.ca (hO hi) ?_); conv => whnf) | ((with_reducible refine Ev.dr0 ?_); (first | refine Ev.dr 7 [] [0, 1, 2, 3, 4, 5, 6, 7, 8, 9, 10] ?_); intro Q hQ; (simp only [Ev.runE_cons, Ev.runE_nil]); conv => whnf) | ((first | refine Ev.el_map0 ?_ (fun hi => ?_) | refine Ev.el_mapN ?_ (fun hi => ?_)); rotate_left; conv => whnf) | ((with_reducible refine Ev.sd0 ?_); exact Ev.sd) | fail)
      have hw1 : IntKind.i64.wrap (((0 : Nat) : Int) + 1) = ((0 + 1 : Nat) : Int) := by rw [wrap_id (by omega)]; rfl
      have hr1 : ints ((List.range (0 + 1)).map fun (i : Nat) => (i : Int)) ++ List.take 1 (List.drop 0 [[AV.v (.int .i64 (IntKind.i64.wrap (((0 : Nat) : Int) + 1)))]]) = ints ((List.range (0 + 1 + 1)).map fun (i : Nat) => (i : Int)) := by rw [hrg (0 + 1), ints_app, hw1]; rfl
      have hr2 : List.take 1 (List.drop 0 [[AV.lst 3 (sps (norm W[0]))]]) = rowsA ((W.take (0 + 1)).map norm) := by rw [List.take_succ_eq_append_getElem hi]; rfl
      (refine Ev.again (k - 1) _ ?hm6 ?hs6 ?hh6 ?hc6 ⟨0 + 1, ?_, c + 8, w, .own 3648 (c + 8 + 8 + 8) 0 (0 + 1), [(3648, ⟨1, 23, c + 8 + 8 + 8, 0, false, rowsA ((W.take (0 + 1)).map norm)⟩)], rfl, ?hp6⟩; (case hs6 | hh6 => ((repeat' (first | exact trivial | refine And.intro ?_ ?_)) <;> (first | exact Ev.se | (refine Ev.slot_eq rfl ?_; first | (first | exact wrap_succ (by omega) | exact congrArg (fun n => Blk.mk 1 3 _ 0 false n) hr1 | exact congrArg (fun n => Blk.mk 1 23 _ 0 false n) hr2 | rfl) | ((first | refine Ev.int_eq ?_ | refine Ev.own_eq ?_ | refine Ev.blk_eq ?_); (first | exact wrap_succ (by omega) | exact congrArg (fun n => Blk.mk 1 3 _ 0 false n) hr1 | exact congrArg (fun n => Blk.mk 1 23 _ 0 false n) hr2 | rfl))) | exact Ev.sr))); (case hc6 => exact Nat.le_refl _); (case hm6 => omega))
      exact ⟨.inr ⟨by omega, _, rfl, rfl⟩, by omega⟩
    · have hml := rowsA_len ((W.take i).map norm)
      rw [List.length_map, List.length_take] at hml
      repeat' (first | ((with_reducible refine Ev.br0 ?_); (first | refine Ev.brp ?_ | refine Ev.brn ?_); conv => whnf) | ((with_reducible refine Ev.c0 ?_); first | refine Ev.cp ?_ | refine Ev.cn ?_) | (with_reducible refine Ev.c_pos hi2 ?_) | ((refine Ev.sw ?_); conv => whnf) | refine Ev.sn ?_ | ((with_reducible refine Ev.chk_k ?_ ?_); rotate_left; exact Ev.bt; conv => whnf) | ((with_reducible (refine Ev.RI.run ?_; constructor)) <;> intro _) | ((refine Ev.sg ?_); conv => whnf) | ((with_reducible refine Ev.sided ?_ ?_); conv => whnf) | ((with_reducible refine Ev.kr (hs := []) (fun Q hQ => ?_)); (simp only [Ev.runE_cons, Ev.runE_nil]); conv => whnf) | (with_reducible refine hQ _ ?_; clear hQ Q) | ((refine Ev.sf ?_); intro F hF; conv => whnf) | (with_reducible refine hF _ ?_; clear hF F) | ((with_reducible refine Ev.go_k (fun c' => ?_)); conv => whnf) | ((with_reducible refine Ev.ca0 ?_); (first | refine Ev.ca (hO hi) ?_); conv => whnf) | ((with_reducible refine Ev.dr0 ?_); (first | refine Ev.dr 7 [] [0, 1, 2, 3, 4, 5, 6, 7, 8, 9, 10] ?_); intro Q hQ; (simp only [Ev.runE_cons, Ev.runE_nil]); conv => whnf) | ((first | refine Ev.el_map0 ?_ (fun hi => ?_) | refine Ev.el_mapN ?_ (fun hi => ?_)); rotate_left; conv => whnf) | ((with_reducible refine Ev.sd0 ?_); exact Ev.sd) | fail)
      have hw1 : IntKind.i64.wrap ((i : Int) + 1) = ((i + 1 : Nat) : Int) := by rw [wrap_id (by omega)]; simp
      have hr1 : ints ((List.range (i + 1)).map fun (i : Nat) => (i : Int)) ++ List.take 1 (List.drop 0 [[AV.v (.int .i64 (IntKind.i64.wrap ((i : Int) + 1)))]]) = ints ((List.range (i + 1 + 1)).map fun (i : Nat) => (i : Int)) := by rw [hrg (i + 1), ints_app, hw1]; rfl
      have hr2 : rowsA ((W.take i).map norm) ++ List.take 1 (List.drop 0 [[AV.lst 3 (sps (norm W[i]))]]) = rowsA ((W.take (i + 1)).map norm) := by rw [List.take_succ_eq_append_getElem hi, List.map_append, rowsA_app]; rfl
      (refine Ev.again (k - 1) _ ?hm7 ?hs7 ?hh7 ?hc7 ⟨i + 1, ?_, c + 8, w, .own 3648 (c + 8 + 8 + 8) 0 (i + 1), [(3648, ⟨1, 23, c + 8 + 8 + 8, 0, false, rowsA ((W.take (i + 1)).map norm)⟩)], rfl, ?hp7⟩; (case hs7 | hh7 => ((repeat' (first | exact trivial | refine And.intro ?_ ?_)) <;> (first | exact Ev.se | (refine Ev.slot_eq rfl ?_; first | (first | exact wrap_succ (by omega) | exact congrArg (fun n => Blk.mk 1 3 _ 0 false n) hr1 | exact congrArg (fun n => Blk.mk 1 23 _ 0 false n) hr2 | rfl) | ((first | refine Ev.int_eq ?_ | refine Ev.own_eq ?_ | refine Ev.blk_eq ?_); (first | exact wrap_succ (by omega) | exact congrArg (fun n => Blk.mk 1 3 _ 0 false n) hr1 | exact congrArg (fun n => Blk.mk 1 23 _ 0 false n) hr2 | rfl))) | exact Ev.sr))); (case hc7 => exact Nat.le_refl _); (case hm7 => omega))
      exact ⟨.inr ⟨by omega, _, rfl, rfl⟩, by omega⟩
  · have hi2 : ¬ (i : Int) < ((rowsA W).length : Int) := by omega
    rcases hsg with ⟨rfl, rfl, rfl⟩ | ⟨h0, u, rfl, rfl⟩
    · repeat' (first | ((with_reducible refine Ev.br0 ?_); (first | refine Ev.brp ?_ | refine Ev.brn ?_); conv => whnf) | ((with_reducible refine Ev.c0 ?_); first | refine Ev.cp ?_ | refine Ev.cn ?_) | (with_reducible refine Ev.c_neg hi2 ?_) | ((refine Ev.sw ?_); conv => whnf) | refine Ev.sn ?_ | ((with_reducible refine Ev.chk_k ?_ ?_); rotate_left; exact Ev.bt; conv => whnf) | ((with_reducible (refine Ev.RI.run ?_; constructor)) <;> intro _) | ((refine Ev.sg ?_); conv => whnf) | ((with_reducible refine Ev.sided ?_ ?_); conv => whnf) | ((with_reducible refine Ev.kr (hs := []) (fun Q hQ => ?_)); (simp only [Ev.runE_cons, Ev.runE_nil]); conv => whnf) | (with_reducible refine hQ _ ?_; clear hQ Q) | ((refine Ev.sf ?_); intro F hF; conv => whnf) | (with_reducible refine hF _ ?_; clear hF F) | ((with_reducible refine Ev.go_k (fun c' => ?_)); conv => whnf) | ((with_reducible refine Ev.dr0 ?_); (first | refine Ev.dr 7 [] [0, 1, 2, 3, 4, 5, 6, 7, 8, 9, 10] ?_); intro Q hQ; (simp only [Ev.runE_cons, Ev.runE_nil]); conv => whnf) | ((first | refine Ev.el_map0 ?_ (fun hi => ?_) | refine Ev.el_mapN ?_ (fun hi => ?_)); rotate_left; conv => whnf) | ((with_reducible refine Ev.sd0 ?_); exact Ev.sd) | fail)
      have : W = [] := List.eq_nil_of_length_eq_zero (by omega)
      subst this
      refine ⟨LeR.agg3 (LeR.refl _) (LeR.refl _) (LeR.nil 1), rfl⟩
    · repeat' (first | ((with_reducible refine Ev.br0 ?_); (first | refine Ev.brp ?_ | refine Ev.brn ?_); conv => whnf) | ((with_reducible refine Ev.c0 ?_); first | refine Ev.cp ?_ | refine Ev.cn ?_) | (with_reducible refine Ev.c_neg hi2 ?_) | ((refine Ev.sw ?_); conv => whnf) | refine Ev.sn ?_ | ((with_reducible refine Ev.chk_k ?_ ?_); rotate_left; exact Ev.bt; conv => whnf) | ((with_reducible (refine Ev.RI.run ?_; constructor)) <;> intro _) | ((refine Ev.sg ?_); conv => whnf) | ((with_reducible refine Ev.sided ?_ ?_); conv => whnf) | ((with_reducible refine Ev.kr (hs := []) (fun Q hQ => ?_)); (simp only [Ev.runE_cons, Ev.runE_nil]); conv => whnf) | (with_reducible refine hQ _ ?_; clear hQ Q) | ((refine Ev.sf ?_); intro F hF; conv => whnf) | (with_reducible refine hF _ ?_; clear hF F) | ((with_reducible refine Ev.go_k (fun c' => ?_)); conv => whnf) | ((with_reducible refine Ev.dr0 ?_); (first | refine Ev.dr 7 [] [0, 1, 2, 3, 4, 5, 6, 7, 8, 9, 10] ?_); intro Q hQ; (simp only [Ev.runE_cons, Ev.runE_nil]); conv => whnf) | ((first | refine Ev.el_map0 ?_ (fun hi => ?_) | refine Ev.el_mapN ?_ (fun hi => ?_)); rotate_left; conv => whnf) | ((with_reducible refine Ev.sd0 ?_); exact Ev.sd) | fail)
      have hiW : i = W.length := by omega
      subst hiW
      have e1 : List.take (W.length + 1) (List.drop 0 (ints ((List.range (W.length + 1)).map fun (i : Nat) => (i : Int)))) = ints ((List.range (W.length + 1)).map fun (i : Nat) => (i : Int)) := by rw [List.drop_zero, List.take_of_length_le (by omega)]
      have e2 : List.take W.length (List.drop 0 (rowsA ((W.take W.length).map norm))) = rowsA (W.map norm) := by rw [List.drop_zero, List.take_length, List.take_of_length_le (by simp)]
      refine ⟨?_, rfl⟩
      show LeR (AV.agg [_, .lst 1 (List.take (W.length + 1) (List.drop 0 (ints _))), .lst 1 (List.take W.length (List.drop 0 (rowsA _)))]) _
      rw [e1, e2]; exact LeR.refl _
theorem fit16_call (t : ByteArray) (l : List (List Sp)) : CallW env 23 [.v (.string t), .lst 1 (rowsA l)] (fun r hs => r = lgA (fitL' t l) ∧ hs = []) :=
  (fit16_core t l).res (fun r hs h => ⟨_, ⟨rfl, h.2⟩, h.1⟩)
end Go.Proofs.YtadlnaljicikfaaDoor.Abs
namespace Go.Proofs.YtadlnaljicikfaaDoor.Abs
open Go
inductive Mk where
  | put (c : Nat)
  | keep
  | drop
def inM : List Mk → Nat
  | [] => 0
  | .put _ :: l => inM l
  | .keep :: l => inM l + 1
  | .drop :: l => inM l + 1
def outM : List Mk → Nat
  | [] => 0
  | .put _ :: l => outM l + 1
  | .keep :: l => outM l + 1
  | .drop :: l => outM l
def putM (w : Nat → Nat) : List Mk → Nat
  | [] => 0
  | .put c :: l => putM w l + w c
  | .keep :: l => putM w l
  | .drop :: l => putM w l
theorem inM_app : ∀ (a b : List Mk), inM (a ++ b) = inM a + inM b
  | [], b => by simp [inM]
  | .put c :: a, b => by rw [List.cons_append]; simp only [inM]; exact inM_app a b
  | .keep :: a, b => by rw [List.cons_append]; simp only [inM]; rw [inM_app a b]; omega
  | .drop :: a, b => by rw [List.cons_append]; simp only [inM]; rw [inM_app a b]; omega
theorem outM_app : ∀ (a b : List Mk), outM (a ++ b) = outM a + outM b
  | [], b => by simp [outM]
  | .put c :: a, b => by rw [List.cons_append]; simp only [outM]; rw [outM_app a b]; omega
  | .keep :: a, b => by rw [List.cons_append]; simp only [outM]; rw [outM_app a b]; omega
  | .drop :: a, b => by rw [List.cons_append]; simp only [outM]; exact outM_app a b
def cmpG (k : Bool) (f : List Mk → List Mk) : List Mk → List Mk
  | .drop :: x => .drop :: cmpG k f x
  | .put c :: x => if k then .put c :: f x else f x
  | .keep :: x => (if k then .keep else .drop) :: f x
  | [] => []
def cmpM : List Mk → List Mk → List Mk
  | [], x => x
  | .put c :: y, x => .put c :: cmpM y x
  | .keep :: y, x => cmpG true (cmpM y) x
  | .drop :: y, x => cmpG false (cmpM y) x
def ovrG (k : Bool) (f : List Mk → List Mk) : List Mk → List Mk
  | .put c :: a => .put c :: ovrG k f a
  | .keep :: a => if k then .keep :: f a else f a
  | .drop :: a => if k then .drop :: f a else f a
  | [] => []
def ovrM : List Mk → List Mk → List Mk
  | [], a => a
  | .put _ :: s, a => .keep :: ovrM s a
  | .keep :: s, a => ovrG true (ovrM s) a
  | .drop :: s, a => ovrG false (ovrM s) a
theorem cmpM_size (w : Nat → Nat) : ∀ (y x : List Mk), outM x = inM y → inM (cmpM y x) = inM x ∧ outM (cmpM y x) = outM y ∧ putM w (cmpM y x) ≤ putM w x + putM w y
  | [], x, h => ⟨rfl, h, by simp only [cmpM, putM]; omega⟩
  | .put c :: y, x, h => by
    have := cmpM_size w y x h
    simp only [cmpM, inM, outM, putM]; omega
  | .keep :: y, x, h => by
    simp only [cmpM]
    induction x with
    | nil => simp [outM, inM] at h
    | cons a x ih =>
      cases a with
      | drop => have := ih h; simp only [cmpG, inM, outM, putM] at this ⊢; omega
      | put c => have := cmpM_size w y x (by simp only [outM, inM] at h; omega); simp only [cmpG, if_true, inM, outM, putM]; omega
      | keep => have := cmpM_size w y x (by simp only [outM, inM] at h; omega); simp only [cmpG, if_true, inM, outM, putM]; omega
  | .drop :: y, x, h => by
    simp only [cmpM]
    induction x with
    | nil => simp [outM, inM] at h
    | cons a x ih =>
      cases a with
      | drop => have := ih h; simp only [cmpG, inM, outM, putM] at this ⊢; omega
      | put c => have := cmpM_size w y x (by simp only [outM, inM] at h; omega); simp only [cmpG, Bool.false_eq_true, if_false, inM, outM, putM]; omega
      | keep => have := cmpM_size w y x (by simp only [outM, inM] at h; omega); simp only [cmpG, Bool.false_eq_true, if_false, inM, outM, putM]; omega
theorem ovrM_size (w : Nat → Nat) : ∀ (s a : List Mk), inM a = inM s → inM (ovrM s a) = outM s ∧ putM w (ovrM s a) = putM w a ∧ outM (ovrM s a) + inM a ≤ outM a + outM s + inM a
  | [], a, h => ⟨h, rfl, by simp only [ovrM, outM]; omega⟩
  | .put c :: s, a, h => by
    have := ovrM_size w s a h
    simp only [ovrM, inM, outM, putM]; omega
  | .keep :: s, a, h => by
    simp only [ovrM]
    induction a with
    | nil => simp [inM] at h
    | cons b a ih =>
      cases b with
      | put c => have := ih h; simp only [ovrG, inM, outM, putM] at this ⊢; omega
      | keep => have := ovrM_size w s a (by simp only [inM] at h; omega); simp only [ovrG, if_true, inM, outM, putM]; omega
      | drop => have := ovrM_size w s a (by simp only [inM] at h; omega); simp only [ovrG, if_true, inM, outM, putM]; omega
  | .drop :: s, a, h => by
    simp only [ovrM]
    induction a with
    | nil => simp [inM] at h
    | cons b a ih =>
      cases b with
      | put c => have := ih h; simp only [ovrG, inM, outM, putM] at this ⊢; omega
      | keep => have := ovrM_size w s a (by simp only [inM] at h; omega); simp only [ovrG, Bool.false_eq_true, if_false, inM, outM, putM]; omega
      | drop => have := ovrM_size w s a (by simp only [inM] at h; omega); simp only [ovrG, Bool.false_eq_true, if_false, inM, outM, putM]; omega
def keepM (n : Nat) : List Mk := List.replicate n .keep
theorem keepM_in : ∀ n, inM (keepM n) = n
  | 0 => rfl
  | n + 1 => by simp only [keepM, List.replicate_succ, inM]; rw [← keepM, keepM_in n]
theorem keepM_out : ∀ n, outM (keepM n) = n
  | 0 => rfl
  | n + 1 => by simp only [keepM, List.replicate_succ, outM]; rw [← keepM, keepM_out n]
end Go.Proofs.YtadlnaljicikfaaDoor.Abs
