/- A part of the proof: a calculus over values, and contracts of functions. No condition. -/
import Derived.Test.YtadlnaljicikfaaDoorZFileOdd6
import Derived.Lib.TrimUEq
import Derived.Lib.QuoteLoop
namespace Go.Proofs.YtadlnaljicikfaaDoor.Abs
open Go
set_option maxRecDepth 100000
set_option linter.unusedSimpArgs false
set_option linter.unusedVariables false
attribute [local irreducible] Ev.Unr Ev.Go' Ev.bytK Ev.runK Ev.FinL Ev.brC Ev.Side Ev.Wp Ev.Again Ev.To Ev.Fin
open Go.Lib Go.RowKit
theorem comp119 : ∀ c, Tryd.f119.body = some c → comp c = (.seq (.reg 0 [I.n 0 4 (I.si 0)]) (.seq (.reg 1 [I.n 0 5 (I.si 0)]) (.seq (.seq (.reg 2 [I.n 0 8 (I.mv 0), I.n 1 9 (I.ln 8 140), I.n 2 10 (.move (.const (Value.int .i64 0)))]) (.block 0 (.loop (.seq (.reg 3 [I.n 0 11 (I.bo .lss 3 10 9 3)]) (.seq (.cond (.tmp 11) .skip (.exit 0)) (.seq (.block 1 (.seq (.reg 4 [I.n 0 12 (I.ia 140 8 10), I.n 1 13 (I.ld 35 12), I.n 2 7 (.alloc 35), I.u 3 (I.st 35 7 13)]) (.reg 5 [I.n 0 14 (I.mv 5), I.n 1 15 (I.mv 1), I.n 2 16 (I.ld 35 7), I.n 3 17 (.call { callee := .value (.tmp 15), args := #[.tmp 16], argTypes := #[35] }), I.n 4 18 (I.bo .add 3 14 17 3), I.n 5 5 (I.sa 18)]))) (.reg 6 [I.n 0 19 (I.bc .add 3 10 1 3), I.n 1 10 (I.mv 19)]))))))) (.seq (.reg 7 [I.n 0 20 (I.mv 5), I.n 1 4 (I.sa 20)]) .ret)))) := by
  intro c h
  have : c = Tryd.f119.body.get rfl := by rw [← Option.some_inj, ← h]; rfl
  rw [this]; rfl
theorem comp74 : ∀ c, Tryd.f74.body = some c → comp c = (.seq (.reg 0 [I.n 0 2 (I.si 0)]) (.seq (.reg 1 [I.n 0 3 (.assign (.func 119))]) (.seq (.reg 2 [I.n 0 4 (I.mv 3), I.n 1 5 (I.mv 0), I.n 2 6 (.call { callee := .value (.tmp 4), args := #[.tmp 5, .func 120], argTypes := #[140, 113] }), I.n 3 2 (I.sa 6)]) .ret))) := by
  intro c h
  have : c = Tryd.f74.body.get rfl := by rw [← Option.some_inj, ← h]; rfl
  rw [this]; rfl
theorem comp73 : ∀ c, Tryd.f73.body = some c → comp c = (.seq (.reg 0 [I.n 0 2 (I.si 0)]) (.seq (.reg 1 [I.n 0 3 (I.mv 0), I.n 1 4 (.call { callee := .value (.func 119), args := #[.tmp 3, .func 82], argTypes := #[140, 113] }), I.n 2 2 (I.sa 4)]) .ret)) := by
  intro c h
  have : c = Tryd.f73.body.get rfl := by rw [← Option.some_inj, ← h]; rfl
  rw [this]; rfl
theorem sum_call (f : Sp → Int) (g : FuncId) (l : List Sp) (hl : l.length ≤ 1000000000) (hg : ∀ s ∈ l, CallW env g [.agg (spC s)] (fun r hs => r = .v (.int .i64 (f s)) ∧ hs = [])) :
    CallW env 119 [.lst 3 (sps l), .clo (.func g) [] []] (fun r hs => r = .v (.int .i64 (sumW f l)) ∧ hs = []) := by
  refine Ev.fn [0, 1, 4, 5, 7, 8, 9, 10, 11] 0 [.tmp 4] Tryd.func119 (comp119 _ rfl) ?_
  repeat' (first | ((refine Ev.sw ?_); conv => whnf) | refine Ev.sn ?_ | ((with_reducible refine Ev.chk_k ?_ ?_); rotate_left; exact Ev.bt; conv => whnf) | ((with_reducible (refine Ev.RI.run ?_; constructor)) <;> intro _) | ((with_reducible refine Ev.sided ?_ ?_); conv => whnf) | ((with_reducible refine Ev.kr (hs := []) (fun Q hQ => ?_)); (simp only [Ev.runE_cons, Ev.runE_nil]); conv => whnf) | (with_reducible refine hQ _ ?_; clear hQ Q) | ((refine Ev.sf ?_); intro F hF; conv => whnf) | (with_reducible refine hF _ ?_; clear hF F) | ((with_reducible refine Ev.go_k (fun c' => ?_)); conv => whnf) | (refine Ev.Side.of ?_; exact Nat.le_of_ble_eq_true rfl))
  refine Ev.loop (fun k s => ∃ i c : Nat, s = ⟨[(1, .clo (.func g) [] []), (4, .v (.int .i64 0)), (5, .v (.int .i64 (sumW f (l.take i)))), (8, .lst 3 (sps l)), (9, .v (.int .i64 l.length)), (10, .v (.int .i64 i))], [], c⟩ ∧ k + i = l.length) ?_ ?_
  · exact Ev.to ⟨[(1, _), (4, _), (5, .v (.int .i64 0)), (8, _), (9, .v (.int .i64 l.length)), (10, .v (.int .i64 ((0 : Nat) : Int)))], [], 0⟩ ⟨rfl, rfl, rfl, rfl, Ev.slot_int rfl (by simp [sps]), rfl, trivial⟩ trivial (Nat.le_refl _) ⟨l.length, 0, 0, rfl, by omega⟩
  rintro k s1 ⟨i, c, rfl, hk⟩
  repeat' (first | ((refine Ev.sw ?_); conv => whnf) | refine Ev.sn ?_ | ((with_reducible refine Ev.chk_k ?_ ?_); rotate_left; exact Ev.bt; conv => whnf) | ((with_reducible (refine Ev.RI.run ?_; constructor)) <;> intro _) | ((with_reducible refine Ev.sided ?_ ?_); conv => whnf) | ((with_reducible refine Ev.kr (hs := []) (fun Q hQ => ?_)); (simp only [Ev.runE_cons, Ev.runE_nil]); conv => whnf) | (with_reducible refine hQ _ ?_; clear hQ Q) | ((refine Ev.sf ?_); intro F hF; conv => whnf) | (with_reducible refine hF _ ?_; clear hF F) | ((with_reducible refine Ev.go_k (fun c' => ?_)); conv => whnf) | ((refine Ev.el_map ?_ (fun hi => ?_); rotate_left); conv => whnf) | ((refine Ev.call_det (hg _ (List.getElem_mem hi)) rfl rfl ?_); conv => whnf) | (refine Ev.Side.of ?_; exact Nat.le_of_ble_eq_true rfl))
  · have hi' : i < l.length := by simpa using hi
    rw [spC_at hi hi']
    refine Ev.again (k - 1) ⟨[(1, _), (4, _), (5, .v (.int .i64 (sumW f (l.take (i + 1))))), (8, _), (9, _), (10, .v (.int .i64 ((i + 1 : Nat) : Int)))], [], c + 8⟩ (by omega) ⟨rfl, rfl, Ev.slot_int rfl (by rw [sumW_succ _ _ hi']), rfl, rfl, Ev.slot_int rfl (by rw [Ev.wrap64]; omega), trivial⟩ trivial (Nat.le_refl _) ⟨i + 1, c + 8, rfl, by omega⟩
  · refine Ev.Side.of ?_; rename_i h; omega
  · refine Ev.Side.of ?_; rename_i h; simp only [sps, List.length_map]; omega
  · rename_i h
    have ei : i = l.length := by omega
    subst ei
    rw [List.take_of_length_le (Nat.le_refl _)]
    exact ⟨rfl, rfl⟩
theorem opIn_call (l : List Sp) (hl : l.length ≤ 1000000000) : CallW env 74 [.lst 3 (sps l)] (fun r hs => r = .v (.int .i64 (sumW (fun s => inF s.k s.n) l)) ∧ hs = []) := by
  refine Ev.fn [0, 2, 3] 0 [.tmp 2] Tryd.func74 (comp74 _ rfl) ?_
  repeat' (first | ((refine Ev.sw ?_); conv => whnf) | refine Ev.sn ?_ | ((with_reducible refine Ev.chk_k ?_ ?_); rotate_left; exact Ev.bt; conv => whnf) | ((with_reducible (refine Ev.RI.run ?_; constructor)) <;> intro _) | ((with_reducible refine Ev.sided ?_ ?_); conv => whnf) | ((with_reducible refine Ev.kr (hs := []) (fun Q hQ => ?_)); (simp only [Ev.runE_cons, Ev.runE_nil]); conv => whnf) | (with_reducible refine hQ _ ?_; clear hQ Q) | ((refine Ev.sf ?_); intro F hF; conv => whnf) | (with_reducible refine hF _ ?_; clear hF F) | ((with_reducible refine Ev.go_k (fun c' => ?_)); conv => whnf) | ((refine Ev.call_det (sum_call (fun s => inF s.k s.n) 120 l hl (fun s _ => in_call _ _ _)) rfl rfl ?_); conv => whnf) | (refine Ev.Side.of ?_; exact Nat.le_of_ble_eq_true rfl))
  all_goals exact ⟨rfl, rfl⟩
theorem opOut_call (l : List Sp) (hl : l.length ≤ 1000000000) (hs : Small l) : CallW env 73 [.lst 3 (sps l)] (fun r hs => r = .v (.int .i64 (sumW (fun s => outF s.k s.n s.t) l)) ∧ hs = []) := by
  refine Ev.fn [0, 2] 0 [.tmp 2] Tryd.func73 (comp73 _ rfl) ?_
  repeat' (first | ((refine Ev.sw ?_); conv => whnf) | refine Ev.sn ?_ | ((with_reducible refine Ev.chk_k ?_ ?_); rotate_left; exact Ev.bt; conv => whnf) | ((with_reducible (refine Ev.RI.run ?_; constructor)) <;> intro _) | ((with_reducible refine Ev.sided ?_ ?_); conv => whnf) | ((with_reducible refine Ev.kr (hs := []) (fun Q hQ => ?_)); (simp only [Ev.runE_cons, Ev.runE_nil]); conv => whnf) | (with_reducible refine hQ _ ?_; clear hQ Q) | ((refine Ev.sf ?_); intro F hF; conv => whnf) | (with_reducible refine hF _ ?_; clear hF F) | ((with_reducible refine Ev.go_k (fun c' => ?_)); conv => whnf) | ((refine Ev.call_det (sum_call (fun s => outF s.k s.n s.t) 82 l hl (fun s h => out_call _ _ _ (hs s h))) rfl rfl ?_); conv => whnf) | (refine Ev.Side.of ?_; exact Nat.le_of_ble_eq_true rfl))
  all_goals exact ⟨rfl, rfl⟩
end Go.Proofs.YtadlnaljicikfaaDoor.Abs

namespace Go.Proofs.YtadlnaljicikfaaDoor.Abs
open Go
set_option maxRecDepth 100000
set_option linter.unusedSimpArgs false
set_option linter.unusedVariables false
attribute [local irreducible] Ev.Unr Ev.Go' Ev.bytK Ev.runK Ev.FinL Ev.brC Ev.Side Ev.Wp Ev.Again Ev.To Ev.Fin
open Go.Lib Go.RowKit
def firstE (f : Sp → Int) : List Sp → Int
  | [] => 0
  | s :: l => if f s = 0 then firstE f l else f s
theorem firstE_append (f : Sp → Int) : ∀ (a b : List Sp), firstE f (a ++ b) = if firstE f a = 0 then firstE f b else firstE f a
  | [], b => by simp [firstE]
  | s :: a, b => by
    simp only [List.cons_append, firstE, firstE_append f a b]
    by_cases h : f s = 0 <;> simp [h]
theorem firstE_ok (f : Sp → Int) (l : List Sp) {i : Nat} (hi : i < l.length) (h : firstE f (l.take i) = 0) (h0 : f l[i] = 0) : firstE f (l.take (i + 1)) = 0 := by
  rw [List.take_succ_eq_append_getElem hi, firstE_append, h]; simp [firstE, h0]
theorem firstE_at (f : Sp → Int) (l : List Sp) {i : Nat} (hi : i < l.length) (h : firstE f (l.take i) = 0) (h0 : ¬ f l[i] = 0) : firstE f l = f l[i] := by
  have e : l = l.take i ++ l[i] :: l.drop (i + 1) := by rw [List.getElem_cons_drop, List.take_append_drop]
  have := firstE_append f (l.take i) (l[i] :: l.drop (i + 1))
  rw [← e, h] at this
  rw [this]; simp [firstE, h0]
def mayS (s : Sp) : Int := mayF s.k s.n s.t
def inW (l : List Sp) : Int := sumW (fun s => inF s.k s.n) l
def outW (l : List Sp) : Int := sumW (fun s => outF s.k s.n s.t) l
def opMayF (l : List Sp) : Int := if firstE mayS l = 0 then (if 1048576 < inW l then 4 else 0) else firstE mayS l
def nilA : AV := .v (.slice none 0 0)
theorem comp72 : ∀ c, Tryd.f72.body = some c → comp c = (.seq (.reg 0 [I.n 0 2 (I.si 0)]) (.seq (.seq (.reg 1 [I.n 0 6 (I.mv 0), I.n 1 7 (I.ln 6 23), I.n 2 8 (.move (.const (Value.int .i64 0)))]) (.block 0 (.loop (.seq (.reg 2 [I.n 0 9 (I.bo .lss 3 8 7 3)]) (.seq (.cond (.tmp 9) .skip (.exit 0)) (.seq (.block 1 (.seq (.reg 3 [I.n 0 10 (I.ia 23 6 8), I.n 1 11 (I.ld 35 10), I.n 2 4 (.alloc 35), I.u 3 (I.st 35 4 11)]) (.seq (.reg 4 [I.n 0 12 (I.ld 35 4), I.n 1 13 (I.c1 118 12 35), I.n 2 5 (I.sa 13)]) (.seq (.reg 5 [I.n 0 14 (I.mv 5), I.n 1 15 (I.bc .neq 30 14 0 30)]) (.cond (.tmp 15) (.seq (.reg 6 [I.n 0 16 (I.mv 5), I.n 1 2 (I.sa 16)]) .ret) .skip))))) (.reg 7 [I.n 0 17 (I.bc .add 3 8 1 3), I.n 1 8 (I.mv 17)]))))))) (.seq (.seq (.reg 8 [I.n 0 18 (I.mv 0), I.n 1 19 (I.c1 74 18 23), I.n 2 20 (I.bc .gtr 3 19 1048576 3)]) (.cond (.tmp 20) (.seq (.reg 9 [I.n 0 2 (I.si 4)]) .ret) .skip)) (.seq (.reg 10 [I.n 0 2 (I.si 0)]) .ret)))) := by
  intro c h
  have : c = Tryd.f72.body.get rfl := by rw [← Option.some_inj, ← h]; rfl
  rw [this]; rfl
theorem opMay_call (l : List Sp) (hl : l.length ≤ 1000000000) (hs : Small l) : CallW env 72 [.lst 3 (sps l)] (fun r hs => r = .v (.int .i64 (opMayF l)) ∧ hs = []) := by
  have hsl := sps_len l
  refine Ev.fn [0, 2, 4, 5, 6, 7, 8, 9, 15, 20] 0 [.tmp 2] Tryd.func72 (comp72 _ rfl) ?_
  repeat' (first | ((refine Ev.sw ?_); conv => whnf) | refine Ev.sn ?_ | ((with_reducible refine Ev.chk_k ?_ ?_); rotate_left; exact Ev.bt; conv => whnf) | ((with_reducible (refine Ev.RI.run ?_; constructor)) <;> intro _) | ((refine Ev.sg ?_); conv => whnf) | ((with_reducible refine Ev.sided ?_ ?_); conv => whnf) | ((with_reducible refine Ev.kr (hs := []) (fun Q hQ => ?_)); (simp only [Ev.runE_cons, Ev.runE_nil]); conv => whnf) | (with_reducible refine hQ _ ?_; clear hQ Q) | ((refine Ev.sf ?_); intro F hF; conv => whnf) | (with_reducible refine hF _ ?_; clear hF F) | ((with_reducible refine Ev.go_k (fun c' => ?_)); conv => whnf) | ((first | refine Ev.el_map0 ?_ (fun hi => ?_) | refine Ev.el_mapN ?_ (fun hi => ?_)); rotate_left; conv => whnf) | ((with_reducible refine Ev.sd0 ?_); exact Ev.sd) | fail)
  refine Ev.loop (fun k s => ∃ i c : Nat, s = ⟨[(0, .lst 3 (sps l)), (2, .v (.int .i64 0)), (6, .lst 3 (sps l)), (7, .v (.int .i64 l.length)), (8, .v (.int .i64 i))], [], c⟩ ∧ k + i = l.length ∧ firstE mayS (l.take i) = 0) ?_ ?_
  · exact Ev.to ⟨[(0, _), (2, _), (6, .lst 3 (sps l)), (7, .v (.int .i64 l.length)), (8, .v (.int .i64 ((0 : Nat) : Int)))], [], 0⟩ ⟨rfl, rfl, rfl, Ev.slot_int rfl (by simp [sps]), rfl, trivial⟩ trivial (Nat.le_refl _) ⟨l.length, 0, 0, rfl, by omega, rfl⟩
  rintro k s1 ⟨i, c, rfl, hk, hf⟩
  repeat' (first | ((refine Ev.sw ?_); conv => whnf) | refine Ev.sn ?_ | ((with_reducible refine Ev.chk_k ?_ ?_); rotate_left; exact Ev.bt; conv => whnf) | ((with_reducible (refine Ev.RI.run ?_; constructor)) <;> intro _) | ((refine Ev.sg ?_); conv => whnf) | ((with_reducible refine Ev.sided ?_ ?_); conv => whnf) | ((with_reducible refine Ev.kr (hs := []) (fun Q hQ => ?_)); (simp only [Ev.runE_cons, Ev.runE_nil]); conv => whnf) | (with_reducible refine hQ _ ?_; clear hQ Q) | ((refine Ev.sf ?_); intro F hF; conv => whnf) | (with_reducible refine hF _ ?_; clear hF F) | ((with_reducible refine Ev.go_k (fun c' => ?_)); conv => whnf) | ((refine Ev.call_det (may_call _ _ _ (hs _ (List.getElem_mem hi))) rfl rfl ?_); conv => whnf) | ((refine Ev.call_det (opIn_call l hl) rfl rfl ?_); conv => whnf) | ((first | refine Ev.el_map0 ?_ (fun hi => ?_) | refine Ev.el_mapN ?_ (fun hi => ?_)); rotate_left; conv => whnf) | ((with_reducible refine Ev.sd0 ?_); exact Ev.sd) | fail)
  · rename_i heq
    exact Ev.again (k - 1) ⟨[(0, _), (2, _), (6, _), (7, _), (8, .v (.int .i64 ((i + 1 : Nat) : Int)))], [], c + 8⟩ (by omega) ⟨rfl, rfl, rfl, rfl, Ev.slot_int rfl (by rw [Ev.wrap64]; omega), trivial⟩ trivial (Nat.le_refl _) ⟨i + 1, c + 8, rfl, by omega, firstE_ok mayS l hi hf heq⟩
  · rename_i hne
    exact ⟨congrArg (fun b => AV.v (Value.int .i64 b)) (by unfold opMayF; rw [firstE_at mayS l hi hf hne]; exact (if_neg hne).symm), rfl⟩
  all_goals
    have ei : i = l.length := by omega
    subst ei
    rw [List.take_of_length_le (Nat.le_refl _)] at hf
    refine ⟨congrArg (fun b => AV.v (Value.int .i64 b)) ?_, rfl⟩
    simp [opMayF, hf, inW, *]
end Go.Proofs.YtadlnaljicikfaaDoor.Abs

namespace Go.Proofs.YtadlnaljicikfaaDoor.Abs
open Go
set_option maxRecDepth 100000
set_option linter.unusedSimpArgs false
set_option linter.unusedVariables false
attribute [local irreducible] Ev.Unr Ev.Go' Ev.bytK Ev.runK Ev.FinL Ev.brC Ev.Side Ev.Wp Ev.Again Ev.To Ev.Fin
open Go.Lib Go.RowKit
theorem comp34 : ∀ c, Tryd.f34.body = some c → comp c = (.seq (.reg 0 [I.n 0 4 (I.sb false)]) (.seq (.seq (.reg 1 [I.n 0 6 (I.mv 0), I.n 1 7 (I.ln 6 23), I.n 2 8 (I.mv 1), I.n 3 9 (I.ln 8 23), I.n 4 10 (I.bo .neq 3 7 9 3)]) (.cond (.tmp 10) (.seq (.reg 2 [I.n 0 4 (I.sb false)]) .ret) .skip)) (.seq (.seq (.reg 3 [I.n 0 5 (I.si 0)]) (.block 0 (.loop (.seq (.seq (.reg 4 [I.n 0 11 (I.mv 5), I.n 1 12 (I.mv 0), I.n 2 13 (I.ln 12 23), I.n 3 14 (I.bo .lss 3 11 13 3)]) (.cond (.tmp 14) .skip (.exit 0))) (.seq (.block 1 (.seq (.draw 6 [I.n 0 17 (I.mv 0), I.n 1 18 (I.mv 5), I.n 2 19 (I.ia 23 17 18), I.n 3 20 (I.ld 35 19), I.n 4 21 (I.mv 1), I.n 5 22 (I.mv 5), I.n 6 23 (I.ia 23 21 22), I.n 7 24 (I.ld 35 23), I.n 8 25 (I.bo .neq 35 20 24 35)] [[], [], [0, 1], [2], [], [], [4, 5], [6], [3, 7]]) (.cond (.tmp 25) (.seq (.reg 7 [I.n 0 4 (I.sb false)]) .ret) .skip))) (.reg 5 [I.n 0 15 (I.mv 5), I.n 1 16 (I.bc .add 3 15 1 3), I.n 2 5 (I.sa 16)])))))) (.seq (.reg 8 [I.n 0 4 (I.sb true)]) .ret)))) := by
  intro c h
  have : c = Tryd.f34.body.get rfl := by rw [← Option.some_inj, ← h]; rfl
  rw [this]; rfl
instance (a b : Sp) : Decidable (a = b) := decidable_of_iff (a.k = b.k ∧ a.n = b.n ∧ a.t = b.t) (by cases a; cases b; simp)
theorem same_call (l m : List Sp) (hl : l.length ≤ 1000000000) : CallW env 34 [.lst 3 (sps l), .lst 3 (sps m)] (fun r hs => r = .v (.bool (decide (l = m))) ∧ hs = []) := by
  have hsl := sps_len l
  have hsm := sps_len m
  refine Ev.fn [0, 1, 4, 5, 10, 14, 25] 0 [.tmp 4] Tryd.func34 (comp34 _ rfl) ?_
  repeat' (first | ((refine Ev.sw ?_); conv => whnf) | refine Ev.sn ?_ | ((with_reducible refine Ev.chk_k ?_ ?_); rotate_left; exact Ev.bt; conv => whnf) | ((with_reducible (refine Ev.RI.run ?_; constructor)) <;> intro _) | ((refine Ev.sg ?_); conv => whnf) | ((with_reducible refine Ev.sided ?_ ?_); conv => whnf) | ((with_reducible refine Ev.kr (hs := []) (fun Q hQ => ?_)); (simp only [Ev.runE_cons, Ev.runE_nil]); conv => whnf) | (with_reducible refine hQ _ ?_; clear hQ Q) | ((refine Ev.sf ?_); intro F hF; conv => whnf) | (with_reducible refine hF _ ?_; clear hF F) | ((with_reducible refine Ev.go_k (fun c' => ?_)); conv => whnf) | ((with_reducible refine Ev.dr0 ?_); (first | refine Ev.dr 6 [] [0, 1, 2, 3, 4, 5, 6, 7, 8] ?_); intro Q hQ; (simp only [Ev.runE_cons, Ev.runE_nil]); conv => whnf) | ((first | refine Ev.el_map0 ?_ (fun hi => ?_) | refine Ev.el_mapN ?_ (fun hi => ?_)); rotate_left; conv => whnf) | ((with_reducible refine Ev.sd0 ?_); exact Ev.sd) | fail)
  rotate_left
  · exact ⟨congrArg (fun b => AV.v (Value.bool b)) (decide_eq_false (by rintro rfl; omega)).symm, rfl⟩
  have hlen : l.length = m.length := by omega
  refine Ev.loop (fun k s => ∃ i : Nat, s = ⟨[(0, .lst 3 (sps l)), (1, .lst 3 (sps m)), (4, .v (.bool false)), (5, .v (.int .i64 i))], [], 0⟩ ∧ k + i = l.length ∧ l.take i = m.take i) ?_ ?_
  · exact Ev.to ⟨[(0, _), (1, _), (4, _), (5, .v (.int .i64 ((0 : Nat) : Int)))], [], 0⟩ ⟨rfl, rfl, rfl, rfl, trivial⟩ trivial (Nat.le_refl _) ⟨l.length, 0, rfl, by omega, rfl⟩
  rintro k s1 ⟨i, rfl, hk, hf⟩
  repeat' (first | ((refine Ev.sw ?_); conv => whnf) | refine Ev.sn ?_ | ((with_reducible refine Ev.chk_k ?_ ?_); rotate_left; exact Ev.bt; conv => whnf) | ((with_reducible (refine Ev.RI.run ?_; constructor)) <;> intro _) | ((refine Ev.sg ?_); conv => whnf) | ((with_reducible refine Ev.sided ?_ ?_); conv => whnf) | ((with_reducible refine Ev.kr (hs := []) (fun Q hQ => ?_)); (simp only [Ev.runE_cons, Ev.runE_nil]); conv => whnf) | (with_reducible refine hQ _ ?_; clear hQ Q) | ((refine Ev.sf ?_); intro F hF; conv => whnf) | (with_reducible refine hF _ ?_; clear hF F) | ((with_reducible refine Ev.go_k (fun c' => ?_)); conv => whnf) | ((with_reducible refine Ev.dr0 ?_); (first | refine Ev.dr 6 [] [0, 1, 2, 3, 4, 5, 6, 7, 8] ?_); intro Q hQ; (simp only [Ev.runE_cons, Ev.runE_nil]); conv => whnf) | ((first | refine Ev.el_map0 ?_ (fun hi => ?_) | refine Ev.el_mapN ?_ (fun hi => ?_)); rotate_left; conv => whnf) | ((with_reducible refine Ev.sd0 ?_); exact Ev.sd) | fail)
  · rename_i heq
    have hm' : i < m.length := by omega
    exact Ev.again (k - 1) ⟨[(0, _), (1, _), (4, _), (5, .v (.int .i64 ((i + 1 : Nat) : Int)))], [], 0⟩ (by omega) ⟨rfl, rfl, rfl, Ev.slot_int rfl (by rw [Ev.wrap64]; omega), trivial⟩ trivial (Nat.le_refl _) ⟨i + 1, rfl, by omega, by
      rw [List.take_succ_eq_append_getElem (by omega), List.take_succ_eq_append_getElem hm', hf]
      congr 2
      obtain ⟨e1, e2, e3⟩ := heq
      cases h1 : l[i]; cases h2 : m[i]; simp_all⟩
  · rename_i hne
    exact ⟨congrArg (fun b => AV.v (Value.bool b)) (decide_eq_false (by rintro rfl; simp at hne)).symm, rfl⟩
  · have : i = l.length := by omega
    subst this
    rw [List.take_of_length_le (Nat.le_refl _), List.take_of_length_le (by omega)] at hf
    exact ⟨congrArg (fun b => AV.v (Value.bool b)) (decide_eq_true hf).symm, rfl⟩
end Go.Proofs.YtadlnaljicikfaaDoor.Abs

namespace Go.Proofs.YtadlnaljicikfaaDoor.Abs
open Go
set_option maxRecDepth 100000
set_option linter.unusedSimpArgs false
set_option linter.unusedVariables false
attribute [local irreducible] Ev.Unr Ev.Go' Ev.bytK Ev.runK Ev.FinL Ev.brC Ev.Side Ev.Wp Ev.Again Ev.To Ev.Fin
open Go.Lib Go.RowKit
theorem comp31 : ∀ c, Tryd.f31.body = some c → comp c = (.seq (.reg 0 [I.n 0 4 I.sn]) (.seq (.reg 1 [I.n 0 8 (.buildSlice 23 0 #[]), I.n 1 5 (I.sa 8)]) (.seq (.seq (.reg 2 [I.n 0 6 (I.si 0)]) (.block 0 (.loop (.seq (.seq (.reg 3 [I.n 0 9 (I.mv 6), I.n 1 10 (I.mv 0), I.n 2 11 (I.ln 10 23), I.n 3 12 (I.bo .lss 3 9 11 3), I.n 4 13 (I.mv 12), I.w 5 14 (I.mv 6) 13 true, I.w 6 15 (I.bc .lss 3 14 12 3) 13 true, I.n 7 16 (I.pc 13 15 false)]) (.cond (.tmp 16) .skip (.exit 0))) (.seq (.block 1 (.seq (.reg 5 [I.n 0 19 (I.mv 0), I.n 1 20 (I.mv 6), I.n 2 21 (I.ia 23 19 20), I.n 3 22 (I.fa 35 21 0), I.n 4 23 (I.ld 3 22), I.n 5 24 (I.bc .rem 3 23 3 3), I.n 6 25 (I.bc .add 3 24 3 3), I.n 7 26 (I.bc .rem 3 25 3 3), I.n 8 27 (.binOp .add 3 (.const (Value.int .i64 1)) (.tmp 26) 3), I.n 9 28 (.build 35 #[(0, .tmp 27)]), I.n 10 7 (.alloc 35), I.u 11 (I.st 35 7 28)]) (.seq (.seq (.reg 6 [I.n 0 29 (I.fa 35 7 0), I.n 1 30 (I.ld 3 29), I.n 2 31 (I.bc .eql 3 30 2 3)]) (.cond (.tmp 31) (.draw 7 [I.n 0 32 (I.mv 0), I.n 1 33 (I.mv 6), I.n 2 34 (I.ia 23 32 33), I.n 3 35 (I.fa 35 34 2), I.n 4 36 (I.ld 9 35), I.n 5 37 (I.mv 0), I.n 6 38 (I.mv 6), I.n 7 39 (I.ia 23 37 38), I.n 8 40 (I.fa 35 39 2), I.n 9 41 (I.ld 9 40), I.n 10 42 (I.ln 41 9), I.n 11 43 (.call { callee := .builtin .min, args := #[.tmp 42, .const (Value.int .i64 6)], argTypes := #[3, 3] }), I.n 12 44 (.slice 9 (.tmp 36) none (some (.tmp 43)) none), I.n 13 45 (I.c1 37 44 9), I.n 14 46 (I.fa 35 7 2), I.u 15 (I.st 9 46 45)] [[], [], [0, 1], [2], [3], [], [], [5, 6], [7], [8], [9], [10], [4, 11], [12], [0, 1, 2, 3, 4, 5, 6, 7, 8, 9, 10, 11, 12, 13], [14, 13, 13, 0, 1, 2, 3, 4, 5, 6, 7, 8, 9, 10, 11, 12, 13]]) (.seq (.reg 8 [I.n 0 47 (I.mv 0), I.n 1 48 (I.mv 6), I.n 2 49 (I.ia 23 47 48), I.n 3 50 (I.fa 35 49 1), I.n 4 51 (I.ld 3 50), I.n 5 52 (I.bc .rem 3 51 7 3), I.n 6 53 (I.bc .add 3 52 7 3), I.n 7 54 (I.bc .rem 3 53 7 3), I.n 8 55 (I.mv 1), I.n 9 56 (.call { callee := .builtin .min, args := #[.tmp 54, .tmp 55], argTypes := #[3, 3] }), I.n 10 57 (I.fa 35 7 1), I.u 11 (I.st 3 57 56)]) (.reg 9 [I.n 0 58 (I.mv 1), I.n 1 59 (I.fa 35 7 1), I.n 2 60 (I.ld 3 59), I.n 3 61 (I.bo .sub 3 58 60 3), I.n 4 1 (I.sa 61)])))) (.reg 10 [I.n 0 62 (I.mv 5), I.n 1 63 (I.ld 35 7), I.n 2 64 (I.b1 23 63), I.n 3 65 (I.ap 62 64 23 23), I.n 4 5 (I.sa 65)])))) (.reg 4 [I.n 0 17 (I.mv 6), I.n 1 18 (I.bc .add 3 17 1 3), I.n 2 6 (I.sa 18)])))))) (.seq (.seq (.reg 11 [I.n 0 66 (I.mv 1), I.n 1 67 (I.bc .gtr 3 66 0 3)]) (.cond (.tmp 67) (.reg 12 [I.n 0 68 (I.mv 5), I.n 1 69 (I.mv 1), I.n 2 70 (.build 35 #[(0, .const (Value.int .i64 1)), (1, .tmp 69)]), I.n 3 71 (I.b1 23 70), I.n 4 72 (I.ap 68 71 23 23), I.n 5 5 (I.sa 72)]) .skip)) (.seq (.reg 13 [I.n 0 73 (I.mv 5), I.n 1 4 (I.sa 73)]) .ret))))) := by
  intro c h
  have : c = Tryd.f31.body.get rfl := by rw [← Option.some_inj, ← h]; rfl
  rw [this]; rfl
theorem kmod (k : Int) : IntKind.i64.wrap (1 + (IntKind.i64.wrap (k.tmod 3 + 3)).tmod 3) = 1 + k % 3 := by
  have h : k.tmod 3 = k % 3 ∨ k.tmod 3 = k % 3 - 3 := by rw [Int.tmod_eq_emod]; split <;> simp
  have h1 : IntKind.i64.wrap (k.tmod 3 + 3) = k.tmod 3 + 3 := by rw [Ev.wrap64]; omega
  rw [h1, Int.tmod_eq_emod_of_nonneg (by omega), Ev.wrap64]; omega
theorem nmod (k : Int) : (IntKind.i64.wrap (k.tmod 7 + 7)).tmod 7 = k % 7 := by
  have h : k.tmod 7 = k % 7 ∨ k.tmod 7 = k % 7 - 7 := by rw [Int.tmod_eq_emod]; split <;> simp
  have h1 : IntKind.i64.wrap (k.tmod 7 + 7) = k.tmod 7 + 7 := by rw [Ev.wrap64]; omega
  rw [h1, Int.tmod_eq_emod_of_nonneg (by omega)]; omega
def fitSp (s : Sp) (n : Int) : Sp := if 1 + s.k % 3 = 2 then ⟨2, 0, fitS (s.t.extract 0 (min s.t.size 6))⟩ else ⟨1 + s.k % 3, min (s.n % 7) n, ⟨#[]⟩⟩
def fitStep (p : List Sp × Int) (s : Sp) : List Sp × Int := (p.1 ++ [fitSp s p.2], p.2 - (fitSp s p.2).n)
def fitP (l : List Sp) (n : Int) : List Sp × Int := l.foldl fitStep ([], n)
theorem fitP_succ (l : List Sp) (n : Int) {i : Nat} (h : i < l.length) : fitP (l.take (i + 1)) n = fitStep (fitP (l.take i) n) l[i] := by
  unfold fitP; rw [List.take_succ_eq_append_getElem h, List.foldl_append]; rfl
def fitO (l : List Sp) (n : Int) : List Sp := (fitP (l.take 12) n).1 ++ if 0 < (fitP (l.take 12) n).2 then [⟨1, (fitP (l.take 12) n).2, ⟨#[]⟩⟩] else []
theorem fitP_len (l : List Sp) : ∀ a, (l.foldl fitStep a).1.length = a.1.length + l.length := by
  induction l with
  | nil => simp
  | cons s l ih => intro a; rw [List.foldl_cons, ih]; simp [fitStep]; omega
theorem fitP_n (l : List Sp) : ∀ a : List Sp × Int, 0 ≤ a.2 → 0 ≤ (l.foldl fitStep a).2 ∧ (l.foldl fitStep a).2 ≤ a.2 := by
  induction l with
  | nil => intro a h; simp; omega
  | cons s l ih =>
    intro a h
    rw [List.foldl_cons]
    have h1 : 0 ≤ (fitStep a s).2 ∧ (fitStep a s).2 ≤ a.2 := by
      simp only [fitStep, fitSp]; split
      · simp; omega
      · simp only; omega
    obtain ⟨h2, h3⟩ := ih _ h1.1
    omega
theorem fit4_call (l : List Sp) (n : Int) (hn : 0 ≤ n ∧ n ≤ 2000000) : CallW env 31 [.lst 3 (sps l), .v (.int .i64 n)] (fun r hs => r = .lst 3 (sps (fitO l n)) ∧ hs = []) := by
  have hsl := sps_len l
  have hm := Ev.max_big
  refine Ev.fn [0, 1, 4, 5, 6, 7, 16, 31, 67] 0 [.tmp 4] Tryd.func31 (comp31 _ rfl) ?_
  repeat' (first | ((refine Ev.sw ?_); conv => whnf) | refine Ev.sn ?_ | ((with_reducible refine Ev.chk_k ?_ ?_); rotate_left; exact Ev.bt; conv => whnf) | ((with_reducible (refine Ev.RI.run ?_; constructor)) <;> intro _) | ((refine Ev.sg ?_); conv => whnf) | ((with_reducible refine Ev.sided ?_ ?_); conv => whnf) | ((with_reducible refine Ev.kr (hs := []) (fun Q hQ => ?_)); (simp only [Ev.runE_cons, Ev.runE_nil]); conv => whnf) | (with_reducible refine hQ _ ?_; clear hQ Q) | ((refine Ev.sf ?_); intro F hF; conv => whnf) | (with_reducible refine hF _ ?_; clear hF F) | ((with_reducible refine Ev.go_k (fun c' => ?_)); conv => whnf) | ((with_reducible refine Ev.dr0 ?_); (first | refine Ev.dr 7 [] [0, 1, 2, 3, 4, 5, 6, 7, 8, 9, 10, 11, 12, 13, 14, 15] ?_); intro Q hQ; (simp only [Ev.runE_cons, Ev.runE_nil]); conv => whnf) | ((first | refine Ev.el_map0 ?_ (fun hi => ?_) | refine Ev.el_mapN ?_ (fun hi => ?_)); rotate_left; conv => whnf) | ((with_reducible refine Ev.sd0 ?_); exact Ev.sd) | fail)
  refine Ev.loop (fun k s => ∃ (i v c : Nat), s = ⟨[(0, .lst 3 (sps l)), (1, .v (.int .i64 (fitP (l.take i) n).2)), (4, .v (.slice none 0 0)), (5, .own 512 v 0 i), (6, .v (.int .i64 i))], [(512, ⟨3, 35, v, 0, false, sps (fitP (l.take i) n).1⟩)], c⟩ ∧ k + i = 12 ∧ i ≤ l.length) ?_ ?_
  · (refine Ev.to _ ?hs1 ?hh1 ?hc1 ⟨12, 0, ?_, ?_, rfl, ?hp1⟩; (case hs1 | hh1 => ((repeat' (first | exact trivial | refine And.intro ?_ ?_)) <;> (first | exact Ev.se | (refine Ev.slot_eq rfl ?_; first | (rfl) | ((first | refine Ev.int_eq ?_ | refine Ev.own_eq ?_ | refine Ev.blk_eq ?_); (rfl))) | exact Ev.sr))); (case hc1 => exact Nat.le_refl _))
    exact ⟨rfl, by omega⟩
  rintro k s1 ⟨i, v, c, rfl, hk, hi'⟩
  have hlen : (fitP (l.take i) n).1.length = i := by unfold fitP; rw [fitP_len]; simp; omega
  have hsl2 := sps_len (fitP (l.take i) n).1
  obtain ⟨hn0, hn1⟩ : 0 ≤ (fitP (l.take i) n).2 ∧ (fitP (l.take i) n).2 ≤ n := fitP_n (l.take i) ([], n) hn.1
  repeat' (first | ((refine Ev.sw ?_); conv => whnf) | refine Ev.sn ?_ | ((with_reducible refine Ev.chk_k ?_ ?_); rotate_left; exact Ev.bt; conv => whnf) | ((with_reducible (refine Ev.RI.run ?_; constructor)) <;> intro _) | ((refine Ev.sg ?_); conv => whnf) | ((with_reducible refine Ev.sided ?_ ?_); conv => whnf) | ((with_reducible refine Ev.kr (hs := []) (fun Q hQ => ?_)); (simp only [Ev.runE_cons, Ev.runE_nil]); conv => whnf) | (with_reducible refine hQ _ ?_; clear hQ Q) | ((refine Ev.sf ?_); intro F hF; conv => whnf) | (with_reducible refine hF _ ?_; clear hF F) | ((with_reducible refine Ev.go_k (fun c' => ?_)); conv => whnf) | ((refine Ev.call_det (fit_call _ (by rw [ByteArray.size_extract]; omega)) rfl rfl ?_); conv => whnf) | ((with_reducible refine Ev.dr0 ?_); (first | refine Ev.dr 7 [] [0, 1, 2, 3, 4, 5, 6, 7, 8, 9, 10, 11, 12, 13, 14, 15] ?_); intro Q hQ; (simp only [Ev.runE_cons, Ev.runE_nil]); conv => whnf) | ((first | refine Ev.el_map0 ?_ (fun hi => ?_) | refine Ev.el_mapN ?_ (fun hi => ?_)); rotate_left; conv => whnf) | ((with_reducible refine Ev.sd0 ?_); exact Ev.sd) | fail)
  · rename_i hk2 _
    rw [kmod] at hk2
    have hs := fitP_succ l n hi
    have hf : fitSp l[i] (fitP (l.take i) n).2 = ⟨2, 0, fitS (l[i].t.extract 0 (min l[i].t.size 6))⟩ := if_pos hk2
    have hx : (min (l[i].t.size : Int) 6).toNat = min l[i].t.size 6 := by omega
    (refine Ev.again (k - 1) _ ?hm2 ?hs2 ?hh2 ?hc2 ⟨i + 1, ?_, ?_, rfl, ?hp2⟩; (case hs2 | hh2 => ((repeat' (first | exact trivial | refine And.intro ?_ ?_)) <;> (first | exact Ev.se | (refine Ev.slot_eq rfl ?_; first | (first | (simp; done) | (rw [hs]; simp [fitStep, hf, sps, spC, kmod, hk2, hx]; done)) | ((first | refine Ev.int_eq ?_ | refine Ev.own_eq ?_ | refine Ev.blk_eq ?_); (first | (simp; done) | (rw [hs]; simp [fitStep, hf, sps, spC, kmod, hk2, hx]; done)))) | exact Ev.sr))); (case hc2 => exact Nat.le_refl _); (case hm2 => omega))
    exact ⟨by omega, by omega⟩
  · rename_i hk2
    rw [kmod] at hk2
    have hs := fitP_succ l n hi
    have hf : fitSp l[i] (fitP (l.take i) n).2 = ⟨1 + l[i].k % 3, min (l[i].n % 7) (fitP (l.take i) n).2, ⟨#[]⟩⟩ := if_neg hk2
    have hw : IntKind.i64.wrap ((fitP (l.take i) n).2 - min (l[i].n % 7) (fitP (l.take i) n).2) = (fitP (l.take i) n).2 - min (l[i].n % 7) (fitP (l.take i) n).2 := by rw [Ev.wrap64]; omega
    (refine Ev.again (k - 1) _ ?hm3 ?hs3 ?hh3 ?hc3 ⟨i + 1, ?_, ?_, rfl, ?hp3⟩; (case hs3 | hh3 => ((repeat' (first | exact trivial | refine And.intro ?_ ?_)) <;> (first | exact Ev.se | (refine Ev.slot_eq rfl ?_; first | (first | (simp; done) | (rw [hs]; simp [fitStep, hf, sps, spC, kmod, nmod]; done) | (rw [hs, nmod]; simp only [fitStep, hf]; exact hw)) | ((first | refine Ev.int_eq ?_ | refine Ev.own_eq ?_ | refine Ev.blk_eq ?_); (first | (simp; done) | (rw [hs]; simp [fitStep, hf, sps, spC, kmod, nmod]; done) | (rw [hs, nmod]; simp only [fitStep, hf]; exact hw)))) | exact Ev.sr))); (case hc3 => exact Nat.le_refl _); (case hm3 => omega))
    exact ⟨by omega, by omega⟩
  all_goals
    have hT : l.take 12 = l.take i := by
      first
        | rw [show i = 12 by omega]
        | rw [List.take_of_length_le (by simp at *; omega), List.take_of_length_le (by simp at *; omega)]
    refine ⟨Ev.lst_eq (Ev.take_all ?_ ?_), rfl⟩
    · simp [hlen, sps_len]
    · simp [fitO, hT, sps, spC, *]
theorem wrap_add (a b : Int) : IntKind.i64.wrap (IntKind.i64.wrap a + b) = IntKind.i64.wrap (a + b) := by simp only [Ev.wrap64]; omega
theorem wrap_id {a : Int} (h : -9223372036854775808 ≤ a ∧ a < 9223372036854775808) : IntKind.i64.wrap a = a := by rw [Ev.wrap64]; omega
def sumI (f : Sp → Int) (l : List Sp) : Int := (l.map f).sum
theorem sumI_nil (f : Sp → Int) : sumI f [] = 0 := rfl
theorem sumI_cons (f : Sp → Int) (s : Sp) (l : List Sp) : sumI f (s :: l) = f s + sumI f l := by simp [sumI]
theorem sumI_app (f : Sp → Int) (a b : List Sp) : sumI f (a ++ b) = sumI f a + sumI f b := by simp [sumI]
theorem sumW_wrap (f : Sp → Int) : ∀ (l : List Sp) (a : Int), l.foldl (fun a s => IntKind.i64.wrap (a + f s)) (IntKind.i64.wrap a) = IntKind.i64.wrap (a + sumI f l)
  | [], a => by simp [sumI]
  | s :: l, a => by rw [List.foldl_cons, wrap_add, sumW_wrap f l, sumI_cons, Int.add_assoc]
theorem sumW_eq (f : Sp → Int) (l : List Sp) : sumW f l = IntKind.i64.wrap (sumI f l) := by
  have h := sumW_wrap f l 0
  rw [Int.zero_add] at h; rw [← h]; rfl
theorem sumI_bound (f : Sp → Int) (b : Int) : ∀ l : List Sp, (∀ s ∈ l, 0 ≤ f s ∧ f s ≤ b) → 0 ≤ sumI f l ∧ sumI f l ≤ b * l.length
  | [], _ => by simp [sumI]
  | s :: l, h => by
    have h1 := h s (by simp)
    have h2 := sumI_bound f b l (fun s hs => h s (by simp [hs]))
    rw [sumI_cons, List.length_cons]
    have : b * ((l.length + 1 : Nat) : Int) = b * l.length + b := by rw [Int.natCast_succ, Int.mul_add, Int.mul_one]
    omega
def inS (s : Sp) : Int := inF s.k s.n
def outS (s : Sp) : Int := outF s.k s.n s.t
theorem fitS_valid (t : ByteArray) : validD (fitS t).data.toList = true := fit_valid t
theorem fitSp_put {s : Sp} (n : Int) (h : 1 + s.k % 3 = 2) : fitSp s n = ⟨2, 0, fitS (s.t.extract 0 (min s.t.size 6))⟩ := if_pos h
theorem fitSp_not {s : Sp} (n : Int) (h : ¬ 1 + s.k % 3 = 2) : fitSp s n = ⟨1 + s.k % 3, min (s.n % 7) n, ⟨#[]⟩⟩ := if_neg h
theorem fitSp_may (s : Sp) {n : Int} (h : 0 ≤ n ∧ n ≤ 1048576) : mayS (fitSp s n) = 0 := by
  by_cases hk : 1 + s.k % 3 = 2
  · rw [fitSp_put n hk]; simp [mayS, mayF, fitS_valid]
  · rw [fitSp_not n hk]
    have : 1 + s.k % 3 = 1 ∨ 1 + s.k % 3 = 3 := by omega
    simp only [mayS, mayF, this, if_true]
    rw [if_neg (by omega)]
theorem fitSp_n (s : Sp) {n : Int} (h : 0 ≤ n) : 0 ≤ (fitSp s n).n ∧ (fitSp s n).n ≤ 6 ∧ (fitSp s n).n ≤ n ∧ inS (fitSp s n) = (fitSp s n).n := by
  by_cases hk : 1 + s.k % 3 = 2
  · rw [fitSp_put n hk]; simp [inS, inF]; omega
  · rw [fitSp_not n hk]
    have : 1 + s.k % 3 = 1 ∨ 1 + s.k % 3 = 3 := by omega
    simp only [inS, inF, this, if_true, and_true]; omega
theorem fitSp_t (s : Sp) (n : Int) : (fitSp s n).t.size ≤ 24 := by
  unfold fitSp; split
  · have h := enc_len (eight_fit (s.t.extract 0 (min s.t.size 6)) (s.t.extract 0 (min s.t.size 6)).size)
    rw [fitL_len, ← strI_list, len_list] at h
    have e : (s.t.extract 0 (min s.t.size 6)).size ≤ 6 := by rw [ByteArray.size_extract]; omega
    show (fitS _).size ≤ 24
    unfold fitS; omega
  · show (⟨#[]⟩ : ByteArray).size ≤ 24; decide
theorem fitP_all (l : List Sp) : ∀ a : List Sp × Int, (0 ≤ a.2 ∧ a.2 ≤ 1048576) → (∀ s ∈ a.1, mayS s = 0 ∧ s.t.size ≤ 24 ∧ 0 ≤ inS s ∧ inS s ≤ 6) →
    (∀ s ∈ (l.foldl fitStep a).1, mayS s = 0 ∧ s.t.size ≤ 24 ∧ 0 ≤ inS s ∧ inS s ≤ 6) ∧ sumI inS (l.foldl fitStep a).1 + (l.foldl fitStep a).2 = sumI inS a.1 + a.2 := by
  induction l with
  | nil => intro a _ h; exact ⟨h, rfl⟩
  | cons s l ih =>
    intro a ha h
    rw [List.foldl_cons]
    obtain ⟨b1, b2, b3, b4⟩ := fitSp_n s ha.1
    have key := ih (fitStep a s) (by simp only [fitStep]; omega) (by
      intro x hx
      simp only [fitStep, List.mem_append, List.mem_singleton] at hx
      rcases hx with hx | rfl
      · exact h x hx
      · exact ⟨fitSp_may s ha, fitSp_t s _, by omega, by omega⟩)
    refine ⟨key.1, ?_⟩
    rw [key.2]
    simp only [fitStep, sumI_app, sumI_cons, sumI_nil, b4]; omega
theorem fitO_all (l : List Sp) {n : Int} (hn : 0 ≤ n ∧ n ≤ 1048576) : (∀ s ∈ fitO l n, mayS s = 0 ∧ s.t.size ≤ 24 ∧ 0 ≤ inS s ∧ inS s ≤ 1048576) ∧ sumI inS (fitO l n) = n ∧ (fitO l n).length ≤ 13 := by
  obtain ⟨h1, h2⟩ := fitP_all (l.take 12) ([], n) hn (by simp)
  obtain ⟨h3, h4⟩ := fitP_n (l.take 12) ([], n) hn.1
  have h5 := fitP_len (l.take 12) ([], n)
  rw [show (l.take 12).foldl fitStep ([], n) = fitP (l.take 12) n from rfl] at h1 h2 h3 h4 h5
  rw [sumI_nil] at h2
  simp only at h2 h3 h4 h5
  unfold fitO
  refine ⟨?_, ?_, ?_⟩
  · intro s hs
    rw [List.mem_append] at hs
    rcases hs with hs | hs
    · obtain ⟨a, b, c, d⟩ := h1 s hs; exact ⟨a, b, c, by omega⟩
    · split at hs
      · simp only [List.mem_singleton] at hs; subst hs
        refine ⟨?_, ?_, ?_⟩
        · simp only [mayS, mayF, true_or, if_true]; rw [if_neg (by omega)]
        · show (⟨#[]⟩ : ByteArray).size ≤ 24; decide
        · simp only [inS, inF, true_or, if_true]; omega
      · simp at hs
  · rw [sumI_app]
    split
    · simp only [sumI_cons, sumI_nil, inS, inF, true_or, if_true]; omega
    · rw [sumI_nil]; omega
  · rw [List.length_append, h5]
    have : (l.take 12).length ≤ 12 := by rw [List.length_take]; omega
    split <;> simp <;> omega
theorem firstE_zero (f : Sp → Int) : ∀ l : List Sp, (∀ s ∈ l, f s = 0) → firstE f l = 0
  | [], _ => rfl
  | s :: l, h => by simp only [firstE]; rw [if_pos (h s (by simp))]; exact firstE_zero f l (fun x hx => h x (by simp [hx]))
theorem inW_eq (l : List Sp) : inW l = IntKind.i64.wrap (sumI inS l) := sumW_eq _ _
theorem outW_eq (l : List Sp) : outW l = IntKind.i64.wrap (sumI outS l) := sumW_eq _ _
theorem fitO_in (l : List Sp) {n : Int} (hn : 0 ≤ n ∧ n ≤ 1048576) : inW (fitO l n) = n := by
  rw [inW_eq, (fitO_all l hn).2.1]; exact wrap_id (by omega)
theorem fitO_may (l : List Sp) {n : Int} (hn : 0 ≤ n ∧ n ≤ 1048576) : opMayF (fitO l n) = 0 := by
  unfold opMayF
  rw [firstE_zero _ _ (fun s hs => ((fitO_all l hn).1 s hs).1), if_pos rfl, fitO_in l hn, if_neg (by omega)]
theorem fitO_small (l : List Sp) {n : Int} (hn : 0 ≤ n ∧ n ≤ 1048576) : Small (fitO l n) := fun s hs => by have := ((fitO_all l hn).1 s hs).2.1; omega
end Go.Proofs.YtadlnaljicikfaaDoor.Abs

namespace Go.Proofs.YtadlnaljicikfaaDoor.Abs
open Go
set_option linter.unusedSimpArgs false
set_option linter.unusedVariables false
def putG : Nat → Nat → List UInt8
  | 0, n => [UInt8.ofNat n]
  | f + 1, n => if n < 128 then [UInt8.ofNat n] else UInt8.ofNat (128 + n % 128) :: putG f (n / 128)
def putN (n : Nat) : List UInt8 := putG 4 n
def takeG : Nat → Nat → List UInt8 → Int × Int × Int
  | i, _, [] => if 4 ≤ i then (0, 0, 8) else (0, 0, 7)
  | i, acc, c :: l => if i = 4 then (0, 0, 8) else if 128 ≤ c.toNat then takeG (i + 1) (acc + (c.toNat - 128) * 128 ^ i) l else if c.toNat = 0 ∧ 0 < i then (0, 0, 8) else (((acc + c.toNat * 128 ^ i : Nat) : Int), ((i + 1 : Nat) : Int), 0)
def takeN (b : List UInt8) : Int × Int × Int := takeG 0 0 b
theorem ofNat_toNat {n : Nat} (h : n < 256) : (UInt8.ofNat n).toNat = n := by rw [UInt8.toNat_ofNat']; omega
theorem take_putG : ∀ (f i n acc : Nat) (rest : List UInt8), n < 128 ^ (f + 1) → i + f + 1 ≤ 4 → (0 < i → 0 < n) → takeG i acc (putG f n ++ rest) = (((acc + n * 128 ^ i : Nat) : Int), ((i + (putG f n).length : Nat) : Int), 0)
  | 0, i, n, acc, rest, h, hi, hn => by
    simp only [putG, List.cons_append, List.nil_append, takeG, List.length_cons, List.length_nil]
    simp at h
    rw [ofNat_toNat (by omega), if_neg (by omega), if_neg (by omega), if_neg (by omega)]
  | f + 1, i, n, acc, rest, h, hi, hn => by
    simp only [putG]
    split
    · rename_i h1
      simp only [List.cons_append, List.nil_append, takeG, List.length_cons, List.length_nil]
      rw [ofNat_toNat (by omega), if_neg (by omega), if_neg (by omega), if_neg (by omega)]
    · rename_i h1
      simp only [List.cons_append, takeG, List.length_cons]
      rw [ofNat_toNat (by omega), if_neg (by omega), if_pos (by omega)]
      have h2 : n / 128 < 128 ^ (f + 1) := by rw [Nat.pow_succ] at h; exact (Nat.div_lt_iff_lt_mul (by decide)).2 h
      rw [take_putG f (i + 1) (n / 128) _ rest h2 (by omega) (fun _ => by omega)]
      have e : acc + (128 + n % 128 - 128) * 128 ^ i + n / 128 * 128 ^ (i + 1) = acc + n * 128 ^ i := by
        rw [Nat.pow_succ, Nat.add_sub_cancel_left, Nat.add_assoc, Nat.mul_comm (128 ^ i) 128, ← Nat.mul_assoc, ← Nat.add_mul]
        congr 2; omega
      rw [e]
      congr 2; congr 1; omega
theorem take_put {n : Nat} (h : n < 268435456) (rest : List UInt8) : takeN (putN n ++ rest) = ((n : Int), ((putN n).length : Int), 0) := by
  have e : putN n = putG 3 n := by
    unfold putN
    have : ∀ n, n < 268435456 → putG 4 n = putG 3 n := by
      intro n h
      simp only [putG]
      repeat' (split <;> try rfl)
      all_goals first | rfl | (exfalso; omega)
    exact this n h
  rw [e]
  unfold takeN
  rw [take_putG 3 0 n 0 rest (by simpa using h) (by omega) (by omega)]
  simp
theorem putN_len {n : Nat} (h : n < 268435456) : 1 ≤ (putN n).length ∧ (putN n).length ≤ 4 := by
  unfold putN
  simp only [putG]
  repeat' split
  all_goals first | (simp; done) | (exfalso; omega)
theorem takeG_inv : ∀ (l : List UInt8) (i acc : Nat) (n k : Int), takeG i acc l = (n, k, 0) → i ≤ 4 → ∃ (m j : Nat), l.take j = putG (3 - i) m ∧ j ≤ l.length ∧ 1 ≤ j ∧ i + j ≤ 4 ∧ k = ((i + j : Nat) : Int) ∧ n = ((acc + m * 128 ^ i : Nat) : Int) ∧ m < 128 ^ (4 - i) ∧ (0 < i → 0 < m)
  | [], i, acc, n, k, h, hi => by simp only [takeG] at h; split at h <;> simp at h
  | c :: l, i, acc, n, k, h, hi => by
    simp only [takeG] at h
    have hc := c.toNat_lt
    split at h
    · simp at h
    · rename_i h4
      split at h
      · rename_i h8
        obtain ⟨m, j, a1, a2, a3, a4, a5, a6, a7, a8⟩ := takeG_inv l (i + 1) _ n k h (by omega)
        have h3 : i < 3 := by omega
        refine ⟨(c.toNat - 128) + m * 128, j + 1, ?_, by simp; omega, by omega, by omega, by rw [a5]; congr 1; omega, ?_, ?_, fun _ => by have := a8 (by omega); omega⟩
        · rw [List.take_succ_cons, a1, show 3 - i = (3 - (i + 1)) + 1 by omega]
          simp only [putG]
          have hm := a8 (by omega)
          rw [if_neg (by omega)]
          have e1 : 128 + (c.toNat - 128 + m * 128) % 128 = c.toNat := by omega
          have e2 : (c.toNat - 128 + m * 128) / 128 = m := by omega
          rw [e1, e2]; simp
        · rw [a6, Nat.pow_succ, Nat.add_mul, Nat.add_assoc]
          congr 2
          rw [Nat.mul_comm (128 ^ i) 128, ← Nat.mul_assoc]
        · rw [show 4 - i = (4 - (i + 1)) + 1 by omega, Nat.pow_succ]
          generalize 128 ^ (4 - (i + 1)) = X at *
          have := c.toNat_lt
          omega
      · rename_i h8
        split at h
        · simp at h
        · rename_i h0
          simp only [Prod.mk.injEq] at h
          obtain ⟨rfl, rfl, _⟩ := h
          refine ⟨c.toNat, 1, ?_, by simp, Nat.le_refl _, by omega, rfl, rfl, ?_, fun _ => by omega⟩
          · rw [List.take_succ_cons, List.take_zero]
            cases hq : 3 - i with
            | zero => simp [putG]
            | succ q => simp only [putG]; rw [if_pos (by omega)]; simp
          · have : 128 ≤ 128 ^ (4 - i) := by
              rw [show 4 - i = (3 - i) + 1 by omega, Nat.pow_succ]
              have : 0 < 128 ^ (3 - i) := Nat.pow_pos (by decide)
              omega
            omega
theorem put_take {b : List UInt8} {n k : Int} (h : takeN b = (n, k, 0)) : 0 ≤ n ∧ n < 268435456 ∧ 1 ≤ k ∧ k ≤ 4 ∧ k ≤ b.length ∧ b.take k.toNat = putN n.toNat ∧ (putN n.toNat).length = k := by
  obtain ⟨m, j, a1, a2, a3, a4, a5, a6, a7, a8⟩ := takeG_inv b 0 0 n k h (by omega)
  simp only [Nat.pow_zero, Nat.mul_one, Nat.zero_add, Nat.sub_zero] at *
  have e : putG 4 m = putG 3 m := by
    have hm : m < 268435456 := by simpa using a7
    simp only [putG]
    repeat' (split <;> try rfl)
    all_goals first | rfl | (exfalso; omega)
  have hm : m < 268435456 := by simpa using a7
  subst a6; subst a5
  have e2 : b.take j = putN m := by rw [a1]; unfold putN; exact e.symm
  refine ⟨by omega, by omega, by omega, by omega, by omega, ?_, ?_⟩
  · simp only [Int.toNat_natCast]; exact e2
  · simp only [Int.toNat_natCast]; rw [← e2, List.length_take]; omega
theorem takeG_bad : ∀ (l : List UInt8) (i acc : Nat), (∃ n k, takeG i acc l = (n, k, 0)) ∨ takeG i acc l = (0, 0, 7) ∨ takeG i acc l = (0, 0, 8)
  | [], i, acc => by simp only [takeG]; split <;> simp
  | c :: l, i, acc => by
    simp only [takeG]
    split
    · simp
    · split
      · exact takeG_bad l _ _
      · split
        · simp
        · exact .inl ⟨_, _, rfl⟩
theorem takeN_bad (b : List UInt8) : (∃ n k, takeN b = (n, k, 0)) ∨ takeN b = (0, 0, 7) ∨ takeN b = (0, 0, 8) := takeG_bad b 0 0
end Go.Proofs.YtadlnaljicikfaaDoor.Abs

namespace Go.Proofs.YtadlnaljicikfaaDoor.Abs
open Go Go.Lib
set_option linter.unusedSimpArgs false
set_option linter.unusedVariables false
theorem decodeN_pre {n n' b0 b1 b2 b3 c1 c2 c3 : Nat} (h1 : 1 < n → 1 < n' ∧ c1 = b1) (h2 : 2 < n → 2 < n' ∧ c2 = b2) (h3 : 3 < n → 3 < n' ∧ c3 = b3) (h : decodeN n b0 b1 b2 b3 ≠ (65533, 1)) : decodeN n' b0 c1 c2 c3 = decodeN n b0 b1 b2 b3 := by
  unfold decodeN at h ⊢
  by_cases a0 : b0 < 128
  · rw [if_pos a0, if_pos a0]
  rw [if_neg a0] at h ⊢
  rw [if_neg a0]
  by_cases a1 : b0 / 32 = 6 ∧ (1 < n ∧ b1 / 64 = 2)
  · obtain ⟨x, rfl⟩ := h1 a1.2.1
    rw [if_pos a1, if_pos ⟨a1.1, x, a1.2.2⟩]
  rw [if_neg a1] at h ⊢
  by_cases a2 : b0 / 16 = 14 ∧ (1 < n ∧ b1 / 64 = 2) ∧ (2 < n ∧ b2 / 64 = 2)
  · obtain ⟨x, rfl⟩ := h1 a2.2.1.1
    obtain ⟨y, rfl⟩ := h2 a2.2.2.1
    have a1' : ¬ (b0 / 32 = 6 ∧ (1 < n' ∧ c1 / 64 = 2)) := by omega
    rw [if_neg a1', if_pos a2, if_pos ⟨a2.1, ⟨x, a2.2.1.2⟩, y, a2.2.2.2⟩]
  rw [if_neg a2] at h ⊢
  by_cases a3 : b0 / 8 = 30 ∧ (1 < n ∧ b1 / 64 = 2) ∧ (2 < n ∧ b2 / 64 = 2) ∧ (3 < n ∧ b3 / 64 = 2)
  · obtain ⟨x, rfl⟩ := h1 a3.2.1.1
    obtain ⟨y, rfl⟩ := h2 a3.2.2.1.1
    obtain ⟨z, rfl⟩ := h3 a3.2.2.2.1
    have a1' : ¬ (b0 / 32 = 6 ∧ (1 < n' ∧ c1 / 64 = 2)) := by omega
    have a2' : ¬ (b0 / 16 = 14 ∧ (1 < n' ∧ c1 / 64 = 2) ∧ (2 < n' ∧ c2 / 64 = 2)) := by omega
    rw [if_neg a1', if_neg a2', if_pos a3, if_pos ⟨a3.1, ⟨x, a3.2.1.2⟩, ⟨y, a3.2.2.1.2⟩, z, a3.2.2.2.2⟩]
  rw [if_neg a3] at h
  exact absurd rfl h
theorem decode_app {a : List UInt8} (ha : a ≠ []) (h : decodeL a ≠ (65533, 1)) (b : List UInt8) : decodeL (a ++ b) = decodeL a := by
  have hp := List.length_pos_iff.2 ha
  rw [decodeL_N] at h ⊢
  rw [decodeL_N a]
  have g : ∀ i, i < a.length → ((a ++ b).getD i 0).toNat = (a.getD i 0).toNat := fun i hi => by
    simp only [List.getD_eq_getElem?_getD, List.getElem?_append_left hi]
  rw [g 0 hp]
  refine decodeN_pre (fun h1 => ?_) (fun h1 => ?_) (fun h1 => ?_) h
  · exact ⟨by rw [List.length_append]; omega, g 1 h1⟩
  · exact ⟨by rw [List.length_append]; omega, g 2 h1⟩
  · exact ⟨by rw [List.length_append]; omega, g 3 h1⟩
def ptsGo : Nat → List UInt8 → List Nat
  | 0, _ => []
  | n + 1, l => if l = [] then [] else (decodeL l).1 :: ptsGo n (l.drop (decodeL l).2)
def pts (l : List UInt8) : List Nat := ptsGo l.length l
theorem ptsGo_fuel : ∀ (n m : Nat) (l : List UInt8), l.length ≤ n → l.length ≤ m → ptsGo n l = ptsGo m l
  | 0, 0, l, _, _ => rfl
  | 0, m + 1, l, h, _ => by
    have : l = [] := List.length_eq_zero_iff.1 (by omega)
    subst this; simp [ptsGo]
  | n + 1, 0, l, _, h => by
    have : l = [] := List.length_eq_zero_iff.1 (by omega)
    subst this; simp [ptsGo]
  | n + 1, m + 1, l, h1, h2 => by
    simp only [ptsGo]
    by_cases he : l = []
    · rw [if_pos he, if_pos he]
    · rw [if_neg he, if_neg he]
      have := decodeL_width l
      rw [ptsGo_fuel n m _ (by rw [List.length_drop]; omega) (by rw [List.length_drop]; omega)]
theorem pts_nil : pts [] = [] := rfl
theorem pts_step {l : List UInt8} (h : l ≠ []) : pts l = (decodeL l).1 :: pts (l.drop (decodeL l).2) := by
  unfold pts
  obtain ⟨n, hn⟩ : ∃ n, l.length = n + 1 := ⟨l.length - 1, by have := List.length_pos_iff.2 h; omega⟩
  rw [hn, ptsGo, if_neg h]
  have := decodeL_width l
  rw [ptsGo_fuel n _ _ (by rw [List.length_drop]; omega) (Nat.le_refl _)]
theorem text_ind {P : List UInt8 → Prop} (h0 : P []) (h1 : ∀ l, l ≠ [] → validD l = true → decodeL l ≠ (65533, 1) → validD (l.drop (decodeL l).2) = true → P (l.drop (decodeL l).2) → P l) : ∀ l, validD l = true → P l := by
  have key : ∀ n (l : List UInt8), l.length ≤ n → validD l = true → P l := by
    intro n
    induction n with
    | zero => intro l hl _; have : l = [] := List.length_eq_zero_iff.1 (by omega); subst this; exact h0
    | succ n ih =>
      intro l hl hv
      by_cases he : l = []
      · subst he; exact h0
      · have hs := hv
        rw [validD_step he] at hs
        by_cases hd : decodeL l = (65533, 1)
        · rw [if_pos hd] at hs; cases hs
        · rw [if_neg hd] at hs
          have hw := decodeL_width l
          have hp := List.length_pos_iff.2 he
          exact h1 l he hv hd hs (ih _ (by rw [List.length_drop]; omega) hs)
  intro l; exact key l.length l (Nat.le_refl _)
theorem drop_app {l : List UInt8} (he : l ≠ []) (b : List UInt8) : (l ++ b).drop (decodeL l).2 = l.drop (decodeL l).2 ++ b := by
  rw [List.drop_append_of_le_length (decodeL_le l he)]
theorem valid_app : ∀ a, validD a = true → ∀ b, validD (a ++ b) = validD b := by
  refine text_ind (fun b => rfl) (fun l he hv hd hs ih b => ?_)
  have hne : l ++ b ≠ [] := by simp [he]
  rw [validD_step hne, decode_app he hd, if_neg hd, drop_app he, ih]
theorem pts_app : ∀ a, validD a = true → ∀ b, pts (a ++ b) = pts a ++ pts b := by
  refine text_ind (fun b => by simp [pts_nil]) (fun l he hv hd hs ih b => ?_)
  have hne : l ++ b ≠ [] := by simp [he]
  rw [pts_step hne, decode_app he hd, drop_app he, ih, pts_step he, List.cons_append]
theorem posD_pts : ∀ (l : List UInt8) (a : Int), (posD l a).length = (pts l).length := by
  have key : ∀ n (l : List UInt8) (a : Int), l.length ≤ n → (posD l a).length = (pts l).length := by
    intro n
    induction n with
    | zero => intro l a hl; have : l = [] := List.length_eq_zero_iff.1 (by omega); subst this; rfl
    | succ n ih =>
      intro l a hl
      by_cases he : l = []
      · subst he; rfl
      · have hw := decodeL_width l
        have hp := List.length_pos_iff.2 he
        rw [posD_step he, pts_step he, List.length_cons, List.length_cons, ih _ _ (by rw [List.length_drop]; omega)]
  intro l a; exact key l.length l a (Nat.le_refl _)
theorem countD_pts {l : List UInt8} (h : validD l = true) : countD l = (pts l).length := by
  unfold countD; rw [if_pos h, posD_pts]
theorem countD_bad {l : List UInt8} (h : validD l = false) : countD l = -1 := by
  unfold countD; rw [h]; rfl
theorem countD_app {a b : List UInt8} (ha : validD a = true) (hb : validD b = true) : countD (a ++ b) = countD a + countD b := by
  rw [countD_pts ha, countD_pts hb, countD_pts (by rw [valid_app a ha, hb]), pts_app a ha, List.length_append]; rfl
theorem pts_len (l : List UInt8) : (pts l).length ≤ l.length := by rw [← posD_pts l 0]; exact posD_len l 0
theorem str_app (a b : ByteArray) : (a ++ b).data.toList = a.data.toList ++ b.data.toList := app_list a b
theorem str_nil {t : ByteArray} : t = ⟨#[]⟩ ↔ t.data.toList = [] := by
  constructor
  · rintro rfl; rfl
  · intro h; cases t with | mk d => simp at h; subst h; rfl
end Go.Proofs.YtadlnaljicikfaaDoor.Abs

namespace Go.Proofs.YtadlnaljicikfaaDoor.Abs
open Go Go.Lib
set_option linter.unusedSimpArgs false
set_option linter.unusedVariables false
def emptyS (s : Sp) : Bool := decide (s.n = 0) && decide (s.t = ⟨#[]⟩)
def isNG (p : Option Int) : List Sp → Bool
  | [] => true
  | s :: l => !emptyS s && !decide (p = some s.k) && isNG (some s.k) l
def isN (l : List Sp) : Bool := isNG none l
def mrg (a b : Sp) : Sp := ⟨a.k, IntKind.i64.wrap (a.n + b.n), a.t ++ b.t⟩
def normC (cur : Sp) : List Sp → List Sp
  | [] => [cur]
  | s :: l => if emptyS s then normC cur l else if s.k = cur.k then normC (mrg cur s) l else cur :: normC s l
def norm : List Sp → List Sp
  | [] => []
  | s :: l => if emptyS s then norm l else normC s l
def SpOK (s : Sp) : Prop := mayS s = 0
theorem SpOK.cases {s : Sp} (h : SpOK s) : ((s.k = 1 ∨ s.k = 3) ∧ 0 ≤ s.n ∧ s.n ≤ 1048576 ∧ s.t = ⟨#[]⟩) ∨ (s.k = 2 ∧ s.n = 0 ∧ validD s.t.data.toList = true) := by
  unfold SpOK mayS mayF at h
  by_cases h1 : s.k = 1 ∨ s.k = 3
  · rw [if_pos h1] at h
    by_cases h2 : s.n < 0 ∨ 1048576 < s.n
    · rw [if_pos h2] at h; exact absurd h (by decide)
    · rw [if_neg h2] at h
      by_cases h3 : s.t = ⟨#[]⟩
      · exact .inl ⟨h1, by omega, by omega, h3⟩
      · rw [if_neg h3] at h; exact absurd h (by decide)
  · rw [if_neg h1] at h
    by_cases h2 : s.k = 2
    · rw [if_pos h2] at h
      by_cases h3 : s.n ≠ 0
      · rw [if_pos h3] at h; exact absurd h (by decide)
      · rw [if_neg h3] at h
        cases hv : validD s.t.data.toList with
        | true => exact .inr ⟨h2, by omega, rfl⟩
        | false => rw [hv] at h; exact absurd h (by decide)
    · rw [if_neg h2] at h; exact absurd h (by decide)
theorem SpOK.keep {s : Sp} (h1 : s.k = 1 ∨ s.k = 3) (h2 : 0 ≤ s.n ∧ s.n ≤ 1048576) (h3 : s.t = ⟨#[]⟩) : SpOK s := by
  unfold SpOK mayS mayF; rw [if_pos h1, if_neg (by omega), if_pos h3]
theorem SpOK.put {s : Sp} (h1 : s.k = 2) (h2 : s.n = 0) (h3 : validD s.t.data.toList = true) : SpOK s := by
  unfold SpOK mayS mayF; rw [if_neg (by omega), if_pos h1, if_neg (by omega), if_pos h3]
theorem opMay_iff (l : List Sp) : opMayF l = 0 ↔ (∀ s ∈ l, SpOK s) ∧ inW l ≤ 1048576 := by
  have h : firstE mayS l = 0 ↔ ∀ s ∈ l, SpOK s := by
    induction l with
    | nil => simp [firstE]
    | cons s l ih =>
      simp only [firstE, List.mem_cons, forall_eq_or_imp]
      by_cases h : mayS s = 0
      · rw [if_pos h, ih]; exact ⟨fun a => ⟨h, a⟩, fun a => a.2⟩
      · rw [if_neg h]; exact ⟨fun a => absurd a h, fun a => absurd a.1 h⟩
  unfold opMayF
  by_cases h0 : firstE mayS l = 0
  · rw [if_pos h0]
    by_cases h1 : 1048576 < inW l
    · rw [if_pos h1]; exact ⟨fun a => absurd a (by decide), fun a => by omega⟩
    · rw [if_neg h1]; exact ⟨fun _ => ⟨h.1 h0, by omega⟩, fun _ => rfl⟩
  · rw [if_neg h0]; exact ⟨fun a => absurd a h0, fun a => absurd (h.2 a.1) h0⟩
theorem SpOK.inS {s : Sp} (h : SpOK s) : 0 ≤ inS s ∧ inS s ≤ 1048576 := by
  unfold Abs.inS inF
  rcases h.cases with ⟨a, b, c, _⟩ | ⟨a, b, _⟩
  · rw [if_pos a]; exact ⟨b, c⟩
  · rw [if_neg (by omega)]; omega
theorem inW_sum {l : List Sp} (h : ∀ s ∈ l, SpOK s) (hl : l.length ≤ 1000000000) : inW l = sumI inS l := by
  rw [inW_eq]
  have := sumI_bound inS 1048576 l (fun s hs => (h s hs).inS)
  exact wrap_id (by omega)
theorem empty_iff {s : Sp} : emptyS s = true ↔ s.n = 0 ∧ s.t = ⟨#[]⟩ := by simp [emptyS]
theorem empty_in {s : Sp} (h : emptyS s = true) : inS s = 0 ∧ outS s = 0 := by
  obtain ⟨h1, h2⟩ := empty_iff.1 h
  unfold inS outS inF outF
  rw [h1, h2]
  refine ⟨by split <;> rfl, ?_⟩
  split
  · rfl
  · split
    · rfl
    · rfl
def tbs (l : List Sp) : Nat := (l.map fun s => s.t.size).sum
theorem tbs_cons (s : Sp) (l : List Sp) : tbs (s :: l) = s.t.size + tbs l := by simp [tbs]
theorem empty_tbs {s : Sp} (h : emptyS s = true) : s.t.size = 0 := by rw [(empty_iff.1 h).2]; rfl
theorem size_app (a b : ByteArray) : (a ++ b).size = a.size + b.size := by rw [← len_list, ← len_list, ← len_list, str_app, List.length_append]
theorem mrg_ok {a b : Sp} (ha : SpOK a) (hb : SpOK b) (hk : b.k = a.k) (hs : inS a + inS b ≤ 1048576) : SpOK (mrg a b) ∧ inS (mrg a b) = inS a + inS b ∧ outS (mrg a b) = outS a + outS b ∧ (mrg a b).t.size = a.t.size + b.t.size ∧ (mrg a b).n = a.n + b.n := by
  rcases ha.cases with ⟨a1, a2, a3, a4⟩ | ⟨a1, a2, a3⟩
  · rcases hb.cases with ⟨b1, b2, b3, b4⟩ | ⟨b1, b2, b3⟩
    · have e1 : inS a = a.n := by unfold inS inF; rw [if_pos a1]
      have e2 : inS b = b.n := by unfold inS inF; rw [if_pos b1]
      rw [e1, e2] at hs ⊢
      have ew : IntKind.i64.wrap (a.n + b.n) = a.n + b.n := wrap_id (by omega)
      have hm : mrg a b = ⟨a.k, a.n + b.n, ⟨#[]⟩⟩ := by
        unfold mrg; rw [ew, a4, b4]; rfl
      rw [hm]
      refine ⟨SpOK.keep a1 (by simp only; omega) rfl, ?_, ?_, ?_, rfl⟩
      · unfold inS inF; simp only; rw [if_pos a1]
      · unfold outS outF; simp only; rw [hk]
        by_cases h1 : a.k = 1
        · rw [if_pos h1, if_pos h1, if_pos h1]
        · rw [if_neg h1, if_neg h1, if_neg h1, if_neg (by omega), if_neg (by omega), if_neg (by omega)]; rfl
      · rw [a4, b4]; rfl
    · omega
  · rcases hb.cases with ⟨b1, b2, b3, b4⟩ | ⟨b1, b2, b3⟩
    · omega
    · have ew : IntKind.i64.wrap (a.n + b.n) = 0 := by rw [a2, b2]; rfl
      have hm : mrg a b = ⟨a.k, 0, a.t ++ b.t⟩ := by unfold mrg; rw [ew]
      rw [hm]
      have hv : validD (a.t ++ b.t).data.toList = true := by rw [str_app, valid_app _ a3, b3]
      refine ⟨SpOK.put a1 rfl hv, ?_, ?_, size_app _ _, by simp only; omega⟩
      · unfold inS inF; simp only; rw [hk, a1]; rfl
      · unfold outS outF; simp only; rw [hk, a1]
        simp only [show ¬ ((2 : Int) = 1) by decide, if_false, if_true]
        rw [str_app, countD_app a3 b3]
        have := countD_pts a3; have := countD_pts b3
        omega
theorem normC_all : ∀ (l : List Sp) (cur : Sp), SpOK cur → (∀ s ∈ l, SpOK s) → inS cur + sumI inS l ≤ 1048576 →
    (∀ s ∈ normC cur l, SpOK s) ∧ sumI inS (normC cur l) = inS cur + sumI inS l ∧ sumI outS (normC cur l) = outS cur + sumI outS l ∧ tbs (normC cur l) = cur.t.size + tbs l ∧ (normC cur l).length ≤ l.length + 1
  | [], cur, hc, hl, hs => by
    refine ⟨fun s h => ?_, by simp [normC, sumI], by simp [normC, sumI], by simp [normC, tbs], by simp [normC]⟩
    simp [normC] at h; subst h; exact hc
  | s :: l, cur, hc, hl, hs => by
    have h1 := hl s (by simp)
    have h2 : ∀ x ∈ l, SpOK x := fun x hx => hl x (by simp [hx])
    have h3 : 0 ≤ sumI inS l := (sumI_bound inS 1048576 l (fun x hx => (h2 x hx).inS)).1
    have h4 := h1.inS; have h5 := hc.inS
    rw [sumI_cons] at hs
    simp only [normC, sumI_cons, tbs_cons, List.length_cons]
    by_cases he : emptyS s = true
    · rw [if_pos he]
      obtain ⟨e1, e2⟩ := empty_in he
      have e3 := empty_tbs he
      obtain ⟨a, b, c, d, f⟩ := normC_all l cur hc h2 (by omega)
      exact ⟨a, by omega, by omega, by omega, by omega⟩
    · rw [if_neg he]
      by_cases hk : s.k = cur.k
      · rw [if_pos hk]
        obtain ⟨m1, m2, m3, m4, _⟩ := mrg_ok hc h1 hk (by omega)
        obtain ⟨a, b, c, d, f⟩ := normC_all l (mrg cur s) m1 h2 (by omega)
        exact ⟨a, by omega, by omega, by omega, by omega⟩
      · rw [if_neg hk]
        obtain ⟨a, b, c, d, f⟩ := normC_all l s h1 h2 (by omega)
        refine ⟨fun x hx => ?_, by rw [sumI_cons]; omega, by rw [sumI_cons]; omega, by rw [tbs_cons]; omega, by rw [List.length_cons]; omega⟩
        rcases List.mem_cons.1 hx with rfl | hx
        · exact hc
        · exact a x hx
theorem norm_all : ∀ (l : List Sp), (∀ s ∈ l, SpOK s) → sumI inS l ≤ 1048576 →
    (∀ s ∈ norm l, SpOK s) ∧ sumI inS (norm l) = sumI inS l ∧ sumI outS (norm l) = sumI outS l ∧ tbs (norm l) = tbs l ∧ (norm l).length ≤ l.length
  | [], hl, hs => by simp [norm]
  | s :: l, hl, hs => by
    have h1 := hl s (by simp)
    have h2 : ∀ x ∈ l, SpOK x := fun x hx => hl x (by simp [hx])
    rw [sumI_cons] at hs
    simp only [norm, sumI_cons, tbs_cons, List.length_cons]
    by_cases he : emptyS s = true
    · rw [if_pos he]
      obtain ⟨e1, e2⟩ := empty_in he
      have e3 := empty_tbs he
      obtain ⟨a, b, c, d, f⟩ := norm_all l h2 (by omega)
      exact ⟨a, by omega, by omega, by omega, by omega⟩
    · rw [if_neg he]
      exact normC_all l s h1 h2 hs
theorem normC_isN : ∀ (l : List Sp) (cur : Sp) (p : Option Int), emptyS cur = false → SpOK cur → (∀ s ∈ l, SpOK s) → inS cur + sumI inS l ≤ 1048576 → p ≠ some cur.k → isNG p (normC cur l) = true
  | [], cur, p, hc, _, _, _, hp => by simp [normC, isNG, hc, hp]
  | s :: l, cur, p, hc, ho, hl, hs, hp => by
    have h1 := hl s (by simp)
    have h2 : ∀ x ∈ l, SpOK x := fun x hx => hl x (by simp [hx])
    have h3 : 0 ≤ sumI inS l := (sumI_bound inS 1048576 l (fun x hx => (h2 x hx).inS)).1
    have h4 := h1.inS; have h5 := ho.inS
    rw [sumI_cons] at hs
    simp only [normC]
    by_cases he : emptyS s = true
    · rw [if_pos he]
      exact normC_isN l cur p hc ho h2 (by have := (empty_in he).1; omega) hp
    · rw [if_neg he]
      by_cases hk : s.k = cur.k
      · rw [if_pos hk]
        obtain ⟨m1, m2, m3, m4, m5⟩ := mrg_ok ho h1 hk (by omega)
        refine normC_isN l (mrg cur s) p ?_ m1 h2 (by omega) hp
        rw [Bool.eq_false_iff]
        intro hb
        obtain ⟨b1, b2⟩ := empty_iff.1 hb
        rw [b2] at m4
        have : cur.t.size = 0 := by have : (⟨#[]⟩ : ByteArray).size = 0 := rfl; omega
        have hct : cur.t = ⟨#[]⟩ := str_nil.2 (List.length_eq_zero_iff.1 (by rw [len_list]; exact this))
        have hn : cur.n ≠ 0 := fun hn => by rw [← Bool.not_eq_true] at hc; exact hc (empty_iff.2 ⟨hn, hct⟩)
        rcases ho.cases with ⟨_, x, _⟩ | ⟨_, x, _⟩ <;> rcases h1.cases with ⟨_, y, _⟩ | ⟨_, y, _⟩ <;> omega
      · rw [if_neg hk]
        simp only [isNG, hc, Bool.not_false, Bool.true_and, Bool.and_eq_true]
        refine ⟨by simp [hp], ?_⟩
        exact normC_isN l s (some cur.k) (by simpa using he) h1 h2 (by omega) (by intro e; exact hk (Option.some.inj e).symm)
theorem norm_isN : ∀ (l : List Sp), (∀ s ∈ l, SpOK s) → sumI inS l ≤ 1048576 → isN (norm l) = true
  | [], _, _ => rfl
  | s :: l, hl, hs => by
    have h1 := hl s (by simp)
    have h2 : ∀ x ∈ l, SpOK x := fun x hx => hl x (by simp [hx])
    rw [sumI_cons] at hs
    simp only [norm]
    by_cases he : emptyS s = true
    · rw [if_pos he]; exact norm_isN l h2 (by have := (empty_in he).1; omega)
    · rw [if_neg he]; exact normC_isN l s none (by simpa using he) h1 h2 hs (by simp)
theorem norm_may {l : List Sp} (h : opMayF l = 0) (hl : l.length ≤ 1000000000) : opMayF (norm l) = 0 := by
  obtain ⟨h1, h2⟩ := (opMay_iff l).1 h
  rw [inW_sum h1 hl] at h2
  obtain ⟨a, b, c, d, f⟩ := norm_all l h1 h2
  refine (opMay_iff _).2 ⟨a, ?_⟩
  rw [inW_sum a (by omega)]; omega
theorem norm_in {l : List Sp} (h : opMayF l = 0) (hl : l.length ≤ 1000000000) : inW (norm l) = inW l := by
  obtain ⟨h1, h2⟩ := (opMay_iff l).1 h
  rw [inW_sum h1 hl] at h2 ⊢
  obtain ⟨a, b, c, d, f⟩ := norm_all l h1 h2
  rw [inW_sum a (by omega)]; omega
theorem norm_out {l : List Sp} (h : opMayF l = 0) (hl : l.length ≤ 1000000000) : outW (norm l) = outW l := by
  obtain ⟨h1, h2⟩ := (opMay_iff l).1 h
  rw [inW_sum h1 hl] at h2
  obtain ⟨a, b, c, d, f⟩ := norm_all l h1 h2
  rw [outW_eq, outW_eq, c]
end Go.Proofs.YtadlnaljicikfaaDoor.Abs

namespace Go.Proofs.YtadlnaljicikfaaDoor.Abs
open Go Go.Lib
set_option linter.unusedSimpArgs false
set_option linter.unusedVariables false
def encSp (s : Sp) : List UInt8 := putN ((s.n + s.t.size) * 4 + s.k).toNat ++ s.t.data.toList
def encW (l : List Sp) : List UInt8 := putN l.length ++ l.flatMap encSp
def bigT (l : List Sp) : Bool := l.any fun s => decide (65536 < s.t.size)
def wPutE (l : List Sp) : Int := if opMayF l = 0 then (if isN l then (if 65536 < l.length then 2 else if bigT l then 2 else 0) else 8) else opMayF l
def mostOf (k : Int) : Int := if k = 2 then 65536 else 1048576
theorem most2 : mostOf 2 = 65536 := rfl
theorem mostN {k : Int} (h : k ≠ 2) : mostOf k = 1048576 := if_neg h
def takeOne2 (was head : Int) (l1 : List UInt8) : Except Int (Sp × List UInt8) :=
  if head % 4 = 0 ∨ head / 4 = 0 ∨ mostOf (head % 4) < head / 4 ∨ head % 4 = was then .error 8
  else if head % 4 ≠ 2 then .ok (⟨head % 4, head / 4, ⟨#[]⟩⟩, l1)
  else if (l1.length : Int) < head / 4 then .error 7
  else if validD (l1.take (head / 4).toNat) then .ok (⟨2, 0, ⟨(l1.take (head / 4).toNat).toArray⟩⟩, l1.drop (head / 4).toNat)
  else .error 8
def takeOne (was : Int) (left : List UInt8) : Except Int (Sp × List UInt8) :=
  if (takeN left).2.2 ≠ 0 then .error (takeN left).2.2
  else takeOne2 was (takeN left).1 (left.drop (takeN left).2.1.toNat)
def takeSps : Nat → Int → List UInt8 → Except Int (List Sp × List UInt8)
  | 0, _, left => .ok ([], left)
  | m + 1, was, left =>
    match takeOne was left with
    | .error e => .error e
    | .ok (s, l1) => match takeSps m s.k l1 with
      | .error e => .error e
      | .ok (ls, l2) => .ok (s :: ls, l2)
def wTake (b : List UInt8) : Except Int (List Sp × Int) :=
  if (takeN b).2.2 ≠ 0 then .error (takeN b).2.2
  else if 65536 < (takeN b).1 then .error 8
  else match takeSps (takeN b).1.toNat 0 (b.drop (takeN b).2.1.toNat) with
    | .error e => .error e
    | .ok (l, left) => if opMayF l = 0 then .ok (l, (b.length : Int) - left.length) else .error 8
def wTakeL (b : List UInt8) : List Sp := match wTake b with | .ok (l, _) => l | .error _ => []
def wTakeK (b : List UInt8) : Int := match wTake b with | .ok (_, k) => k | .error _ => 0
def wTakeE (b : List UInt8) : Int := match wTake b with | .ok _ => 0 | .error e => e
def headOf (s : Sp) : Nat := ((s.n + s.t.size) * 4 + s.k).toNat
def SpIn (s : Sp) : Prop := SpOK s ∧ emptyS s = false ∧ s.t.size ≤ 65536
theorem str_eta (t : ByteArray) : (⟨t.data.toList.toArray⟩ : ByteArray) = t := by cases t; simp
theorem ok_kind {s : Sp} (h : SpOK s) : s.k = 1 ∨ s.k = 2 ∨ s.k = 3 := by
  rcases h.cases with ⟨a, _⟩ | ⟨a, _⟩ <;> omega
theorem head_facts {s : Sp} (h : SpIn s) : (headOf s : Int) = (s.n + s.t.size) * 4 + s.k ∧ headOf s < 268435456 ∧ ((headOf s : Int) % 4 = s.k) ∧ (headOf s : Int) / 4 = s.n + s.t.size ∧ 0 < s.n + s.t.size ∧ (s.k = 2 → s.n = 0) ∧ (s.k ≠ 2 → s.t = ⟨#[]⟩ ∧ s.n ≤ 1048576) := by
  obtain ⟨h1, h2, h3⟩ := h
  have hk := ok_kind h1
  have hne : ¬ (s.n = 0 ∧ s.t = ⟨#[]⟩) := fun hh => by rw [empty_iff.2 hh] at h2; cases h2
  have hz : s.t.size = 0 → s.t = ⟨#[]⟩ := fun hz => str_nil.2 (List.length_eq_zero_iff.1 (by rw [len_list]; exact hz))
  have he : (⟨#[]⟩ : ByteArray).size = 0 := rfl
  unfold headOf
  rcases h1.cases with ⟨a, b, c, d⟩ | ⟨a, b, c⟩
  · have : s.t.size = 0 := by rw [d]; rfl
    have : s.n ≠ 0 := fun hn => hne ⟨hn, d⟩
    refine ⟨by omega, by omega, by omega, by omega, by omega, by omega, fun _ => ⟨d, c⟩⟩
  · have : s.t.size ≠ 0 := fun hs => hne ⟨b, hz hs⟩
    refine ⟨by omega, by omega, by omega, by omega, by omega, fun _ => b, by omega⟩
theorem takeOne_put {s : Sp} (h : SpIn s) {was : Int} (hw : was ≠ s.k) (rest : List UInt8) : takeOne was (encSp s ++ rest) = .ok (s, rest) := by
  obtain ⟨e1, e2, e3, e4, e5, e6, e7⟩ := head_facts h
  have ht := take_put e2 (s.t.data.toList ++ rest)
  have hk := ok_kind h.1
  unfold takeOne encSp
  rw [List.append_assoc, show ((s.n + s.t.size) * 4 + s.k).toNat = headOf s from rfl, ht]
  simp only [ne_eq, not_true, if_false, Int.toNat_natCast, List.drop_left]
  unfold takeOne2
  rw [e3, e4]
  by_cases h2 : s.k = 2
  · have h3 := h.2.2
    have hn := e6 h2
    rw [if_neg (by rw [h2, most2]; omega), if_neg (by omega), hn]
    rw [if_neg (by rw [List.length_append, len_list]; omega)]
    have htk : (s.t.data.toList ++ rest).take ((0 : Int) + s.t.size).toNat = s.t.data.toList := by
      rw [show ((0 : Int) + s.t.size).toNat = s.t.data.toList.length by rw [len_list]; omega]; exact List.take_left
    have hdr : (s.t.data.toList ++ rest).drop ((0 : Int) + s.t.size).toNat = rest := by
      rw [show ((0 : Int) + s.t.size).toNat = s.t.data.toList.length by rw [len_list]; omega, List.drop_left]
    rw [htk, hdr]
    rcases h.1.cases with ⟨a, _⟩ | ⟨_, _, a⟩
    · omega
    · rw [a, if_pos rfl, str_eta]
      cases s with | mk k n t => simp only at h2 hn; subst h2; subst hn; rfl
  · obtain ⟨h4, h5⟩ := e7 h2
    have : s.t.size = 0 := by rw [h4]; rfl
    rw [if_neg (by rw [mostN h2]; omega), if_pos h2, this]
    have : s.t.data.toList = [] := by rw [h4]
    rw [this, List.nil_append]
    cases s with | mk k n t => simp only at h4; subst h4; simp
theorem takeSps_put : ∀ (l : List Sp) (p : Option Int) (was : Int) (rest : List UInt8), (∀ s ∈ l, SpIn s) → isNG p l = true → (∀ k, p = some k → was = k) → (p = none → was = 0) → takeSps l.length was (l.flatMap encSp ++ rest) = .ok (l, rest)
  | [], p, was, rest, _, _, _, _ => rfl
  | s :: l, p, was, rest, h, hn, hp, hp0 => by
    simp only [isNG, Bool.and_eq_true, Bool.not_eq_true', decide_eq_false_iff_not] at hn
    have hk := ok_kind (h s (by simp)).1
    have hne : was ≠ s.k := by
      cases p with
      | none => rw [hp0 rfl]; omega
      | some k => rw [hp k rfl]; intro e; exact hn.1.2 (by rw [e])
    simp only [List.length_cons, takeSps, List.flatMap_cons, List.append_assoc]
    rw [takeOne_put (h s (by simp)) hne]
    simp only
    rw [takeSps_put l (some s.k) s.k rest (fun x hx => h x (by simp [hx])) hn.2 (fun k e => Option.some.inj e) (fun e => by cases e)]
theorem isNG_in : ∀ {l : List Sp} {p : Option Int}, isNG p l = true → ∀ s ∈ l, emptyS s = false
  | [], _, _, s, hs => by simp at hs
  | x :: l, p, h, s, hs => by
    simp only [isNG, Bool.and_eq_true, Bool.not_eq_true'] at h
    rcases List.mem_cons.1 hs with rfl | hs
    · exact h.1.1
    · exact isNG_in h.2 s hs
theorem wPutE_ok {l : List Sp} (h : wPutE l = 0) : opMayF l = 0 ∧ isN l = true ∧ l.length ≤ 65536 ∧ ∀ s ∈ l, SpIn s := by
  unfold wPutE at h
  by_cases h1 : opMayF l = 0
  · rw [if_pos h1] at h
    cases h2 : isN l with
    | false => rw [h2] at h; simp at h
    | true =>
      rw [h2, if_pos rfl] at h
      by_cases h3 : 65536 < l.length
      · rw [if_pos h3] at h; exact absurd h (by decide)
      · rw [if_neg h3] at h
        cases h4 : bigT l with
        | true => rw [h4] at h; exact absurd h (by decide)
        | false =>
          refine ⟨h1, rfl, by omega, fun s hs => ⟨((opMay_iff l).1 h1).1 s hs, isNG_in h2 s hs, ?_⟩⟩
          simp only [bigT, List.any_eq_false, decide_eq_true_eq] at h4
          have := h4 s hs; omega
  · rw [if_neg h1] at h; exact absurd h h1
theorem wPutE_of {l : List Sp} (h1 : opMayF l = 0) (h2 : isN l = true) (h3 : l.length ≤ 65536) (h4 : ∀ s ∈ l, s.t.size ≤ 65536) : wPutE l = 0 := by
  have h5 : bigT l = false := by
    simp only [bigT, List.any_eq_false, decide_eq_true_eq]
    intro s hs; have := h4 s hs; omega
  unfold wPutE; rw [if_pos h1, h2, if_pos rfl, if_neg (by omega), h5]; rfl
theorem wTake_put {l : List Sp} (h : wPutE l = 0) (rest : List UInt8) : wTake (encW l ++ rest) = .ok (l, (encW l).length) := by
  obtain ⟨h1, h2, h3, h4⟩ := wPutE_ok h
  have ht := take_put (n := l.length) (by omega) (l.flatMap encSp ++ rest)
  unfold wTake encW
  rw [List.append_assoc, ht]
  simp only [ne_eq, not_true, if_false, Int.toNat_natCast, List.drop_left]
  rw [if_neg (by omega), takeSps_put l none 0 rest h4 h2 (fun k e => by cases e) (fun _ => rfl)]
  simp only [h1, if_true]
  congr 2
  simp only [List.length_append]; omega
theorem takeOne_inv {was : Int} {left l1 : List UInt8} {s : Sp} (h : takeOne was left = .ok (s, l1)) : left = encSp s ++ l1 ∧ SpIn s ∧ s.k ≠ was := by
  unfold takeOne at h
  split at h
  · cases h
  rename_i he
  have he : (takeN left).2.2 = 0 := by omega
  obtain ⟨n, k, e, hq⟩ : ∃ n k e, takeN left = (n, k, e) := ⟨_, _, _, rfl⟩
  rw [hq] at h he
  simp only at h he
  subst he
  unfold takeOne2 at h
  obtain ⟨b1, b2, b3, b4, b5, b6, b7⟩ := put_take hq
  have hl : left = putN n.toNat ++ left.drop k.toNat := by rw [← b6, List.take_append_drop]
  split at h
  · cases h
  rename_i hc
  split at h
  · rename_i h2
    simp only [Except.ok.injEq, Prod.mk.injEq] at h
    obtain ⟨rfl, rfl⟩ := h
    have hk : n % 4 = 1 ∨ n % 4 = 3 := by omega
    have hc2 : ¬ 1048576 < n / 4 := by intro hh; apply hc; rw [mostN h2]; omega
    refine ⟨?_, ⟨SpOK.keep hk (by simp only; omega) rfl, ?_, by show (⟨#[]⟩ : ByteArray).size ≤ _; decide⟩, by simp only; omega⟩
    · unfold encSp
      simp only
      have e0 : (⟨#[]⟩ : ByteArray).size = 0 := rfl
      rw [show ((n / 4 + ((⟨#[]⟩ : ByteArray).size : Int)) * 4 + n % 4).toNat = n.toNat by rw [e0]; omega]
      simpa using hl
    · rw [Bool.eq_false_iff]; intro hh; have := (empty_iff.1 hh).1; simp only at this; omega
  · rename_i h2
    have h2 : n % 4 = 2 := by omega
    split at h
    · cases h
    rename_i h3
    split at h
    · rename_i h4
      simp only [Except.ok.injEq, Prod.mk.injEq] at h
      obtain ⟨rfl, rfl⟩ := h
      have hc2 : ¬ 65536 < n / 4 := by intro hh; apply hc; rw [h2, most2]; omega
      have hsz : ((⟨((left.drop k.toNat).take (n / 4).toNat).toArray⟩ : ByteArray).size : Int) = n / 4 := by
        rw [← len_list]; simp only [List.length_take]; omega
      refine ⟨?_, ⟨SpOK.put rfl rfl (by simpa using h4), ?_, by simp only; omega⟩, by simp only; omega⟩
      · unfold encSp
        simp only [hsz]
        rw [show ((0 + n / 4) * 4 + 2).toNat = n.toNat by omega, List.append_assoc, List.take_append_drop]
        exact hl
      · rw [Bool.eq_false_iff]; intro hh
        have := (empty_iff.1 hh).2
        simp only at this
        rw [this] at hsz
        have e0 : (⟨#[]⟩ : ByteArray).size = 0 := rfl
        rw [e0] at hsz; omega
    · cases h
theorem takeSps_inv : ∀ (m : Nat) (was : Int) (left : List UInt8) (l : List Sp) (l1 : List UInt8), takeSps m was left = .ok (l, l1) → left = l.flatMap encSp ++ l1 ∧ (∀ s ∈ l, SpIn s) ∧ isNG (some was) l = true ∧ l.length = m
  | 0, was, left, l, l1, h => by simp only [takeSps, Except.ok.injEq, Prod.mk.injEq] at h; obtain ⟨rfl, rfl⟩ := h; simp [isNG]
  | m + 1, was, left, l, l1, h => by
    simp only [takeSps] at h
    split at h
    · cases h
    rename_i s l2 h1
    split at h
    · cases h
    rename_i ls l3 h2
    simp only [Except.ok.injEq, Prod.mk.injEq] at h
    obtain ⟨rfl, rfl⟩ := h
    obtain ⟨a1, a2, a3⟩ := takeOne_inv h1
    obtain ⟨c1, c2, c3, c4⟩ := takeSps_inv m s.k l2 ls l3 h2
    refine ⟨by rw [List.flatMap_cons, List.append_assoc, ← c1]; exact a1, fun x hx => ?_, ?_, by simp [c4]⟩
    · rcases List.mem_cons.1 hx with rfl | hx
      · exact a2
      · exact c2 x hx
    · simp only [isNG, a2.2.1, c3, Bool.not_false, Bool.true_and, Bool.and_true, Bool.not_eq_true', decide_eq_false_iff_not, Option.some.injEq]
      exact fun e => a3 e.symm
theorem isNG_none {k : Int} : ∀ {l : List Sp}, isNG (some k) l = true → isN l = true
  | [], _ => rfl
  | s :: l, h => by
    simp only [isN, isNG, Bool.and_eq_true, Bool.not_eq_true'] at h ⊢
    exact ⟨⟨h.1.1, by simp⟩, h.2⟩
theorem wTake_inv {b : List UInt8} {l : List Sp} {k : Int} (h : wTake b = .ok (l, k)) : wPutE l = 0 ∧ k = (encW l).length ∧ b.take k.toNat = encW l ∧ 1 ≤ k ∧ k ≤ b.length := by
  unfold wTake at h
  split at h
  · cases h
  rename_i he
  have he : (takeN b).2.2 = 0 := by omega
  obtain ⟨n, j, e, hq⟩ : ∃ n j e, takeN b = (n, j, e) := ⟨_, _, _, rfl⟩
  rw [hq] at h he
  simp only at h he
  subst he
  obtain ⟨b1, b2, b3, b4, b5, b6, b7⟩ := put_take hq
  split at h
  · cases h
  rename_i h1
  split at h
  · cases h
  rename_i l' left h2
  split at h
  · rename_i h3
    simp only [Except.ok.injEq, Prod.mk.injEq] at h
    obtain ⟨rfl, rfl⟩ := h
    obtain ⟨c1, c2, c3, c4⟩ := takeSps_inv _ _ _ _ _ h2
    have hb : b = encW l' ++ left := by
      unfold encW
      rw [c4, List.append_assoc, ← c1, ← b6, List.take_append_drop]
    have hlen : b.length = (encW l').length + left.length := by rw [hb, List.length_append]
    refine ⟨wPutE_of h3 (isNG_none c3) (by omega) (fun s hs => (c2 s hs).2.2), by omega, ?_, ?_, by omega⟩
    · rw [show ((b.length : Int) - left.length).toNat = (encW l').length by omega]
      conv => lhs; rw [hb]
      exact List.take_left ..
    · have : 1 ≤ (encW l').length := by
        unfold encW; rw [List.length_append]; have := (putN_len (n := l'.length) (by omega)).1; omega
      omega
  · cases h
theorem takeOne_bad (was : Int) (left : List UInt8) (e : Int) (h : takeOne was left = .error e) : e = 7 ∨ e = 8 := by
  unfold takeOne at h
  split at h
  · rename_i he
    simp only [Except.error.injEq] at h
    subst h
    rcases takeN_bad left with ⟨n, k, hq⟩ | hq | hq
    · rw [hq] at he; exact absurd rfl he
    · rw [hq]; exact .inl rfl
    · rw [hq]; exact .inr rfl
  · unfold takeOne2 at h
    split at h
    · exact .inr (Except.error.inj h).symm
    · split at h
      · cases h
      · split at h
        · exact .inl (Except.error.inj h).symm
        · split at h
          · cases h
          · exact .inr (Except.error.inj h).symm
theorem takeSps_bad : ∀ (m : Nat) (was : Int) (left : List UInt8) (e : Int), takeSps m was left = .error e → e = 7 ∨ e = 8
  | 0, was, left, e, h => by simp [takeSps] at h
  | m + 1, was, left, e, h => by
    simp only [takeSps] at h
    split at h
    · rename_i e' h1
      obtain rfl := Except.error.inj h
      exact takeOne_bad _ _ _ h1
    · split at h
      · rename_i e' h2
        obtain rfl := Except.error.inj h
        exact takeSps_bad m _ _ _ h2
      · cases h
theorem wTake_bad {b : List UInt8} {e : Int} (h : wTake b = .error e) : e = 7 ∨ e = 8 := by
  unfold wTake at h
  split at h
  · rename_i he
    simp only [Except.error.injEq] at h
    subst h
    rcases takeN_bad b with ⟨n, k, hq⟩ | hq | hq
    · rw [hq] at he; exact absurd rfl he
    · rw [hq]; exact .inl rfl
    · rw [hq]; exact .inr rfl
  · split at h
    · exact .inr (Except.error.inj h).symm
    · split at h
      · rename_i e' h2
        obtain rfl := Except.error.inj h
        exact takeSps_bad _ _ _ _ h2
      · split at h
        · cases h
        · exact .inr (Except.error.inj h).symm
end Go.Proofs.YtadlnaljicikfaaDoor.Abs

namespace Go.Proofs.YtadlnaljicikfaaDoor.Abs
open Go Go.Lib
set_option linter.unusedSimpArgs false
set_option linter.unusedVariables false
def sPutE (t : ByteArray) : Int := if validD t.data.toList then (if 65536 < t.size then 2 else 0) else 3
def encT (t : ByteArray) : List UInt8 := putN t.size ++ t.data.toList
def sTake2 (n k : Int) (l1 : List UInt8) : Except Int (ByteArray × Int) :=
  if (l1.length : Int) < n then .error 7
  else if validD (l1.take n.toNat) then .ok (⟨(l1.take n.toNat).toArray⟩, k + n)
  else .error 8
def sTake (b : List UInt8) : Except Int (ByteArray × Int) :=
  if (takeN b).2.2 ≠ 0 then .error (takeN b).2.2
  else if 65536 < (takeN b).1 then .error 8
  else sTake2 (takeN b).1 (takeN b).2.1 (b.drop (takeN b).2.1.toNat)
def risesG (was : Int) : List Int → Bool
  | [] => true
  | n :: l => decide (was < n) && decide (n ≤ 268435455) && risesG n l
def rises (l : List Int) : Bool := !l.isEmpty && decide (l.length ≤ 65536) && risesG (-1) l
def rowB (was : Int) : List Int → List UInt8
  | [] => []
  | n :: l => putN (n - was - 1).toNat ++ rowB n l
def encR (l : List Int) : List UInt8 := putN l.length ++ rowB (-1) l
def rPutE (l : List Int) : Int := if rises l then 0 else 2
def rPutB (l : List Int) : List UInt8 := if rises l then encR l else []
def rowTake : Nat → Int → List UInt8 → Except Int (List Int × List UInt8)
  | 0, _, left => .ok ([], left)
  | m + 1, was, left =>
    if (takeN left).2.2 ≠ 0 then .error (takeN left).2.2
    else if 268435455 < was + 1 + (takeN left).1 then .error 8
    else match rowTake m (was + 1 + (takeN left).1) (left.drop (takeN left).2.1.toNat) with
      | .error e => .error e
      | .ok (l, l2) => .ok ((was + 1 + (takeN left).1) :: l, l2)
def rTake (b : List UInt8) : Except Int (List Int × Int) :=
  if (takeN b).2.2 ≠ 0 then .error (takeN b).2.2
  else if (takeN b).1 = 0 ∨ 65536 < (takeN b).1 then .error 8
  else match rowTake (takeN b).1.toNat (-1) (b.drop (takeN b).2.1.toNat) with
    | .error e => .error e
    | .ok (l, left) => .ok (l, (b.length : Int) - left.length)
theorem sTake_put {t : ByteArray} (h : sPutE t = 0) (rest : List UInt8) : sTake (encT t ++ rest) = .ok (t, (encT t).length) := by
  unfold sPutE at h
  cases hv : validD t.data.toList with
  | false => rw [hv] at h; simp at h
  | true =>
    rw [hv, if_pos rfl] at h
    by_cases h2 : 65536 < t.size
    · rw [if_pos h2] at h; exact absurd h (by decide)
    · have ht := take_put (n := t.size) (by omega) (t.data.toList ++ rest)
      unfold sTake encT
      rw [List.append_assoc, ht]
      simp only [ne_eq, not_true, if_false, Int.toNat_natCast, List.drop_left]
      rw [if_neg (by omega)]
      unfold sTake2
      rw [if_neg (by rw [List.length_append, len_list]; omega)]
      simp only [Int.toNat_natCast]
      have htk : (t.data.toList ++ rest).take t.size = t.data.toList := by
        rw [show t.size = t.data.toList.length by rw [len_list], List.take_left]
      rw [htk, hv, if_pos rfl, str_eta]
      congr 2
      simp only [List.length_append, len_list]; omega
theorem sTake_inv {b : List UInt8} {t : ByteArray} {k : Int} (h : sTake b = .ok (t, k)) : sPutE t = 0 ∧ k = (encT t).length ∧ b.take k.toNat = encT t ∧ 1 ≤ k ∧ k ≤ b.length := by
  unfold sTake at h
  split at h
  · cases h
  rename_i he
  have he : (takeN b).2.2 = 0 := by omega
  obtain ⟨n, j, e, hq⟩ : ∃ n j e, takeN b = (n, j, e) := ⟨_, _, _, rfl⟩
  rw [hq] at h he
  simp only at h he
  subst he
  obtain ⟨b1, b2, b3, b4, b5, b6, b7⟩ := put_take hq
  split at h
  · cases h
  rename_i h1
  unfold sTake2 at h
  split at h
  · cases h
  rename_i h2
  split at h
  · rename_i h3
    simp only [Except.ok.injEq, Prod.mk.injEq] at h
    obtain ⟨rfl, rfl⟩ := h
    rw [List.length_drop] at h2
    have hsz : (⟨((b.drop j.toNat).take n.toNat).toArray⟩ : ByteArray).size = n.toNat := by
      rw [← len_list]; simp only [List.length_take, List.length_drop]; omega
    have henc : encT ⟨((b.drop j.toNat).take n.toNat).toArray⟩ = b.take (j + n).toNat := by
      unfold encT
      rw [hsz, show (j + n).toNat = j.toNat + n.toNat by omega, List.take_add, b6]
    refine ⟨?_, ?_, henc.symm, by omega, by omega⟩
    · unfold sPutE; rw [hsz]; simp only; rw [h3, if_pos rfl, if_neg (by omega)]
    · rw [henc, List.length_take]; omega
  · cases h
theorem sTake_bad {b : List UInt8} {e : Int} (h : sTake b = .error e) : e = 7 ∨ e = 8 := by
  unfold sTake at h
  split at h
  · rename_i he
    simp only [Except.error.injEq] at h
    subst h
    rcases takeN_bad b with ⟨n, k, hq⟩ | hq | hq
    · rw [hq] at he; exact absurd rfl he
    · rw [hq]; exact .inl rfl
    · rw [hq]; exact .inr rfl
  · split at h
    · exact .inr (Except.error.inj h).symm
    · unfold sTake2 at h
      split at h
      · exact .inl (Except.error.inj h).symm
      · split at h
        · cases h
        · exact .inr (Except.error.inj h).symm
theorem rowTake_put : ∀ (l : List Int) (was : Int) (rest : List UInt8), -1 ≤ was → risesG was l = true → rowTake l.length was (rowB was l ++ rest) = .ok (l, rest)
  | [], was, rest, _, _ => rfl
  | n :: l, was, rest, h0, h => by
    simp only [risesG, Bool.and_eq_true, decide_eq_true_eq] at h
    obtain ⟨⟨h1, h2⟩, h3⟩ := h
    have ht := take_put (n := (n - was - 1).toNat) (by omega) (rowB n l ++ rest)
    simp only [List.length_cons, rowTake, rowB, List.append_assoc]
    rw [ht]
    simp only [ne_eq, not_true, if_false, Int.toNat_natCast, List.drop_left]
    rw [show was + 1 + (((n - was - 1).toNat : Nat) : Int) = n by omega, if_neg (by omega), rowTake_put l n rest (by omega) h3]
theorem rTake_put {l : List Int} (h : rises l = true) (rest : List UInt8) : rTake (encR l ++ rest) = .ok (l, (encR l).length) := by
  simp only [rises, Bool.and_eq_true, Bool.not_eq_true', decide_eq_true_eq, List.isEmpty_eq_false_iff] at h
  obtain ⟨⟨h1, h2⟩, h3⟩ := h
  have h1 := List.length_pos_iff.2 h1
  have ht := take_put (n := l.length) (by omega) (rowB (-1) l ++ rest)
  unfold rTake encR
  rw [List.append_assoc, ht]
  simp only [ne_eq, not_true, if_false, Int.toNat_natCast, List.drop_left]
  rw [if_neg (by omega), rowTake_put l (-1) rest (by omega) h3]
  simp only
  congr 2
  simp only [List.length_append]; omega
theorem rowTake_inv : ∀ (m : Nat) (was : Int) (left : List UInt8) (l : List Int) (l1 : List UInt8), -1 ≤ was → rowTake m was left = .ok (l, l1) → left = rowB was l ++ l1 ∧ risesG was l = true ∧ l.length = m
  | 0, was, left, l, l1, _, h => by simp only [rowTake, Except.ok.injEq, Prod.mk.injEq] at h; obtain ⟨rfl, rfl⟩ := h; simp [risesG, rowB]
  | m + 1, was, left, l, l1, h0, h => by
    simp only [rowTake] at h
    split at h
    · cases h
    rename_i he
    have he : (takeN left).2.2 = 0 := by omega
    obtain ⟨n, j, e, hq⟩ : ∃ n j e, takeN left = (n, j, e) := ⟨_, _, _, rfl⟩
    rw [hq] at h he
    simp only at h he
    subst he
    obtain ⟨b1, b2, b3, b4, b5, b6, b7⟩ := put_take hq
    split at h
    · cases h
    rename_i h1
    split at h
    · cases h
    rename_i ls l3 h2
    simp only [Except.ok.injEq, Prod.mk.injEq] at h
    obtain ⟨rfl, rfl⟩ := h
    obtain ⟨c1, c2, c3⟩ := rowTake_inv m _ _ ls l3 (by omega) h2
    refine ⟨?_, ?_, by simp [c3]⟩
    · simp only [rowB]
      rw [List.append_assoc, ← c1, show (was + 1 + n - was - 1).toNat = n.toNat by omega, ← b6, List.take_append_drop]
    · simp only [risesG, c2, Bool.and_true, Bool.and_eq_true, decide_eq_true_eq]; omega
theorem rTake_inv {b : List UInt8} {l : List Int} {k : Int} (h : rTake b = .ok (l, k)) : rises l = true ∧ k = (encR l).length ∧ b.take k.toNat = encR l ∧ 1 ≤ k ∧ k ≤ b.length := by
  unfold rTake at h
  split at h
  · cases h
  rename_i he
  have he : (takeN b).2.2 = 0 := by omega
  obtain ⟨n, j, e, hq⟩ : ∃ n j e, takeN b = (n, j, e) := ⟨_, _, _, rfl⟩
  rw [hq] at h he
  simp only at h he
  subst he
  obtain ⟨b1, b2, b3, b4, b5, b6, b7⟩ := put_take hq
  split at h
  · cases h
  rename_i h1
  split at h
  · cases h
  rename_i l' left h2
  simp only [Except.ok.injEq, Prod.mk.injEq] at h
  obtain ⟨rfl, rfl⟩ := h
  obtain ⟨c1, c2, c3⟩ := rowTake_inv _ _ _ _ _ (by omega) h2
  have hb : b = encR l' ++ left := by
    unfold encR
    rw [c3, List.append_assoc, ← c1, ← b6, List.take_append_drop]
  have hlen : b.length = (encR l').length + left.length := by rw [hb, List.length_append]
  refine ⟨?_, by omega, ?_, ?_, by omega⟩
  · simp only [rises, Bool.and_eq_true, Bool.not_eq_true', decide_eq_true_eq, List.isEmpty_eq_false_iff]
    exact ⟨⟨by intro e; subst e; simp at c3; omega, by omega⟩, c2⟩
  · rw [show ((b.length : Int) - left.length).toNat = (encR l').length by omega]
    conv => lhs; rw [hb]
    exact List.take_left ..
  · have : 1 ≤ (encR l').length := by
      unfold encR; rw [List.length_append]; have := (putN_len (n := l'.length) (by omega)).1; omega
    omega
theorem rowTake_bad : ∀ (m : Nat) (was : Int) (left : List UInt8) (e : Int), rowTake m was left = .error e → e = 7 ∨ e = 8
  | 0, was, left, e, h => by simp [rowTake] at h
  | m + 1, was, left, e, h => by
    simp only [rowTake] at h
    split at h
    · rename_i he
      simp only [Except.error.injEq] at h
      subst h
      rcases takeN_bad left with ⟨n, k, hq⟩ | hq | hq
      · rw [hq] at he; exact absurd rfl he
      · rw [hq]; exact .inl rfl
      · rw [hq]; exact .inr rfl
    · split at h
      · exact .inr (Except.error.inj h).symm
      · split at h
        · rename_i e' h2
          obtain rfl := Except.error.inj h
          exact rowTake_bad m _ _ _ h2
        · cases h
theorem rTake_bad {b : List UInt8} {e : Int} (h : rTake b = .error e) : e = 7 ∨ e = 8 := by
  unfold rTake at h
  split at h
  · rename_i he
    simp only [Except.error.injEq] at h
    subst h
    rcases takeN_bad b with ⟨n, k, hq⟩ | hq | hq
    · rw [hq] at he; exact absurd rfl he
    · rw [hq]; exact .inl rfl
    · rw [hq]; exact .inr rfl
  · split at h
    · exact .inr (Except.error.inj h).symm
    · split at h
      · rename_i e' h2
        obtain rfl := Except.error.inj h
        exact rowTake_bad _ _ _ _ h2
      · cases h
end Go.Proofs.YtadlnaljicikfaaDoor.Abs

namespace Go.Proofs.YtadlnaljicikfaaDoor.Abs
open Go
set_option maxRecDepth 100000
set_option linter.unusedSimpArgs false
set_option linter.unusedVariables false
attribute [local irreducible] Ev.Unr Ev.Go' Ev.bytK Ev.runK Ev.FinL Ev.brC Ev.Side Ev.Wp Ev.Again Ev.To Ev.Fin
open Go.Lib Go.RowKit
theorem bits_or (a b : Nat) (ha : a < 9223372036854775808) (hb : b < 9223372036854775808) : bitsOf .or .i64 a b = ((a ||| b : Nat) : Int) := by
  have h1 : (a ||| b) < 2 ^ 63 := Nat.or_lt_two_pow (by simpa using ha) (by simpa using hb)
  show IntKind.i64.wrap (((BitVec.ofInt 64 a ||| BitVec.ofInt 64 b : BitVec 64).toNat : Nat) : Int) = _
  rw [BitVec.toNat_or, BitVec.ofInt_natCast, BitVec.ofInt_natCast, BitVec.toNat_ofNat, BitVec.toNat_ofNat]
  rw [Nat.mod_eq_of_lt (by omega), Nat.mod_eq_of_lt (by omega)]
  rw [Ev.wrap64]; omega
theorem or_fin : ∀ c : Fin 256, (c.val ||| 128) = 128 + c.val % 128 := by decide
theorem u8_or (m : Nat) (h : m < 268435456) : IntKind.u8.wrap (bitsOf .or .i64 m 128) = ((UInt8.ofNat (128 + m % 128)).toNat : Int) := by
  have e := bits_or m 128 (by omega) (by omega)
  rw [show ((128 : Nat) : Int) = 128 from rfl] at e
  rw [e, Ev.wrap8]
  have h1 : (m ||| 128) % 2 ^ 8 = m % 2 ^ 8 ||| 128 % 2 ^ 8 := Nat.or_mod_two_pow ..
  have h2 := or_fin ⟨m % 256, Nat.mod_lt _ (by decide)⟩
  simp only at h2
  rw [ofNat_toNat (by omega)]
  simp only [show (2 : Nat) ^ 8 = 256 from rfl, show 128 % 256 = 128 from rfl] at h1
  omega
theorem and_fin : ∀ c : Fin 256, bitsOf .and .u8 (c.val : Int) 127 = ((c.val % 128 : Nat) : Int) := by decide
theorem and_u8 (c : UInt8) : bitsOf .and .u8 (c.toNat : Int) 127 = ((c.toNat % 128 : Nat) : Int) := and_fin ⟨c.toNat, c.toNat_lt⟩
theorem or_add (a b i : Nat) (h : a < 2 ^ i) : a ||| (b * 2 ^ i) = a + b * 2 ^ i := by
  have := Nat.shiftLeft_add_eq_or_of_lt h b
  rw [Nat.shiftLeft_eq] at this
  rw [Nat.or_comm, ← this, Nat.add_comm]
theorem putG_step {f m : Nat} (h : 128 ≤ m) : putG (f + 1) m = UInt8.ofNat (128 + m % 128) :: putG f (m / 128) := by simp only [putG]; rw [if_neg (by omega)]
theorem putG_end (f : Nat) {m : Nat} (h : m < 128) : putG f m = [UInt8.ofNat m] := by cases f <;> simp only [putG]; rw [if_pos h]
theorem comp98 : ∀ c, Tryd.f98.body = some c → comp c = (.seq (.reg 0 [I.n 0 2 I.sn, I.n 1 3 (I.si 0)]) (.scope (.seq (.seq (.reg 1 [I.n 0 5 (I.mv 0), I.n 1 6 (I.bc .lss 3 5 0 3), I.n 2 7 (I.mv 6), I.w 3 8 (I.mv 0) 7 false, I.w 4 9 (I.bc .gtr 3 8 268435455 3) 7 false, I.n 5 10 (I.pb 7 true 9)]) (.cond (.tmp 10) (.seq (.reg 2 [I.n 0 2 I.sn, I.n 1 3 (I.si 2)]) .ret) .skip)) (.seq (.reg 3 [I.n 0 4 I.sn]) (.seq (.label 0) (.seq (.seq (.reg 4 [I.n 0 11 (I.mv 0), I.n 1 12 (I.bc .geq 3 11 128 3)]) (.cond (.tmp 12) (.seq (.reg 5 [I.n 0 13 (I.mv 4), I.n 1 14 (I.mv 0), I.n 2 15 (I.bc .or 3 14 128 3), I.n 3 16 (I.cv 3 5 15), I.n 4 17 (I.b1 56 16), I.n 5 18 (I.ap 13 17 56 56), I.n 6 4 (I.sa 18)]) (.seq (.reg 6 [I.n 0 19 (I.mv 0), I.n 1 20 (.binOp .shr 3 (.tmp 19) (.const (Value.int .u64 7)) 158), I.n 2 0 (I.sa 20)]) (.goto 0))) .skip)) (.seq (.reg 7 [I.n 0 21 (I.mv 4), I.n 1 22 (I.mv 0), I.n 2 23 (I.cv 3 5 22), I.n 3 24 (I.b1 56 23), I.n 4 25 (I.ap 21 24 56 56), I.n 5 2 (I.sa 25), I.n 6 3 (I.si 0)]) .ret))))))) := by
  intro c h
  have : c = Tryd.f98.body.get rfl := by rw [← Option.some_inj, ← h]; rfl
  rw [this]; rfl
theorem comp130 : ∀ c, Tryd.f130.body = some c → comp c = (.seq (.reg 0 [I.n 0 2 (I.si 0), I.n 1 3 (I.si 0), I.n 2 4 (I.si 0)]) (.seq (.seq (.reg 1 [I.n 0 7 (I.mv 0), I.n 1 8 (I.ln 7 56), I.n 2 9 (.move (.const (Value.int .i64 0)))]) (.block 0 (.loop (.seq (.reg 2 [I.n 0 10 (I.bo .lss 3 9 8 3)]) (.seq (.cond (.tmp 10) .skip (.exit 0)) (.seq (.block 1 (.seq (.reg 3 [I.n 0 11 (I.mv 9), I.n 1 12 (I.ia 56 7 9), I.n 2 13 (I.ld 5 12), I.n 3 5 (I.sa 11), I.n 4 6 (I.sa 13)]) (.seq (.seq (.reg 4 [I.n 0 14 (I.mv 5), I.n 1 15 (I.bc .eql 3 14 4 3)]) (.cond (.tmp 15) (.seq (.reg 5 [I.n 0 2 (I.si 0), I.n 1 3 (I.si 0), I.n 2 4 (I.si 8)]) .ret) .skip)) (.seq (.reg 6 [I.n 0 16 (I.mv 2), I.n 1 17 (I.mv 6), I.n 2 18 (.binOp .and 5 (.tmp 17) (.const (Value.int .u8 127)) 5), I.n 3 19 (I.cv 5 3 18), I.n 4 20 (I.mv 5), I.n 5 21 (.binOp .mul 3 (.const (Value.int .i64 7)) (.tmp 20) 3), I.n 6 22 (I.bo .shl 3 19 21 3), I.n 7 23 (I.bo .or 3 16 22 3), I.n 8 2 (I.sa 23)]) (.seq (.block 2 (.seq (.reg 7 [I.n 0 25 (I.mv 6), I.n 1 26 (.binOp .geq 5 (.tmp 25) (.const (Value.int .u8 128)) 5), I.n 2 24 (I.sa 26)]) (.cond (.tmp 24) (.exit 1) (.seq (.reg 8 [I.n 0 28 (I.mv 6), I.n 1 29 (.binOp .eql 5 (.tmp 28) (.const (Value.int .u8 0)) 5), I.n 2 30 (I.mv 29), I.w 3 31 (I.mv 5) 30 true, I.w 4 32 (I.bc .gtr 3 31 0 3) 30 true, I.n 5 33 (I.pc 30 32 false), I.n 6 27 (I.sa 33)]) (.cond (.tmp 27) (.seq (.reg 9 [I.n 0 2 (I.si 0), I.n 1 3 (I.si 0), I.n 2 4 (I.si 8)]) .ret) .skip))))) (.seq (.reg 10 [I.n 0 34 (I.mv 2), I.n 1 35 (I.mv 5), I.n 2 36 (I.bc .add 3 35 1 3), I.n 3 2 (I.sa 34), I.n 4 3 (I.sa 36), I.n 5 4 (I.si 0)]) .ret)))))) (.reg 11 [I.n 0 37 (I.bc .add 3 9 1 3), I.n 1 9 (I.mv 37)]))))))) (.seq (.seq (.reg 12 [I.n 0 38 (I.mv 0), I.n 1 39 (I.ln 38 56), I.n 2 40 (I.bc .geq 3 39 4 3)]) (.cond (.tmp 40) (.seq (.reg 13 [I.n 0 2 (I.si 0), I.n 1 3 (I.si 0), I.n 2 4 (I.si 8)]) .ret) .skip)) (.seq (.reg 14 [I.n 0 2 (I.si 0), I.n 1 3 (I.si 0), I.n 2 4 (I.si 7)]) .ret)))) := by
  intro c h
  have : c = Tryd.f130.body.get rfl := by rw [← Option.some_inj, ← h]; rfl
  rw [this]; rfl
def putA (n : Int) : AV := if n < 0 ∨ 268435455 < n then .tup [nilA, .v (.int .i64 2)] else .tup [.lst 1 (bts (putN n.toNat)), .v (.int .i64 0)]
theorem putA_bad {n : Int} (h : n < 0 ∨ 268435455 < n) : putA n = .tup [nilA, .v (.int .i64 2)] := if_pos h
theorem putA_ok {n : Int} (h : ¬ n < 0) (h' : ¬ 268435455 < n) : putA n = .tup [.lst 1 (bts (putN n.toNat)), .v (.int .i64 0)] := if_neg (by omega)
theorem fdiv7 (m : Nat) : (m : Int).fdiv (2 ^ min (Int.toNat 7) IntKind.i64.bits) = ((m / 128 : Nat) : Int) := by
  show (m : Int).fdiv 128 = _
  rw [Int.fdiv_eq_ediv_of_nonneg _ (by decide)]; omega
theorem or_row {m : Nat} (h : m < 268435456) : List.take 1 (List.drop 0 [[AV.v (.int .u8 (IntKind.u8.wrap (bitsOf .or .i64 m 128)))]]) = bts [UInt8.ofNat (128 + m % 128)] := by rw [u8_or m h]; rfl
theorem end_row {m : Nat} (h : m < 128) : List.take 1 (List.drop 0 [[AV.v (.int .u8 (IntKind.u8.wrap m))]]) = bts [UInt8.ofNat m] := by
  have : IntKind.u8.wrap m = ((UInt8.ofNat m).toNat : Int) := by rw [ofNat_toNat (by omega), Ev.wrap8]; omega
  rw [this]; rfl
theorem pow_le4 {f m : Nat} (hf : f ≤ 3) (h : m < 128 ^ (f + 1)) : m < 268435456 := by
  have : 128 ^ (f + 1) ≤ 128 ^ 4 := Nat.pow_le_pow_right (by decide) (by omega)
  omega
theorem nput_call (n : Int) : CallW env 98 [.v (.int .i64 n)] (fun r hs => r = putA n ∧ hs = []) := by
  refine Ev.fn [0, 2, 3, 4, 10, 12] 0 [.tmp 2, .tmp 3] Tryd.func98 (comp98 _ rfl) ?_
  repeat' (first | ((refine Ev.sw ?_); conv => whnf) | refine Ev.sn ?_ | ((with_reducible refine Ev.chk_k ?_ ?_); rotate_left; exact Ev.bt; conv => whnf) | ((with_reducible (refine Ev.RI.run ?_; constructor)) <;> intro _) | ((refine Ev.sg ?_); conv => whnf) | ((with_reducible refine Ev.sided ?_ ?_); conv => whnf) | ((with_reducible refine Ev.kr (hs := []) (fun Q hQ => ?_)); (simp only [Ev.runE_cons, Ev.runE_nil]); conv => whnf) | (with_reducible refine hQ _ ?_; clear hQ Q) | ((refine Ev.sf ?_); intro F hF; conv => whnf) | (with_reducible refine hF _ ?_; clear hF F) | ((with_reducible refine Ev.go_k (fun c' => ?_)); conv => whnf) | ((first | refine Ev.el_map0 ?_ (fun hi => ?_) | refine Ev.el_mapN ?_ (fun hi => ?_)); rotate_left; conv => whnf) | ((with_reducible refine Ev.sd0 ?_); exact Ev.sd) | fail)
  refine Ev.jumps (r := ?_) 0 (fun k s => ∃ (f c m v : Nat) (acc : List UInt8), s = ⟨[(0, .v (.int .i64 m)), (2, nilA), (3, .v (.int .i64 0)), (4, .own 2600 v 0 acc.length)], [(2600, ⟨1, 5, v, 0, false, bts acc⟩)], c⟩ ∧ k = f ∧ m < 128 ^ (f + 1) ∧ acc.length + f = 4 ∧ 1 ≤ acc.length ∧ 0 ≤ n ∧ n ≤ 268435455 ∧ putN n.toNat = acc ++ putG f m) (by rfl) ?_ ?_
  · repeat' (first | ((refine Ev.sw ?_); conv => whnf) | refine Ev.sn ?_ | ((with_reducible refine Ev.chk_k ?_ ?_); rotate_left; exact Ev.bt; conv => whnf) | ((with_reducible (refine Ev.RI.run ?_; constructor)) <;> intro _) | ((refine Ev.sg ?_); conv => whnf) | ((with_reducible refine Ev.sided ?_ ?_); conv => whnf) | ((with_reducible refine Ev.kr (hs := []) (fun Q hQ => ?_)); (simp only [Ev.runE_cons, Ev.runE_nil]); conv => whnf) | (with_reducible refine hQ _ ?_; clear hQ Q) | ((refine Ev.sf ?_); intro F hF; conv => whnf) | (with_reducible refine hF _ ?_; clear hF F) | ((with_reducible refine Ev.go_k (fun c' => ?_)); conv => whnf) | ((first | refine Ev.el_map0 ?_ (fun hi => ?_) | refine Ev.el_mapN ?_ (fun hi => ?_)); rotate_left; conv => whnf) | ((with_reducible refine Ev.sd0 ?_); exact Ev.sd) | fail)
    · exact ⟨(putA_bad (.inl (by assumption))).symm, rfl⟩
    · exact ⟨(putA_bad (.inr (by assumption))).symm, rfl⟩
    · rename_i h1 h2 h3
      obtain ⟨m, rfl⟩ := Int.eq_ofNat_of_zero_le (show 0 ≤ n by omega)
      have hr := or_row (m := m) (by omega)
      (refine Ev.to _ ?hs1 ?hh1 ?hc1 ⟨3, 3, 16, m / 128, 8, [UInt8.ofNat (128 + m % 128)], rfl, ?hp1⟩; (case hs1 | hh1 => ((repeat' (first | exact trivial | refine And.intro ?_ ?_)) <;> (first | exact Ev.se | (refine Ev.slot_eq rfl ?_; first | (first | exact fdiv7 m | exact hr | rfl) | ((first | refine Ev.int_eq ?_ | refine Ev.own_eq ?_ | refine Ev.blk_eq ?_); (first | exact fdiv7 m | exact hr | rfl))) | exact Ev.sr))); (case hc1 => exact Nat.le_refl _))
      exact ⟨rfl, by simp; omega, rfl, by simp, by omega, by omega, by rw [Int.toNat_natCast]; unfold putN; rw [putG_step (by omega)]; rfl⟩
    · rename_i h1 h2 h3
      obtain ⟨m, rfl⟩ := Int.eq_ofNat_of_zero_le (show 0 ≤ n by omega)
      refine ⟨?_, rfl⟩
      rw [putA_ok h1 h2]
      unfold putN
      rw [putG_end 4 (by omega)]
      exact Ev.tup2_eq (Ev.lst_eq (Ev.take_all rfl (end_row (by omega)))) rfl
  · rintro k s1 ⟨f, c, m, v, acc, rfl, hk, hm, hl, hl1, h0, h1, hp⟩
    have hm4 := pow_le4 (by omega) hm
    repeat' (first | ((refine Ev.sw ?_); conv => whnf) | refine Ev.sn ?_ | ((with_reducible refine Ev.chk_k ?_ ?_); rotate_left; exact Ev.bt; conv => whnf) | ((with_reducible (refine Ev.RI.run ?_; constructor)) <;> intro _) | ((refine Ev.sg ?_); conv => whnf) | ((with_reducible refine Ev.sided ?_ ?_); conv => whnf) | ((with_reducible refine Ev.kr (hs := []) (fun Q hQ => ?_)); (simp only [Ev.runE_cons, Ev.runE_nil]); conv => whnf) | (with_reducible refine hQ _ ?_; clear hQ Q) | ((refine Ev.sf ?_); intro F hF; conv => whnf) | (with_reducible refine hF _ ?_; clear hF F) | ((with_reducible refine Ev.go_k (fun c' => ?_)); conv => whnf) | ((first | refine Ev.el_map0 ?_ (fun hi => ?_) | refine Ev.el_mapN ?_ (fun hi => ?_)); rotate_left; conv => whnf) | ((with_reducible refine Ev.sd0 ?_); exact Ev.sd) | fail)
    · rename_i h3
      have hr := or_row (m := m) (by omega)
      cases f with
      | zero => omega
      | succ f =>
        (refine Ev.again (k - 1) _ ?hm2 ?hs2 ?hh2 ?hc2 ⟨f, c + 16, m / 128, c + 8, acc ++ [UInt8.ofNat (128 + m % 128)], rfl, ?hp2⟩; (case hs2 | hh2 => ((repeat' (first | exact trivial | refine And.intro ?_ ?_)) <;> (first | exact Ev.se | (refine Ev.slot_eq rfl ?_; first | (first | exact fdiv7 m | (rw [bts_app, hr]; done) | (simp; done) | rfl) | ((first | refine Ev.int_eq ?_ | refine Ev.own_eq ?_ | refine Ev.blk_eq ?_); (first | exact fdiv7 m | (rw [bts_app, hr]; done) | (simp; done) | rfl))) | exact Ev.sr))); (case hc2 => exact Nat.le_refl _); (case hm2 => omega))
        refine ⟨by omega, ?_, by simp; omega, by simp, h0, h1, by rw [hp, putG_step (by omega)]; simp⟩
        rw [Nat.pow_succ] at hm
        exact (Nat.div_lt_iff_lt_mul (by decide)).2 hm
    · rename_i h3
      refine ⟨?_, rfl⟩
      rw [putA_ok (by omega) (by omega), hp, putG_end f (by omega)]
      exact Ev.tup2_eq (Ev.lst_eq (Ev.take_all (by simp) (by rw [bts_app, end_row (by omega)]))) rfl
end Go.Proofs.YtadlnaljicikfaaDoor.Abs

namespace Go.Proofs.YtadlnaljicikfaaDoor.Abs
open Go
set_option maxRecDepth 100000
set_option linter.unusedSimpArgs false
set_option linter.unusedVariables false
attribute [local irreducible] Ev.Unr Ev.Go' Ev.bytK Ev.runK Ev.FinL Ev.brC Ev.Side Ev.Wp Ev.Again Ev.To Ev.Fin
open Go.Lib Go.RowKit
end Go.Proofs.YtadlnaljicikfaaDoor.Abs

namespace Go.Proofs.YtadlnaljicikfaaDoor.Abs
open Go
set_option maxRecDepth 100000
set_option linter.unusedSimpArgs false
set_option linter.unusedVariables false
attribute [local irreducible] Ev.Unr Ev.Go' Ev.bytK Ev.runK Ev.FinL Ev.brC Ev.Side Ev.Wp Ev.Again Ev.To Ev.Fin
open Go.Lib Go.RowKit
def tup3 (x : Int × Int × Int) : AV := .tup [.v (.int .i64 x.1), .v (.int .i64 x.2.1), .v (.int .i64 x.2.2)]
theorem takeG_nil {i acc : Nat} : takeG i acc [] = if 4 ≤ i then (0, 0, 8) else (0, 0, 7) := rfl
theorem takeG_at {b : List UInt8} {i acc : Nat} (hi : i < b.length) : takeG i acc (b.drop i) = if i = 4 then (0, 0, 8) else if 128 ≤ b[i].toNat then takeG (i + 1) (acc + (b[i].toNat - 128) * 128 ^ i) (b.drop (i + 1)) else if b[i].toNat = 0 ∧ 0 < i then (0, 0, 8) else (((acc + b[i].toNat * 128 ^ i : Nat) : Int), ((i + 1 : Nat) : Int), 0) := by
  rw [List.drop_eq_getElem_cons hi]; rfl
theorem shl_or {acc x i : Nat} (hx : x < 128) (ha : acc < 128 ^ i) (hi : i ≤ 3) : bitsOf .or .i64 (acc : Int) (IntKind.i64.wrap ((x : Int) * 2 ^ min (IntKind.i64.wrap (7 * (i : Int))).toNat IntKind.i64.bits)) = ((acc + x * 128 ^ i : Nat) : Int) := by
  have e7 : (IntKind.i64.wrap (7 * (i : Int))).toNat = 7 * i := by clear ha; rw [wrap_id (by omega)]; omega
  have em : min (7 * i) IntKind.i64.bits = 7 * i := by simp only [IntKind.bits]; omega
  have ep : (2 : Int) ^ (7 * i) = ((128 ^ i : Nat) : Int) := by rw [show (128 : Nat) = 2 ^ 7 from rfl, ← Nat.pow_mul, Int.natCast_pow]; rfl
  have h3 : 128 ^ i ≤ 2097152 := by
    have : 128 ^ i ≤ 128 ^ 3 := Nat.pow_le_pow_right (by decide) hi
    omega
  have hb : x * 128 ^ i ≤ 128 * 2097152 := Nat.mul_le_mul (by omega) h3
  rw [e7, em, ep, ← Int.natCast_mul]
  have ew : IntKind.i64.wrap ((x * 128 ^ i : Nat) : Int) = ((x * 128 ^ i : Nat) : Int) := by rw [Ev.wrap64]; omega
  rw [ew, bits_or _ _ (by omega) (by omega)]
  have e2 : 128 ^ i = 2 ^ (7 * i) := by rw [Nat.pow_mul]
  rw [e2] at ha ⊢
  rw [or_add _ _ _ ha]
theorem acc_lt {acc x i : Nat} (hx : x < 128) (ha : acc < 128 ^ i) : acc + x * 128 ^ i < 128 ^ (i + 1) := by
  rw [Nat.pow_succ]
  have : x * 128 ^ i ≤ 127 * 128 ^ i := Nat.mul_le_mul_right _ (by omega)
  omega
theorem take_acc {acc i : Nat} (c : UInt8) (ha : acc < 128 ^ i) (hi : i ≤ 3) : bitsOf .or .i64 (acc : Int) (IntKind.i64.wrap (IntKind.i64.wrap (bitsOf .and .u8 (c.toNat : Int) 127) * 2 ^ min (IntKind.i64.wrap (7 * (i : Int))).toNat IntKind.i64.bits)) = ((acc + c.toNat % 128 * 128 ^ i : Nat) : Int) := by
  rw [and_u8]
  have : IntKind.i64.wrap ((c.toNat % 128 : Nat) : Int) = ((c.toNat % 128 : Nat) : Int) := by clear ha; rw [Ev.wrap64]; omega
  rw [this, shl_or (by omega) ha hi]
theorem wrap_succ {i : Nat} (h : i ≤ 1000000000) : IntKind.i64.wrap ((i : Int) + 1) = ((i + 1 : Nat) : Int) := by rw [wrap_id (by omega)]; omega
theorem ntake_call (b : List UInt8) (hb : b.length ≤ 1000000000) : CallW env 130 [.lst 1 (bts b)] (fun r hs => r = tup3 (takeN b) ∧ hs = []) := by
  refine Ev.fn [0, 2, 3, 4, 5, 6, 7, 8, 9, 10, 15, 24, 27, 40] 0 [.tmp 2, .tmp 3, .tmp 4] Tryd.func130 (comp130 _ rfl) ?_
  repeat' (first | ((refine Ev.sw ?_); conv => whnf) | refine Ev.sn ?_ | ((with_reducible refine Ev.chk_k ?_ ?_); rotate_left; exact Ev.bt; conv => whnf) | ((with_reducible (refine Ev.RI.run ?_; constructor)) <;> intro _) | ((refine Ev.sg ?_); conv => whnf) | ((with_reducible refine Ev.sided ?_ ?_); conv => whnf) | ((with_reducible refine Ev.kr (hs := []) (fun Q hQ => ?_)); (simp only [Ev.runE_cons, Ev.runE_nil]); conv => whnf) | (with_reducible refine hQ _ ?_; clear hQ Q) | ((refine Ev.sf ?_); intro F hF; conv => whnf) | (with_reducible refine hF _ ?_; clear hF F) | ((with_reducible refine Ev.go_k (fun c' => ?_)); conv => whnf) | ((first | refine Ev.el_map0 ?_ (fun hi => ?_) | refine Ev.el_mapN ?_ (fun hi => ?_)); rotate_left; conv => whnf) | ((with_reducible refine Ev.sd0 ?_); exact Ev.sd) | fail)
  refine Ev.loop (fun k s => ∃ i acc : Nat, s = ⟨[(0, .lst 1 (bts b)), (2, .v (.int .i64 acc)), (3, .v (.int .i64 0)), (4, .v (.int .i64 0)), (7, .lst 1 (bts b)), (8, .v (.int .i64 b.length)), (9, .v (.int .i64 i))], [], 0⟩ ∧ k + i = b.length ∧ i ≤ 4 ∧ acc < 128 ^ i ∧ takeN b = takeG i acc (b.drop i)) ?_ ?_
  · (refine Ev.to _ ?hs1 ?hh1 ?hc1 ⟨b.length, 0, 0, rfl, ?hp1⟩; (case hs1 | hh1 => ((repeat' (first | exact trivial | refine And.intro ?_ ?_)) <;> (first | exact Ev.se | (refine Ev.slot_eq rfl ?_; first | (first | rfl | (simp; done)) | ((first | refine Ev.int_eq ?_ | refine Ev.own_eq ?_ | refine Ev.blk_eq ?_); (first | rfl | (simp; done)))) | exact Ev.sr))); (case hc1 => exact Nat.le_refl _))
    exact ⟨by omega, by omega, by simp, by simp [takeN]⟩
  rintro k s1 ⟨i, acc, rfl, hk, hi4, ha, ht⟩
  repeat' (first | ((refine Ev.sw ?_); conv => whnf) | refine Ev.sn ?_ | ((with_reducible refine Ev.chk_k ?_ ?_); rotate_left; exact Ev.bt; conv => whnf) | ((with_reducible (refine Ev.RI.run ?_; constructor)) <;> intro _) | ((refine Ev.sg ?_); conv => whnf) | ((with_reducible refine Ev.sided ?_ ?_); conv => whnf) | ((with_reducible refine Ev.kr (hs := []) (fun Q hQ => ?_)); (simp only [Ev.runE_cons, Ev.runE_nil]); conv => whnf) | (with_reducible refine hQ _ ?_; clear hQ Q) | ((refine Ev.sf ?_); intro F hF; conv => whnf) | (with_reducible refine hF _ ?_; clear hF F) | ((with_reducible refine Ev.go_k (fun c' => ?_)); conv => whnf) | ((first | refine Ev.el_map0 ?_ (fun hi => ?_) | refine Ev.el_mapN ?_ (fun hi => ?_)); rotate_left; conv => whnf) | ((with_reducible refine Ev.sd0 ?_); exact Ev.sd) | fail)
  · rename_i hi h4
    rw [takeG_at hi, if_pos (by omega)] at ht
    rw [ht]; exact ⟨rfl, rfl⟩
  · rename_i hi h4 h8
    rw [takeG_at hi, if_neg (by omega), if_pos (by omega)] at ht
    have e : b[i].toNat % 128 = b[i].toNat - 128 := by have := b[i].toNat_lt; omega
    have hta := take_acc b[i] ha (by omega)
    rw [e] at hta
    (refine Ev.again (k - 1) _ ?hm2 ?hs2 ?hh2 ?hc2 ⟨i + 1, acc + (b[i].toNat - 128) * 128 ^ i, rfl, ?hp2⟩; (case hs2 | hh2 => ((repeat' (first | exact trivial | refine And.intro ?_ ?_)) <;> (first | exact Ev.se | (refine Ev.slot_eq rfl ?_; first | (first | exact hta | (simp; done)) | ((first | refine Ev.int_eq ?_ | refine Ev.own_eq ?_ | refine Ev.blk_eq ?_); (first | exact hta | (simp; done)))) | exact Ev.sr))); (case hc2 => exact Nat.le_refl _); (case hm2 => omega))
    exact ⟨by omega, by omega, by rw [← e]; exact acc_lt (by omega) ha, ht⟩
  · rename_i hi h4 h8 h0 hp
    rw [takeG_at hi, if_neg (by omega), if_neg (by omega), if_pos (by omega)] at ht
    rw [ht]; exact ⟨rfl, rfl⟩
  · rename_i hi h4 h8 h0 hp
    rw [takeG_at hi, if_neg (by omega), if_neg (by omega), if_neg (by omega)] at ht
    have hta := take_acc b[i] ha (by omega)
    rw [show b[i].toNat % 128 = b[i].toNat by omega] at hta
    rw [ht]; exact ⟨Ev.tup3_eq (Ev.int_eq hta) (Ev.int_eq (wrap_succ (by omega))) rfl, rfl⟩
  · rename_i hi h4 h8 h0
    rw [takeG_at hi, if_neg (by omega), if_neg (by omega), if_neg (by omega)] at ht
    have hta := take_acc b[i] ha (by omega)
    rw [show b[i].toNat % 128 = b[i].toNat by omega] at hta
    rw [ht]; exact ⟨Ev.tup3_eq (Ev.int_eq hta) (Ev.int_eq (wrap_succ (by omega))) rfl, rfl⟩
  · refine Ev.Side.of ?_
    clear ha ht; rw [wrap_id (by omega)]; omega
  · rename_i h1 h4
    rw [bts_len] at h4
    rw [List.drop_of_length_le (by omega), takeG_nil, if_pos (by omega)] at ht
    rw [ht]; exact ⟨rfl, rfl⟩
  · rename_i h1 h4
    rw [bts_len] at h4
    rw [List.drop_of_length_le (by omega), takeG_nil, if_neg (by omega)] at ht
    rw [ht]; exact ⟨rfl, rfl⟩
end Go.Proofs.YtadlnaljicikfaaDoor.Abs

namespace Go.Proofs.YtadlnaljicikfaaDoor.Abs
open Go
set_option maxRecDepth 100000
set_option linter.unusedSimpArgs false
set_option linter.unusedVariables false
attribute [local irreducible] Ev.Unr Ev.Go' Ev.bytK Ev.runK Ev.FinL Ev.brC Ev.Side Ev.Wp Ev.Again Ev.To Ev.Fin
open Go.Lib Go.RowKit
end Go.Proofs.YtadlnaljicikfaaDoor.Abs

namespace Go.Proofs.YtadlnaljicikfaaDoor.Abs
open Go
set_option maxRecDepth 100000
set_option linter.unusedSimpArgs false
set_option linter.unusedVariables false
attribute [local irreducible] Ev.Unr Ev.Go' Ev.bytK Ev.runK Ev.FinL Ev.brC Ev.Side Ev.Wp Ev.Again Ev.To Ev.Fin
open Go.Lib Go.RowKit
theorem comp80 : ∀ c, Tryd.f80.body = some c → comp c = (.seq (.reg 0 [I.n 0 1 (.box 35 (.tmp 0)), I.n 1 2 (I.sb false)]) (.seq (.reg 1 [I.n 0 3 (I.fa 35 1 1), I.n 1 4 (I.ld 3 3), I.n 2 5 (I.bc .eql 3 4 0 3), I.n 3 6 (I.mv 5), I.w 4 7 (I.fa 35 1 2) 6 true, I.w 5 8 (I.ld 9 7) 6 true, I.w 6 9 (.binOp .eql 9 (.tmp 8) (.const (Value.string { data := #[] })) 9) 6 true, I.n 7 10 (I.pc 6 9 false), I.n 8 2 (I.sa 10)]) .ret)) := by
  intro c h
  have : c = Tryd.f80.body.get rfl := by rw [← Option.some_inj, ← h]; rfl
  rw [this]; rfl
theorem comp65 : ∀ c, Tryd.f65.body = some c → comp c = (.seq (.reg 0 [I.n 0 2 (I.sb false)]) (.seq (.seq (.reg 1 [I.n 0 5 (I.mv 0), I.n 1 6 (I.ln 5 23), I.n 2 7 (.move (.const (Value.int .i64 0)))]) (.block 0 (.loop (.seq (.reg 2 [I.n 0 8 (I.bo .lss 3 7 6 3)]) (.seq (.cond (.tmp 8) .skip (.exit 0)) (.seq (.block 1 (.seq (.reg 3 [I.n 0 9 (I.mv 7), I.n 1 10 (I.ia 23 5 7), I.n 2 11 (I.ld 35 10), I.n 3 4 (.alloc 35), I.n 4 3 (I.sa 9), I.u 5 (I.st 35 4 11)]) (.seq (.draw 4 [I.n 0 12 (I.ld 35 4), I.n 1 13 (I.c1 80 12 35), I.n 2 14 (I.mv 13), I.w 3 15 (I.mv 3) 14 false, I.w 4 16 (I.bc .gtr 3 15 0 3) 14 false, I.w 5 17 (I.mv 16) 14 false, I.w 6 18 (I.fa 35 4 0) 17 true, I.w 7 19 (I.ld 3 18) 17 true, I.w 8 20 (I.mv 0) 17 true, I.w 9 21 (I.mv 3) 17 true, I.w 10 22 (I.bc .sub 3 21 1 3) 17 true, I.w 11 23 (I.ia 23 20 22) 17 true, I.w 12 24 (I.fa 35 23 0) 17 true, I.w 13 25 (I.ld 3 24) 17 true, I.w 14 26 (I.bo .eql 3 19 25 3) 17 true, I.w 15 27 (I.pc 17 26 false) 14 false, I.n 16 28 (I.pb 14 true 27)] [[], [0], [1, 1], [2], [3, 2], [4, 2, 2], [5], [6, 5], [5], [5], [9, 5], [8, 10, 5], [11, 5], [12, 5], [7, 13, 5], [5, 14, 2], [2, 15]]) (.cond (.tmp 28) (.seq (.reg 5 [I.n 0 2 (I.sb false)]) .ret) .skip)))) (.reg 6 [I.n 0 29 (I.bc .add 3 7 1 3), I.n 1 7 (I.mv 29)]))))))) (.seq (.reg 7 [I.n 0 2 (I.sb true)]) .ret))) := by
  intro c h
  have : c = Tryd.f65.body.get rfl := by rw [← Option.some_inj, ← h]; rfl
  rw [this]; rfl
theorem empty_call (s : Sp) : CallW env 80 [spanA s.k s.n s.t] (fun r hs => r = .v (.bool (emptyS s)) ∧ hs = []) := by
  refine Ev.fn [0, 1, 2] 0 [.tmp 2] Tryd.func80 (comp80 _ rfl) ?_
  repeat' (first | ((refine Ev.sw ?_); conv => whnf) | refine Ev.sn ?_ | ((with_reducible refine Ev.chk_k ?_ ?_); rotate_left; exact Ev.bt; conv => whnf) | ((with_reducible (refine Ev.RI.run ?_; constructor)) <;> intro _) | ((refine Ev.sg ?_); conv => whnf) | ((with_reducible refine Ev.sided ?_ ?_); conv => whnf) | ((with_reducible refine Ev.kr (hs := []) (fun Q hQ => ?_)); (simp only [Ev.runE_cons, Ev.runE_nil]); conv => whnf) | (with_reducible refine hQ _ ?_; clear hQ Q) | ((refine Ev.sf ?_); intro F hF; conv => whnf) | (with_reducible refine hF _ ?_; clear hF F) | ((with_reducible refine Ev.go_k (fun c' => ?_)); conv => whnf) | ((first | refine Ev.el_map0 ?_ (fun hi => ?_) | refine Ev.el_mapN ?_ (fun hi => ?_)); rotate_left; conv => whnf) | ((with_reducible refine Ev.sd0 ?_); exact Ev.sd) | fail)
  · rename_i h
    exact ⟨Ev.bool_eq (by simp [emptyS, h]), rfl⟩
  · rename_i h
    exact ⟨Ev.bool_eq (by simp [emptyS, h]), rfl⟩
def prevK (l : List Sp) : Nat → Option Int
  | 0 => none
  | i + 1 => (l[i]?).map Sp.k
theorem isN_at {l : List Sp} {i : Nat} (hi : i < l.length) : isNG (prevK l i) (l.drop i) = (!emptyS l[i] && !decide (prevK l i = some l[i].k) && isNG (prevK l (i + 1)) (l.drop (i + 1))) := by
  rw [List.drop_eq_getElem_cons hi]
  simp only [isNG, prevK, List.getElem?_eq_getElem hi, Option.map_some]
theorem prev_at {l : List Sp} {i : Nat} (h0 : 0 < i) (hi : i - 1 < l.length) : prevK l i = some (l[i - 1]).k := by
  cases i with
  | zero => omega
  | succ i => simp only [Nat.add_sub_cancel] at hi ⊢; simp only [prevK, List.getElem?_eq_getElem hi, Option.map_some]
theorem pred_nat {i : Nat} (h0 : (0 : Int) < i) (hi : i ≤ 1000000000) : (IntKind.i64.wrap ((i : Int) - 1)).toNat = i - 1 := by rw [wrap_id (by omega)]; omega
theorem pred_side {l : List Sp} {i : Nat} (h0 : (0 : Int) < i) (hi : i ≤ 1000000000) (hl : i < l.length) : Ev.Side ((IntKind.i64.wrap ((i : Int) - 1)).toNat < l.length) := by
  refine Ev.Side.of ?_; rw [pred_nat h0 hi]; omega
theorem pred_at {l : List Sp} {i : Nat} (h0 : (0 : Int) < i) (hi : i ≤ 1000000000) (h' : (IntKind.i64.wrap ((i : Int) - 1)).toNat < l.length) : prevK l i = some (l[(IntKind.i64.wrap ((i : Int) - 1)).toNat]'h').k := by
  have e := pred_nat h0 hi
  rw [e] at h'
  simp only [e]
  exact prev_at (by omega) h'
theorem isN_false {l : List Sp} {i : Nat} (hi : i < l.length) (ht : isN l = isNG (prevK l i) (l.drop i)) (h : emptyS l[i] = true ∨ prevK l i = some l[i].k) : AV.v (Value.bool false) = AV.v (Value.bool (isN l)) := by
  refine Ev.bool_eq ?_
  rw [ht, isN_at hi]
  rcases h with h | h <;> rw [h] <;> simp
theorem isN_next {l : List Sp} {i : Nat} (hi : i < l.length) (ht : isN l = isNG (prevK l i) (l.drop i)) (h : emptyS l[i] = false) (h2 : ¬ prevK l i = some l[i].k) : isN l = isNG (prevK l (i + 1)) (l.drop (i + 1)) := by
  rw [ht, isN_at hi, h, decide_eq_false h2]; simp
theorem prev_ne {l : List Sp} {i : Nat} (h : ¬ (0 : Int) < i) (hi : i < l.length) : ¬ prevK l i = some l[i].k := by
  have : i = 0 := by omega
  subst this; simp [prevK]
theorem is_call (l : List Sp) (hl : l.length ≤ 1000000000) : CallW env 65 [.lst 3 (sps l)] (fun r hs => r = .v (.bool (isN l)) ∧ hs = []) := by
  have hsl := sps_len l
  refine Ev.fn [0, 2, 3, 4, 5, 6, 7, 8, 28] 0 [.tmp 2] Tryd.func65 (comp65 _ rfl) ?_
  repeat' (first | ((refine Ev.sw ?_); conv => whnf) | refine Ev.sn ?_ | ((with_reducible refine Ev.chk_k ?_ ?_); rotate_left; exact Ev.bt; conv => whnf) | ((with_reducible (refine Ev.RI.run ?_; constructor)) <;> intro _) | ((refine Ev.sg ?_); conv => whnf) | ((with_reducible refine Ev.sided ?_ ?_); conv => whnf) | ((with_reducible refine Ev.kr (hs := []) (fun Q hQ => ?_)); (simp only [Ev.runE_cons, Ev.runE_nil]); conv => whnf) | (with_reducible refine hQ _ ?_; clear hQ Q) | ((refine Ev.sf ?_); intro F hF; conv => whnf) | (with_reducible refine hF _ ?_; clear hF F) | ((with_reducible refine Ev.go_k (fun c' => ?_)); conv => whnf) | ((with_reducible refine Ev.dr0 ?_); (first | refine Ev.dr 4 [] [0, 1, 2, 3, 4, 5, 6, 7, 8, 9, 10, 11, 12, 13, 14, 15, 16] ?_); intro Q hQ; (simp only [Ev.runE_cons, Ev.runE_nil]); conv => whnf) | ((first | refine Ev.el_map0 ?_ (fun hi => ?_) | refine Ev.el_mapN ?_ (fun hi => ?_)); rotate_left; conv => whnf) | ((with_reducible refine Ev.sd0 ?_); exact Ev.sd) | fail)
  refine Ev.loop (fun k s => ∃ i c : Nat, s = ⟨[(0, .lst 3 (sps l)), (2, .v (.bool false)), (5, .lst 3 (sps l)), (6, .v (.int .i64 l.length)), (7, .v (.int .i64 i))], [], c⟩ ∧ k + i = l.length ∧ isN l = isNG (prevK l i) (l.drop i)) ?_ ?_
  · (refine Ev.to _ ?hs1 ?hh1 ?hc1 ⟨l.length, 0, 0, rfl, ?hp1⟩; (case hs1 | hh1 => ((repeat' (first | exact trivial | refine And.intro ?_ ?_)) <;> (first | exact Ev.se | (refine Ev.slot_eq rfl ?_; first | (first | rfl | (simp; done)) | ((first | refine Ev.int_eq ?_ | refine Ev.own_eq ?_ | refine Ev.blk_eq ?_); (first | rfl | (simp; done)))) | exact Ev.sr))); (case hc1 => exact Nat.le_refl _))
    exact ⟨by omega, rfl⟩
  rintro k s1 ⟨i, c, rfl, hk, ht⟩
  repeat' (first | ((refine Ev.sw ?_); conv => whnf) | refine Ev.sn ?_ | ((with_reducible refine Ev.chk_k ?_ ?_); rotate_left; exact Ev.bt; conv => whnf) | ((with_reducible (refine Ev.RI.run ?_; constructor)) <;> intro _) | ((refine Ev.sg ?_); conv => whnf) | ((with_reducible refine Ev.sided ?_ ?_); conv => whnf) | ((with_reducible refine Ev.kr (hs := []) (fun Q hQ => ?_)); (simp only [Ev.runE_cons, Ev.runE_nil]); conv => whnf) | (with_reducible refine hQ _ ?_; clear hQ Q) | ((refine Ev.sf ?_); intro F hF; conv => whnf) | (with_reducible refine hF _ ?_; clear hF F) | ((with_reducible refine Ev.go_k (fun c' => ?_)); conv => whnf) | ((with_reducible refine Ev.ca0 ?_); (first | refine Ev.call_det (empty_call _) rfl rfl ?_ | refine Ev.ca (empty_call _) ?_); conv => whnf) | ((with_reducible refine Ev.dr0 ?_); (first | refine Ev.dr 4 [] [0, 1, 2, 3, 4, 5, 6, 7, 8, 9, 10, 11, 12, 13, 14, 15, 16] ?_); intro Q hQ; (simp only [Ev.runE_cons, Ev.runE_nil]); conv => whnf) | ((first | refine Ev.el_map0 ?_ (fun hi => ?_) | refine Ev.el_mapN ?_ (fun hi => ?_)); rotate_left; conv => whnf) | ((with_reducible refine Ev.sd0 ?_); exact Ev.sd) | fail)
  · rename_i h
    exact ⟨isN_false hi ht (.inl h), rfl⟩
  · rename_i hi' h h0 hq
    exact ⟨isN_false hi' ht (.inr ((pred_at h0 (by omega) hi).trans (congrArg some hq.symm))), rfl⟩
  · rename_i hi' h h0 hq
    (refine Ev.again (k - 1) _ ?hm2 ?hs2 ?hh2 ?hc2 ⟨i + 1, c + 8, rfl, ?hp2⟩; (case hs2 | hh2 => ((repeat' (first | exact trivial | refine And.intro ?_ ?_)) <;> (first | exact Ev.se | (refine Ev.slot_eq rfl ?_; first | (first | exact wrap_succ (by omega) | rfl) | ((first | refine Ev.int_eq ?_ | refine Ev.own_eq ?_ | refine Ev.blk_eq ?_); (first | exact wrap_succ (by omega) | rfl))) | exact Ev.sr))); (case hc2 => exact Nat.le_refl _); (case hm2 => omega))
    exact ⟨by omega, isN_next hi' ht h (fun e => hq (Option.some.inj (e.symm.trans (pred_at h0 (by omega) hi))))⟩
  · exact pred_side (by assumption) (by omega) (by omega)
  · rename_i h h0
    (refine Ev.again (k - 1) _ ?hm3 ?hs3 ?hh3 ?hc3 ⟨i + 1, c + 8, rfl, ?hp3⟩; (case hs3 | hh3 => ((repeat' (first | exact trivial | refine And.intro ?_ ?_)) <;> (first | exact Ev.se | (refine Ev.slot_eq rfl ?_; first | (first | exact wrap_succ (by omega) | rfl) | ((first | refine Ev.int_eq ?_ | refine Ev.own_eq ?_ | refine Ev.blk_eq ?_); (first | exact wrap_succ (by omega) | rfl))) | exact Ev.sr))); (case hc3 => exact Nat.le_refl _); (case hm3 => omega))
    exact ⟨by omega, isN_next hi ht h (prev_ne h0 hi)⟩
  · rw [List.drop_of_length_le (by omega)] at ht
    exact ⟨Ev.bool_eq ht.symm, rfl⟩
end Go.Proofs.YtadlnaljicikfaaDoor.Abs

namespace Go.Proofs.YtadlnaljicikfaaDoor.Abs
open Go
set_option maxRecDepth 100000
set_option linter.unusedSimpArgs false
set_option linter.unusedVariables false
attribute [local irreducible] Ev.Unr Ev.Go' Ev.bytK Ev.runK Ev.FinL Ev.brC Ev.Side Ev.Wp Ev.Again Ev.To Ev.Fin
open Go.Lib Go.RowKit
theorem comp49 : ∀ c, Tryd.f49.body = some c → comp c = (.seq (.reg 0 [I.n 0 2 I.sn, I.n 1 3 (I.si 0)]) (.seq (.seq (.reg 1 [I.n 0 9 (I.mv 0), I.n 1 10 (I.c1 72 9 23), I.n 2 4 (I.sa 10)]) (.seq (.reg 2 [I.n 0 11 (I.mv 4), I.n 1 12 (I.bc .neq 30 11 0 30)]) (.cond (.tmp 12) (.seq (.reg 3 [I.n 0 13 (I.mv 4), I.n 1 2 I.sn, I.n 2 3 (I.sa 13)]) .ret) .skip))) (.seq (.seq (.reg 4 [I.n 0 14 (I.mv 0), I.n 1 15 (I.c1 65 14 23), I.n 2 16 (.unOp .not 4 (.tmp 15))]) (.cond (.tmp 16) (.seq (.reg 5 [I.n 0 2 I.sn, I.n 1 3 (I.si 8)]) .ret) .skip)) (.seq (.seq (.reg 6 [I.n 0 17 (I.mv 0), I.n 1 18 (I.ln 17 23), I.n 2 19 (I.bc .gtr 3 18 65536 3)]) (.cond (.tmp 19) (.seq (.reg 7 [I.n 0 2 I.sn, I.n 1 3 (I.si 2)]) .ret) .skip)) (.seq (.reg 8 [I.n 0 5 (.alloc 56)]) (.seq (.reg 9 [I.n 0 20 (.makeFunc (.func 97) #[] #[.tmp 5]), I.n 1 6 (I.sa 20)]) (.seq (.reg 10 [I.n 0 21 (I.mv 6), I.n 1 22 (I.mv 0), I.n 2 23 (I.ln 22 23), I.n 3 24 (.call { callee := .value (.tmp 21), args := #[.tmp 23], argTypes := #[3] })]) (.seq (.seq (.reg 11 [I.n 0 25 (I.mv 0), I.n 1 26 (I.ln 25 23), I.n 2 27 (.move (.const (Value.int .i64 0)))]) (.block 0 (.loop (.seq (.reg 12 [I.n 0 28 (I.bo .lss 3 27 26 3)]) (.seq (.cond (.tmp 28) .skip (.exit 0)) (.seq (.block 1 (.seq (.reg 13 [I.n 0 29 (I.ia 23 25 27), I.n 1 30 (I.ld 35 29), I.n 2 8 (.alloc 35), I.u 3 (I.st 35 8 30)]) (.seq (.seq (.reg 14 [I.n 0 31 (I.fa 35 8 2), I.n 1 32 (I.ld 9 31), I.n 2 33 (I.ln 32 9), I.n 3 34 (I.bc .gtr 3 33 65536 3)]) (.cond (.tmp 34) (.seq (.reg 15 [I.n 0 2 I.sn, I.n 1 3 (I.si 2)]) .ret) .skip)) (.seq (.reg 16 [I.n 0 35 (I.mv 6), I.n 1 36 (I.fa 35 8 1), I.n 2 37 (I.ld 3 36), I.n 3 38 (I.fa 35 8 2), I.n 4 39 (I.ld 9 38), I.n 5 40 (I.ln 39 9), I.n 6 41 (I.bo .add 3 37 40 3), I.n 7 42 (I.bc .mul 3 41 4 3), I.n 8 43 (I.fa 35 8 0), I.n 9 44 (I.ld 3 43), I.n 10 45 (I.bo .add 3 42 44 3), I.n 11 46 (.call { callee := .value (.tmp 35), args := #[.tmp 45], argTypes := #[3] })]) (.reg 17 [I.n 0 47 (I.ld 56 5), I.n 1 48 (I.fa 35 8 2), I.n 2 49 (I.ld 9 48), I.n 3 50 (I.ap 47 49 56 9), I.u 4 (I.st 56 5 50)]))))) (.reg 18 [I.n 0 51 (I.bc .add 3 27 1 3), I.n 1 27 (I.mv 51)]))))))) (.seq (.reg 19 [I.n 0 52 (I.ld 56 5), I.n 1 2 (I.sa 52), I.n 2 3 (I.si 0)]) .ret))))))))) := by
  intro c h
  have : c = Tryd.f49.body.get rfl := by rw [← Option.some_inj, ← h]; rfl
  rw [this]; rfl
theorem comp97 : ∀ c, Tryd.f97.body = some c → comp c = (.seq (.reg 0 [I.n 0 6 (I.mv 0), I.n 1 7 (I.c1 98 6 3), I.n 2 5 (I.mv 7), I.n 3 8 (I.ex 5 0), I.n 4 9 (I.ex 5 1), I.n 5 3 (I.sa 8), I.n 6 4 (I.sa 9)]) (.reg 1 [I.n 0 10 (I.ld 56 1), I.n 1 11 (I.mv 3), I.n 2 12 (I.ap 10 11 56 56), I.u 3 (I.st 56 1 12)])) := by
  intro c h
  have : c = Tryd.f97.body.get rfl := by rw [← Option.some_inj, ← h]; rfl
  rw [this]; rfl
theorem nput_ok {n : Int} (h : 0 ≤ n ∧ n ≤ 268435455) : CallW env 98 [.v (.int .i64 n)] (fun r hs => r = .tup [.lst 1 (bts (putN n.toNat)), .v (.int .i64 0)] ∧ hs = []) := by
  rw [← putA_ok (by omega) (by omega)]; exact nput_call n
theorem nput_head {s : Sp} (h : SpIn s) : CallW env 98 [.v (.int .i64 (IntKind.i64.wrap (IntKind.i64.wrap (IntKind.i64.wrap (s.n + s.t.size) * 4) + s.k)))] (fun r hs => r = .tup [.lst 1 (bts (putN (headOf s))), .v (.int .i64 0)] ∧ hs = []) := by
  obtain ⟨e1, e2, e3, e4, e5, e6, e7⟩ := head_facts h
  have hk := ok_kind h.1
  have ew : IntKind.i64.wrap (IntKind.i64.wrap (IntKind.i64.wrap (s.n + s.t.size) * 4) + s.k) = (headOf s : Int) := by
    rw [wrap_id (a := s.n + s.t.size) (by omega), wrap_id (a := (s.n + s.t.size) * 4) (by omega), wrap_id (by omega), e1]
  rw [ew]
  exact nput_ok (by omega)
def wPutA (l : List Sp) : AV := if wPutE l = 0 then .tup [.lst 1 (bts (encW l)), .v (.int .i64 0)] else .tup [nilA, .v (.int .i64 (wPutE l))]
theorem wPutA_ok {l : List Sp} (h : wPutE l = 0) : wPutA l = .tup [.lst 1 (bts (encW l)), .v (.int .i64 0)] := if_pos h
theorem wPutA_bad {l : List Sp} {e : Int} (h : wPutE l = e) (he : e ≠ 0) : wPutA l = .tup [nilA, .v (.int .i64 e)] := by subst h; exact if_neg he
def encTo (l : List Sp) (i : Nat) : List UInt8 := putN l.length ++ (l.take i).flatMap encSp
theorem encTo_succ {l : List Sp} {i : Nat} (hi : i < l.length) : encTo l (i + 1) = (encTo l i ++ putN (headOf l[i])) ++ l[i].t.data.toList := by
  unfold encTo
  rw [List.take_succ_eq_append_getElem hi, List.flatMap_append]
  simp [encSp, headOf]
theorem encTo_all (l : List Sp) {i : Nat} (h : l.length ≤ i) : encTo l i = encW l := by
  unfold encTo encW; rw [List.take_of_length_le h]
theorem tbs_take (l : List Sp) {i : Nat} (hi : i < l.length) : tbs (l.take (i + 1)) = tbs (l.take i) + l[i].t.size := by
  unfold tbs; rw [List.take_succ_eq_append_getElem hi, List.map_append, List.sum_append]; simp
theorem tbs_le (l : List Sp) (i : Nat) : tbs (l.take i) ≤ tbs l := by
  have : tbs l = tbs (l.take i) + tbs (l.drop i) := by
    conv => lhs; rw [← List.take_append_drop i l]
    unfold tbs; rw [List.map_append, List.sum_append]
  omega
theorem flat_len : ∀ (l : List Sp), (∀ s ∈ l, SpIn s) → (l.flatMap encSp).length ≤ 4 * l.length + tbs l
  | [], _ => by simp
  | s :: l, h => by
    have h1 := flat_len l (fun x hx => h x (by simp [hx]))
    have h2 := (head_facts (h s (by simp))).2.1
    have h3 := (putN_len h2).2
    rw [List.flatMap_cons, tbs_cons, List.length_append, List.length_cons]
    have : (encSp s).length = (putN (headOf s)).length + s.t.size := by simp [encSp, headOf]
    omega
theorem encTo_len {l : List Sp} {i : Nat} (hl : l.length ≤ 65536) (hi : i < l.length) (h : ∀ s ∈ l.take i, SpIn s) (hb : tbs l + 4 * l.length ≤ 1000000000) : (encTo l i).length ≤ 1000000000 := by
  have h1 := flat_len _ h
  have h2 := tbs_le l i
  have h3 := (putN_len (n := l.length) (by omega)).2
  have h4 : (l.take i).length = i := by rw [List.length_take]; omega
  unfold encTo
  rw [List.length_append]; omega
theorem wput_call (l : List Sp) (hs : Small l) (hb : tbs l + 4 * l.length ≤ 1000000000) : CallW env 49 [.lst 3 (sps l)] (fun r hs => r = wPutA l ∧ hs = []) := by
  have hsl := sps_len l
  refine Ev.fn [0, 2, 3, 4, 5, 6, 8, 12, 16, 19, 25, 26, 27, 28, 34] 0 [.tmp 2, .tmp 3] Tryd.func49 (comp49 _ rfl) ?_
  repeat' (first | ((refine Ev.sw ?_); conv => whnf) | refine Ev.sn ?_ | ((with_reducible refine Ev.chk_k ?_ ?_); rotate_left; exact Ev.bt; conv => whnf) | ((with_reducible (refine Ev.RI.run ?_; constructor)) <;> intro _) | ((refine Ev.sg ?_); conv => whnf) | ((with_reducible refine Ev.sided ?_ ?_); conv => whnf) | ((with_reducible refine Ev.kr (hs := [97]) (fun Q hQ => ?_)); (simp only [Ev.runE_cons, Ev.runE_nil]); conv => whnf) | (with_reducible refine hQ _ ?_; clear hQ Q) | ((refine Ev.sf ?_); intro F hF; conv => whnf) | (with_reducible refine hF _ ?_; clear hF F) | ((with_reducible refine Ev.go_k (fun c' => ?_)); conv => whnf) | ((with_reducible refine Ev.ca0 ?_); (first | refine Ev.call_det (opMay_call l (by omega) hs) rfl rfl ?_ | refine Ev.call_det (is_call l (by omega)) rfl rfl ?_ | refine Ev.call_det (nput_ok (show 0 ≤ (l.length : Int) ∧ (l.length : Int) ≤ 268435455 by omega)) rfl rfl ?_ | refine Ev.ca (opMay_call l (by omega) hs) ?_ | refine Ev.ca (is_call l (by omega)) ?_ | refine Ev.ca (nput_ok (show 0 ≤ (l.length : Int) ∧ (l.length : Int) ≤ 268435455 by omega)) ?_); conv => whnf) | ((with_reducible refine Ev.il0 97 ?_); refine Ev.il 97 [0, 1, 3] [] Tryd.func97 (comp97 _ rfl) (fun ct' => ?_)) | ((first | refine Ev.el_map0 ?_ (fun hi => ?_) | refine Ev.el_mapN ?_ (fun hi => ?_)); rotate_left; conv => whnf) | ((with_reducible refine Ev.sd0 ?_); exact Ev.sd) | fail)
  · rename_i h1 h2 h3
    have : wPutE l = 2 := by unfold wPutE; rw [if_pos h1, if_pos h2, if_pos (by omega)]
    exact ⟨(wPutA_bad this (by decide)).symm, rfl⟩
  · rename_i h1 h2 h3
    have hlen : l.length ≤ 65536 := by omega
    have hspk : ∀ s ∈ l, SpOK s := ((opMay_iff l).1 h1).1
    have hne : ∀ s ∈ l, emptyS s = false := isNG_in h2
    refine Ev.loop (fun k s => ∃ i c v : Nat, s = ⟨[(0, .lst 3 (sps l)), (2, nilA), (3, .v (.int .i64 0)), (5, .ptr 4096 0 0 0), (6, .clo (.func 97) [] [.ptr 4096 0 0 0]), (25, .lst 3 (sps l)), (26, .v (.int .i64 l.length)), (27, .v (.int .i64 i))],
      [(4096, ⟨1, 56, 0, 0, true, [[.own 337183248 v 0 (encTo l i).length]]⟩), (337183248, ⟨1, 5, v, 0, false, bts (encTo l i)⟩)], c⟩ ∧ k + i = l.length ∧ ∀ s ∈ l.take i, SpIn s) ?_ ?_
    · have e0 : (bts (putN (l.length : Int).toNat)).length = (encTo l 0).length := by simp [encTo]
      (refine Ev.to _ ?hs1 ?hh1 ?hc1 ⟨l.length, 0, c', ct', rfl, ?hp1⟩; (case hs1 | hh1 => ((repeat' (first | exact trivial | refine And.intro ?_ ?_)) <;> (first | exact Ev.se | (refine Ev.slot_eq rfl ?_; first | (first | (exact congrArg (fun n => Blk.mk 1 56 0 0 true [[AV.own 337183248 _ 0 n]]) e0) | rfl | (simp [encTo]; done)) | ((first | refine Ev.int_eq ?_ | refine Ev.own_eq ?_ | refine Ev.blk_eq ?_); (first | (exact congrArg (fun n => Blk.mk 1 56 0 0 true [[AV.own 337183248 _ 0 n]]) e0) | rfl | (simp [encTo]; done)))) | exact Ev.sr))); (case hc1 => exact Nat.le_refl _))
      exact ⟨by omega, by simp⟩
    rintro k s1 ⟨i, c, v, rfl, hk, hin⟩
    repeat' (first | ((refine Ev.sw ?_); conv => whnf) | refine Ev.sn ?_ | ((with_reducible refine Ev.chk_k ?_ ?_); rotate_left; exact Ev.bt; conv => whnf) | ((with_reducible (refine Ev.RI.run ?_; constructor)) <;> intro _) | ((refine Ev.sg ?_); conv => whnf) | ((with_reducible refine Ev.sided ?_ ?_); conv => whnf) | ((with_reducible refine Ev.kr (hs := [97]) (fun Q hQ => ?_)); (simp only [Ev.runE_cons, Ev.runE_nil]); conv => whnf) | (with_reducible refine hQ _ ?_; clear hQ Q) | ((refine Ev.sf ?_); intro F hF; conv => whnf) | (with_reducible refine hF _ ?_; clear hF F) | ((with_reducible refine Ev.go_k (fun c' => ?_)); conv => whnf) | ((with_reducible refine Ev.il0 97 ?_); refine Ev.il 97 [0, 1, 3] [] Tryd.func97 (comp97 _ rfl) (fun ct' => ?_)) | ((with_reducible refine Ev.ca0 ?_); (first | refine Ev.call_det (nput_head ⟨hspk _ (List.getElem_mem hi), hne _ (List.getElem_mem hi), by omega⟩) rfl rfl ?_ | refine Ev.ca (nput_head ⟨hspk _ (List.getElem_mem hi), hne _ (List.getElem_mem hi), by omega⟩) ?_); conv => whnf) | ((first | refine Ev.el_map0 ?_ (fun hi => ?_) | refine Ev.el_mapN ?_ (fun hi => ?_)); rotate_left; conv => whnf) | ((with_reducible refine Ev.sd0 ?_); exact Ev.sd) | fail)
    · rename_i h
      have hbt : bigT l = true := List.any_eq_true.2 ⟨l[i], List.getElem_mem hi, decide_eq_true (by omega)⟩
      have : wPutE l = 2 := by unfold wPutE; rw [if_pos h1, if_pos h2, if_neg (by omega), if_pos hbt]
      exact ⟨(wPutA_bad this (by decide)).symm, rfl⟩
    · rename_i h
      have e1 : (encTo l i).length + (bts (putN (headOf l[i]))).length + (bts l[i].t.data.toList).length = (encTo l (i + 1)).length := by rw [encTo_succ hi]; simp [Nat.add_assoc]
      have e2 : bts (encTo l i) ++ bts (putN (headOf l[i])) ++ bts l[i].t.data.toList = bts (encTo l (i + 1)) := by rw [encTo_succ hi, bts_app, bts_app]
      (refine Ev.again (k - 1) _ ?hm2 ?hs2 ?hh2 ?hc2 ⟨i + 1, c' + 8, c', rfl, ?hp2⟩; (case hs2 | hh2 => ((repeat' (first | exact trivial | refine And.intro ?_ ?_)) <;> (first | exact Ev.se | (refine Ev.slot_eq rfl ?_; first | (first | (exact congrArg (fun n => Blk.mk 1 56 0 0 true [[AV.own 337183248 _ 0 n]]) e1) | (exact congrArg (fun n => Blk.mk 1 5 _ 0 false n) e2) | exact wrap_succ (by omega) | rfl) | ((first | refine Ev.int_eq ?_ | refine Ev.own_eq ?_ | refine Ev.blk_eq ?_); (first | (exact congrArg (fun n => Blk.mk 1 56 0 0 true [[AV.own 337183248 _ 0 n]]) e1) | (exact congrArg (fun n => Blk.mk 1 5 _ 0 false n) e2) | exact wrap_succ (by omega) | rfl))) | exact Ev.sr))); (case hc2 => exact Nat.le_refl _); (case hm2 => omega))
      refine ⟨by omega, ?_⟩
      rw [List.take_succ_eq_append_getElem hi]
      intro s hs'
      rcases List.mem_append.1 hs' with h' | h'
      · exact hin s h'
      · simp at h'; subst h'
        exact ⟨hspk _ (List.getElem_mem hi), hne _ (List.getElem_mem hi), by omega⟩
    · have g1 := encTo_len hlen hi hin hb
      have g2 := (putN_len (head_facts ⟨hspk _ (List.getElem_mem hi), hne _ (List.getElem_mem hi), by omega⟩).2.1).2
      refine Ev.app_ys (by simp) (bts_all _) ?_ (by decide)
      simp only [bts_len, len_list]; omega
    · have g1 := encTo_len hlen hi hin hb
      have g2 := (putN_len (head_facts ⟨hspk _ (List.getElem_mem hi), hne _ (List.getElem_mem hi), by omega⟩).2.1).2
      refine Ev.app_ys (by simp) (bts_all _) ?_ (by decide)
      simp only [bts_len]; omega
    · have hall : l.take i = l := List.take_of_length_le (by omega)
      rw [hall] at hin
      have : wPutE l = 0 := wPutE_of h1 h2 hlen (fun s h => (hin s h).2.2)
      refine ⟨?_, rfl⟩
      rw [wPutA_ok this, encTo_all l (by omega)]
      exact Ev.tup2_eq (Ev.lst_eq (Ev.take_all (by simp) rfl)) rfl
  · refine Ev.Side.of ⟨bts_all _, ?_, ?_⟩
    · have := (putN_len (n := l.length) (by omega)).2; rw [bts_len, Int.toNat_natCast]; have hm : 2000000003 ≤ maxLen := by decide
      omega
    · have := (putN_len (n := l.length) (by omega)).2; rw [bts_len, Int.toNat_natCast]; omega
  · rename_i h1 h2
    have : wPutE l = 8 := by unfold wPutE; rw [if_pos h1, if_neg (by simp [h2])]
    exact ⟨(wPutA_bad this (by decide)).symm, rfl⟩
  · rename_i h1
    have : wPutE l = opMayF l := by unfold wPutE; rw [if_neg h1]
    exact ⟨(wPutA_bad this h1).symm, rfl⟩
end Go.Proofs.YtadlnaljicikfaaDoor.Abs

namespace Go.Proofs.YtadlnaljicikfaaDoor.Abs
open Go
set_option maxRecDepth 100000
set_option linter.unusedSimpArgs false
set_option linter.unusedVariables false
attribute [local irreducible] Ev.Unr Ev.Go' Ev.bytK Ev.runK Ev.FinL Ev.brC Ev.Side Ev.Wp Ev.Again Ev.To Ev.Fin
open Go.Lib Go.RowKit
theorem comp48 : ∀ c, Tryd.f48.body = some c → comp c = (.seq (.reg 0 [I.n 0 2 I.sn, I.n 1 3 (I.si 0)]) (.seq (.seq (.reg 1 [I.n 0 9 (I.mv 0), I.n 1 10 (I.ln 9 25), I.n 2 11 (I.bc .eql 3 10 0 3), I.n 3 12 (I.mv 11), I.w 4 13 (I.mv 0) 12 false, I.w 5 14 (I.ln 13 25) 12 false, I.w 6 15 (I.bc .gtr 3 14 65536 3) 12 false, I.n 7 16 (I.pb 12 true 15)]) (.cond (.tmp 16) (.seq (.reg 2 [I.n 0 2 I.sn, I.n 1 3 (I.si 2)]) .ret) .skip)) (.seq (.reg 3 [I.n 0 4 (.alloc 124)]) (.seq (.reg 4 [I.n 0 17 (.makeFunc (.func 96) #[.tmp 4] #[]), I.n 1 5 (I.sa 17)]) (.seq (.reg 5 [I.n 0 18 (I.mv 5), I.n 1 19 (I.mv 0), I.n 2 20 (I.ln 19 25), I.n 3 21 (.call { callee := .value (.tmp 18), args := #[.tmp 20], argTypes := #[3] })]) (.seq (.reg 6 [I.n 0 6 (.assign (.const (Value.int .i64 (-1))))]) (.seq (.seq (.reg 7 [I.n 0 22 (I.mv 0), I.n 1 23 (I.ln 22 25), I.n 2 24 (.move (.const (Value.int .i64 0)))]) (.block 0 (.loop (.seq (.reg 8 [I.n 0 25 (I.bo .lss 3 24 23 3)]) (.seq (.cond (.tmp 25) .skip (.exit 0)) (.seq (.block 1 (.seq (.reg 9 [I.n 0 26 (I.ia 25 22 24), I.n 1 27 (I.ld 3 26), I.n 2 8 (I.sa 27)]) (.seq (.seq (.reg 10 [I.n 0 28 (I.mv 8), I.n 1 29 (I.mv 6), I.n 2 30 (I.bo .leq 3 28 29 3), I.n 3 31 (I.mv 30), I.w 4 32 (I.mv 8) 31 false, I.w 5 33 (I.bc .gtr 3 32 268435455 3) 31 false, I.n 6 34 (I.pb 31 true 33)]) (.cond (.tmp 34) (.seq (.reg 11 [I.n 0 2 I.sn, I.n 1 3 (I.si 2)]) .ret) .skip)) (.seq (.reg 12 [I.n 0 35 (I.mv 5), I.n 1 36 (I.mv 8), I.n 2 37 (I.mv 6), I.n 3 38 (I.bo .sub 3 36 37 3), I.n 4 39 (I.bc .sub 3 38 1 3), I.n 5 40 (.call { callee := .value (.tmp 35), args := #[.tmp 39], argTypes := #[3] })]) (.reg 13 [I.n 0 41 (I.mv 8), I.n 1 6 (I.sa 41)]))))) (.reg 14 [I.n 0 42 (I.bc .add 3 24 1 3), I.n 1 24 (I.mv 42)]))))))) (.seq (.reg 15 [I.n 0 43 (I.fa 124 4 0), I.n 1 44 (I.ld 56 43), I.n 2 2 (I.sa 44), I.n 3 3 (I.si 0)]) .ret)))))))) := by
  intro c h
  have : c = Tryd.f48.body.get rfl := by rw [← Option.some_inj, ← h]; rfl
  rw [this]; rfl
theorem comp96 : ∀ c, Tryd.f96.body = some c → comp c = (.seq (.reg 0 [I.n 0 7 (I.mv 1), I.n 1 8 (I.c1 98 7 3), I.n 2 6 (I.mv 8), I.n 3 9 (I.ex 6 0), I.n 4 10 (I.ex 6 1), I.n 5 4 (I.sa 9), I.n 6 5 (I.sa 10)]) (.reg 1 [I.n 0 11 (I.mv 0), I.n 1 12 (I.mv 0), I.n 2 13 (I.nc 12), I.n 3 14 (I.fa 124 13 0), I.n 4 15 (I.ld 56 14), I.n 5 16 (I.mv 4), I.n 6 17 (I.ap 15 16 56 56), I.n 7 18 (I.nc 11), I.n 8 19 (I.fa 124 18 0), I.u 9 (I.st 56 19 17)])) := by
  intro c h
  have : c = Tryd.f96.body.get rfl := by rw [← Option.some_inj, ← h]; rfl
  rw [this]; rfl
def rPutA (l : List Int) : AV := if rPutE l = 0 then .tup [.lst 1 (bts (encR l)), .v (.int .i64 0)] else .tup [nilA, .v (.int .i64 2)]
@[simp] theorem ints_len (l : List Int) : (ints l).length = l.length := by simp [ints]
def lastI (was : Int) (l : List Int) : Int := l.getLast?.getD was
theorem lastI_snoc (was : Int) (l : List Int) (x : Int) : lastI was (l ++ [x]) = x := by simp [lastI]
theorem lastI_cons (was x : Int) (l : List Int) : lastI was (x :: l) = lastI x l := by
  cases l with
  | nil => rfl
  | cons y l => simp [lastI, List.getLast?_cons]
theorem rowB_snoc : ∀ (l : List Int) (was x : Int), rowB was (l ++ [x]) = rowB was l ++ putN (x - lastI was l - 1).toNat
  | [], was, x => by simp [rowB, lastI]
  | y :: l, was, x => by rw [List.cons_append]; simp only [rowB]; rw [rowB_snoc l, lastI_cons, List.append_assoc]
theorem risesG_snoc : ∀ (l : List Int) (was x : Int), risesG was (l ++ [x]) = (risesG was l && (decide (lastI was l < x) && decide (x ≤ 268435455)))
  | [], was, x => by simp only [List.nil_append, risesG, lastI, List.getLast?_nil, Option.getD_none, Bool.and_true, Bool.true_and]; rfl
  | y :: l, was, x => by rw [List.cons_append]; simp only [risesG]; rw [risesG_snoc l, lastI_cons]; simp only [Bool.and_assoc]
theorem rises_last : ∀ (l : List Int) (was : Int), risesG was l = true → was ≤ lastI was l ∧ (lastI was l ≤ was ∨ lastI was l ≤ 268435455)
  | [], was, _ => by simp [lastI]
  | y :: l, was, h => by
    simp only [risesG, Bool.and_eq_true, decide_eq_true_eq] at h
    have := rises_last l y h.2
    rw [lastI_cons]; omega
theorem risesG_take : ∀ (l : List Int) (was : Int) (i : Nat), risesG was l = true → risesG was (l.take i) = true
  | l, was, 0, _ => by simp [risesG]
  | [], was, i + 1, _ => by simp [risesG]
  | y :: l, was, i + 1, h => by
    simp only [risesG, Bool.and_eq_true] at h
    rw [List.take_succ_cons]
    simp only [risesG, Bool.and_eq_true]
    exact ⟨h.1, risesG_take l y i h.2⟩
theorem nput_step {x w : Int} (h1 : w < x) (h2 : x ≤ 268435455) (h3 : -1 ≤ w) : CallW env 98 [.v (.int .i64 (IntKind.i64.wrap (IntKind.i64.wrap (x - w) - 1)))] (fun r hs => r = .tup [.lst 1 (bts (putN (x - w - 1).toNat)), .v (.int .i64 0)] ∧ hs = []) := by
  rw [wrap_id (a := x - w) (by omega), wrap_id (by omega)]
  exact nput_ok (by omega)
def rowTo (l : List Int) (i : Nat) : List UInt8 := putN l.length ++ rowB (-1) (l.take i)
theorem rowTo_succ {l : List Int} {i : Nat} (hi : i < l.length) : rowTo l (i + 1) = rowTo l i ++ putN (l[i] - lastI (-1) (l.take i) - 1).toNat := by
  unfold rowTo; rw [List.take_succ_eq_append_getElem hi, rowB_snoc, List.append_assoc]
theorem rowTo_all {l : List Int} {i : Nat} (hi : l.length ≤ i) : rowTo l i = encR l := by
  unfold rowTo encR; rw [List.take_of_length_le hi]
theorem rowB_len : ∀ (l : List Int) (was : Int), -1 ≤ was → risesG was l = true → (rowB was l).length ≤ 4 * l.length
  | [], was, _, _ => by simp [rowB]
  | y :: l, was, h1, h => by
    simp only [risesG, Bool.and_eq_true, decide_eq_true_eq] at h
    have := rowB_len l y (by omega) h.2
    have := (putN_len (n := (y - was - 1).toNat) (by omega)).2
    simp only [rowB, List.length_append, List.length_cons]; omega
theorem rowTo_len {l : List Int} {i : Nat} (hl : l.length ≤ 65536) (h : risesG (-1) (l.take i) = true) : (rowTo l i).length ≤ 300000 := by
  have h1 := rowB_len _ (-1) (by omega) h
  have h2 := (putN_len (n := l.length) (by omega)).2
  have h3 : (l.take i).length ≤ l.length := by rw [List.length_take]; omega
  unfold rowTo; rw [List.length_append]; omega
theorem rPutA_bad {l : List Int} (h : rises l = false) : rPutA l = .tup [nilA, .v (.int .i64 2)] := by
  unfold rPutA rPutE; rw [h]; rfl
theorem rPutA_ok {l : List Int} (h : rises l = true) : rPutA l = .tup [.lst 1 (bts (encR l)), .v (.int .i64 0)] := by
  unfold rPutA rPutE; rw [h]; rfl
theorem rises_long {l : List Int} (h : l.length = 0 ∨ 65536 < l.length) : rises l = false := by
  unfold rises
  rcases h with h | h
  · rw [List.eq_nil_of_length_eq_zero h]; rfl
  · rw [decide_eq_false (by omega)]; simp
theorem rises_at {l : List Int} {i : Nat} (hi : i < l.length) (h : l[i] ≤ lastI (-1) (l.take i) ∨ 268435455 < l[i]) : rises l = false := by
  cases hr : rises l with
  | false => rfl
  | true =>
    unfold rises at hr
    simp only [Bool.and_eq_true] at hr
    have := risesG_take l (-1) (i + 1) hr.2
    rw [List.take_succ_eq_append_getElem hi, risesG_snoc] at this
    simp at this; omega
theorem prow_call (l : List Int) (hl : l.length ≤ 100000000) : CallW env 48 [.lst 1 (ints l)] (fun r hs => r = rPutA l ∧ hs = []) := by
  have hil := ints_len l
  have hmx : 2000000003 ≤ maxLen := by decide
  refine Ev.fn [0, 2, 3, 4, 5, 6, 8, 16, 22, 23, 24, 25, 34] 0 [.tmp 2, .tmp 3] Tryd.func48 (comp48 _ rfl) ?_
  repeat' (first | ((refine Ev.sw ?_); conv => whnf) | refine Ev.sn ?_ | ((with_reducible refine Ev.chk_k ?_ ?_); rotate_left; exact Ev.bt; conv => whnf) | ((with_reducible (refine Ev.RI.run ?_; constructor)) <;> intro _) | ((refine Ev.sg ?_); conv => whnf) | ((with_reducible refine Ev.sided ?_ ?_); conv => whnf) | ((with_reducible refine Ev.kr (hs := [96]) (fun Q hQ => ?_)); (simp only [Ev.runE_cons, Ev.runE_nil]); conv => whnf) | (with_reducible refine hQ _ ?_; clear hQ Q) | ((refine Ev.sf ?_); intro F hF; conv => whnf) | (with_reducible refine hF _ ?_; clear hF F) | ((with_reducible refine Ev.go_k (fun c' => ?_)); conv => whnf) | ((with_reducible refine Ev.il0 96 ?_); refine Ev.il 96 [0, 1, 4] [] Tryd.func96 (comp96 _ rfl) (fun ct' => ?_)) | ((with_reducible refine Ev.ca0 ?_); (first | refine Ev.call_det (nput_ok (show 0 ≤ ((ints l).length : Int) ∧ ((ints l).length : Int) ≤ 268435455 by omega)) rfl rfl ?_ | refine Ev.ca (nput_ok (show 0 ≤ ((ints l).length : Int) ∧ ((ints l).length : Int) ≤ 268435455 by omega)) ?_); conv => whnf) | ((first | refine Ev.el_map0 ?_ (fun hi => ?_) | refine Ev.el_mapN ?_ (fun hi => ?_)); rotate_left; conv => whnf) | ((with_reducible refine Ev.sd0 ?_); exact Ev.sd) | fail)
  · exact ⟨(rPutA_bad (rises_long (by omega))).symm, rfl⟩
  · exact ⟨(rPutA_bad (rises_long (by omega))).symm, rfl⟩
  · have hl6 : l.length ≤ 65536 := by omega
    have h0 : 0 < l.length := by omega
    have e0 : bts (putN (((ints l).length : Nat) : Int).toNat) = bts (rowTo l 0) := by rw [Int.toNat_natCast, hil]; simp [rowTo, rowB]
    refine Ev.loop (fun k s => ∃ i c v : Nat, s = ⟨[(0, .lst 1 (ints l)), (2, nilA), (3, .v (.int .i64 0)), (4, .ptr 1536 0 0 0), (5, .clo (.func 96) [.ptr 1536 0 0 0] []), (6, .v (.int .i64 (lastI (-1) (l.take i)))), (22, .lst 1 (ints l)), (23, .v (.int .i64 (ints l).length)), (24, .v (.int .i64 i))],
      [(1536, ⟨1, 124, 0, 0, true, [[.own 169411120 v 0 (rowTo l i).length]]⟩), (169411120, ⟨1, 5, v, 0, false, bts (rowTo l i)⟩)], c⟩ ∧ k + i = l.length ∧ risesG (-1) (l.take i) = true) ?_ ?_
    · have e1 : (bts (putN (((ints l).length : Nat) : Int).toNat)).length = (rowTo l 0).length := by rw [e0, bts_len]
      (refine Ev.to _ ?hs1 ?hh1 ?hc1 ⟨l.length, 0, ?_, ct', rfl, ?hp1⟩; (case hs1 | hh1 => ((repeat' (first | exact trivial | refine And.intro ?_ ?_)) <;> (first | exact Ev.se | (refine Ev.slot_eq rfl ?_; first | (first | (exact congrArg (fun n => Blk.mk 1 124 0 0 true [[AV.own 169411120 _ 0 n]]) e1) | (exact congrArg (fun n => Blk.mk 1 5 _ 0 false n) e0) | (simp [lastI]; done) | rfl) | ((first | refine Ev.int_eq ?_ | refine Ev.own_eq ?_ | refine Ev.blk_eq ?_); (first | (exact congrArg (fun n => Blk.mk 1 124 0 0 true [[AV.own 169411120 _ 0 n]]) e1) | (exact congrArg (fun n => Blk.mk 1 5 _ 0 false n) e0) | (simp [lastI]; done) | rfl))) | exact Ev.sr))); (case hc1 => exact Nat.le_refl _))
      exact ⟨by omega, by simp [risesG]⟩
    rintro k s1 ⟨i, c, v, rfl, hk, hr⟩
    have hrl := rises_last _ _ hr
    have hle := rowTo_len (l := l) (i := i) hl6 hr
    repeat' (first | ((refine Ev.sw ?_); conv => whnf) | refine Ev.sn ?_ | ((with_reducible refine Ev.chk_k ?_ ?_); rotate_left; exact Ev.bt; conv => whnf) | ((with_reducible (refine Ev.RI.run ?_; constructor)) <;> intro _) | ((refine Ev.sg ?_); conv => whnf) | ((with_reducible refine Ev.sided ?_ ?_); conv => whnf) | ((with_reducible refine Ev.kr (hs := [96]) (fun Q hQ => ?_)); (simp only [Ev.runE_cons, Ev.runE_nil]); conv => whnf) | (with_reducible refine hQ _ ?_; clear hQ Q) | ((refine Ev.sf ?_); intro F hF; conv => whnf) | (with_reducible refine hF _ ?_; clear hF F) | ((with_reducible refine Ev.go_k (fun c' => ?_)); conv => whnf) | ((with_reducible refine Ev.il0 96 ?_); refine Ev.il 96 [0, 1, 4] [] Tryd.func96 (comp96 _ rfl) (fun ct' => ?_)) | ((with_reducible refine Ev.ca0 ?_); (first | refine Ev.call_det (nput_step (by omega) (by omega) hrl.1) rfl rfl ?_ | refine Ev.ca (nput_step (by omega) (by omega) hrl.1) ?_); conv => whnf) | ((first | refine Ev.el_map0 ?_ (fun hi => ?_) | refine Ev.el_mapN ?_ (fun hi => ?_)); rotate_left; conv => whnf) | ((with_reducible refine Ev.sd0 ?_); exact Ev.sd) | fail)
    · exact ⟨(rPutA_bad (rises_at (by assumption) (by omega))).symm, rfl⟩
    · exact ⟨(rPutA_bad (rises_at (by assumption) (by omega))).symm, rfl⟩
    · have hi : i < l.length := by assumption
      have hsu := rowTo_succ hi
      have e1 : (rowTo l i).length + (bts (putN (l[i] - lastI (-1) (l.take i) - 1).toNat)).length = (rowTo l (i + 1)).length := by rw [hsu]; simp
      have e2 : bts (rowTo l i) ++ bts (putN (l[i] - lastI (-1) (l.take i) - 1).toNat) = bts (rowTo l (i + 1)) := by rw [hsu, bts_app]
      have e3 : lastI (-1) (l.take (i + 1)) = l[i] := by rw [List.take_succ_eq_append_getElem hi, lastI_snoc]
      (refine Ev.again (k - 1) _ ?hm2 ?hs2 ?hh2 ?hc2 ⟨i + 1, ?_, ct', rfl, ?hp2⟩; (case hs2 | hh2 => ((repeat' (first | exact trivial | refine And.intro ?_ ?_)) <;> (first | exact Ev.se | (refine Ev.slot_eq rfl ?_; first | (first | (exact congrArg (fun n => Blk.mk 1 124 0 0 true [[AV.own 169411120 _ 0 n]]) e1) | (exact congrArg (fun n => Blk.mk 1 5 _ 0 false n) e2) | exact wrap_succ (by omega) | exact e3.symm | (rw [e3]; done) | rfl) | ((first | refine Ev.int_eq ?_ | refine Ev.own_eq ?_ | refine Ev.blk_eq ?_); (first | (exact congrArg (fun n => Blk.mk 1 124 0 0 true [[AV.own 169411120 _ 0 n]]) e1) | (exact congrArg (fun n => Blk.mk 1 5 _ 0 false n) e2) | exact wrap_succ (by omega) | exact e3.symm | (rw [e3]; done) | rfl))) | exact Ev.sr))); (case hc2 => exact Nat.le_refl _); (case hm2 => omega))
      refine ⟨by omega, ?_⟩
      rw [List.take_succ_eq_append_getElem hi, risesG_snoc, hr]
      simp; omega
    · have := (putN_len (n := (l[i] - lastI (-1) (l.take i) - 1).toNat) (by omega)).2
      refine Ev.app_ys (by simp) (bts_all _) ?_ (by decide)
      rw [bts_len]; omega
    · have hR : rises l = true := by
        rw [List.take_of_length_le (by omega)] at hr
        unfold rises
        rw [hr, decide_eq_true hl6]
        cases l with
        | nil => simp at h0
        | cons x l => rfl
      refine ⟨?_, rfl⟩
      rw [rPutA_ok hR, rowTo_all (by omega)]
      exact Ev.tup2_eq (Ev.lst_eq (Ev.take_all (by simp) rfl)) rfl
  · have := (putN_len (n := l.length) (by omega)).2
    refine Ev.Side.of ⟨bts_all _, ?_, ?_⟩
    · rw [bts_len, Int.toNat_natCast, hil]; omega
    · rw [bts_len, Int.toNat_natCast, hil]; omega
end Go.Proofs.YtadlnaljicikfaaDoor.Abs

namespace Go.Proofs.YtadlnaljicikfaaDoor.Abs
open Go
set_option maxRecDepth 100000
set_option linter.unusedSimpArgs false
set_option linter.unusedVariables false
attribute [local irreducible] Ev.Unr Ev.Go' Ev.bytK Ev.runK Ev.FinL Ev.brC Ev.Side Ev.Wp Ev.Again Ev.To Ev.Fin
open Go.Lib Go.RowKit
theorem ntake_is {b : List UInt8} {n k e : Int} (hq : takeN b = (n, k, e)) (hb : b.length ≤ 1000000000) : CallW env 130 [.lst 1 (bts b)] (fun r hs => r = .tup [.v (.int .i64 n), .v (.int .i64 k), .v (.int .i64 e)] ∧ hs = []) := by
  have := ntake_call b hb
  rw [hq] at this; exact this
theorem comp91 : ∀ c, Tryd.f91.body = some c → comp c = (.seq (.reg 0 [I.n 0 2 I.sn, I.n 1 3 (I.si 0), I.n 2 4 (.alloc 30)]) (.seq (.reg 1 [I.n 0 11 (I.mv 0), I.n 1 5 (.alloc 56), I.u 2 (I.st 56 5 11)]) (.seq (.reg 2 [I.n 0 12 (.makeFunc (.func 129) #[] #[.tmp 4, .tmp 5]), I.n 1 6 (I.sa 12)]) (.seq (.reg 3 [I.n 0 13 (I.mv 6), I.n 1 14 (.call { callee := .value (.tmp 13), args := #[], argTypes := #[] }), I.n 2 7 (I.sa 14)]) (.seq (.seq (.reg 4 [I.n 0 15 (I.ld 30 4), I.n 1 16 (I.bc .eql 30 15 0 30), I.n 2 17 (I.mv 16), I.w 3 18 (I.mv 7) 17 true, I.w 4 19 (I.bc .gtr 3 18 65536 3) 17 true, I.n 5 20 (I.pc 17 19 false)]) (.cond (.tmp 20) (.reg 5 [I.u 0 (.store 30 (.tmp 4) (.const (Value.int .i64 8)))]) .skip)) (.seq (.reg 6 [I.n 0 8 I.sn]) (.seq (.seq (.reg 7 [I.n 0 21 (I.mv 7), I.n 1 22 (.move (.const (Value.int .i64 0)))]) (.block 0 (.loop (.seq (.reg 8 [I.n 0 23 (I.bo .lss 3 22 21 3)]) (.seq (.cond (.tmp 23) .skip (.exit 0)) (.seq (.block 1 (.seq (.reg 9 [I.n 0 25 (I.mv 6), I.n 1 26 (I.mv 8), I.n 2 27 (.call { callee := .value (.func 131), args := #[.tmp 25, .tmp 5, .tmp 26], argTypes := #[40, 153, 23] }), I.n 3 24 (I.mv 27), I.n 4 28 (I.ex 24 0), I.n 5 29 (I.ex 24 1), I.n 6 9 (.alloc 35), I.u 7 (I.st 35 9 28), I.n 8 10 (I.sa 29)]) (.seq (.seq (.reg 10 [I.n 0 30 (I.ld 30 4), I.n 1 31 (I.bc .eql 30 30 0 30)]) (.cond (.tmp 31) (.reg 11 [I.n 0 32 (I.mv 10), I.u 1 (I.st 30 4 32)]) .skip)) (.seq (.seq (.reg 12 [I.n 0 33 (I.ld 30 4), I.n 1 34 (I.bc .neq 30 33 0 30)]) (.cond (.tmp 34) (.seq (.draw 13 [I.n 0 35 (I.ld 30 4), I.n 1 2 I.sn, I.n 2 3 (I.si 0), I.u 3 (I.st 30 4 35)] [[], [], [1, 1], [0, 2, 0, 1, 2]]) .ret) .skip)) (.reg 14 [I.n 0 36 (I.mv 8), I.n 1 37 (I.ld 35 9), I.n 2 38 (I.b1 23 37), I.n 3 39 (I.ap 36 38 23 23), I.n 4 8 (I.sa 39)]))))) (.reg 15 [I.n 0 40 (I.bc .add 3 22 1 3), I.n 1 22 (I.mv 40)]))))))) (.seq (.seq (.reg 16 [I.n 0 41 (I.ld 30 4), I.n 1 42 (I.bc .eql 30 41 0 30), I.n 2 43 (I.mv 42), I.w 3 44 (I.mv 8) 43 true, I.w 4 45 (I.c1 72 44 23) 43 true, I.w 5 46 (I.bc .neq 30 45 0 30) 43 true, I.n 6 47 (I.pc 43 46 false)]) (.cond (.tmp 47) (.reg 17 [I.u 0 (.store 30 (.tmp 4) (.const (Value.int .i64 8)))]) .skip)) (.seq (.seq (.reg 18 [I.n 0 48 (I.ld 30 4), I.n 1 49 (I.bc .neq 30 48 0 30)]) (.cond (.tmp 49) (.seq (.draw 19 [I.n 0 50 (I.ld 30 4), I.n 1 2 I.sn, I.n 2 3 (I.si 0), I.u 3 (I.st 30 4 50)] [[], [], [1, 1], [0, 2, 0, 1, 2]]) .ret) .skip)) (.seq (.draw 20 [I.n 0 51 (I.mv 8), I.n 1 52 (I.mv 0), I.n 2 53 (I.ln 52 56), I.n 3 54 (I.ld 56 5), I.n 4 55 (I.ln 54 56), I.n 5 56 (I.bo .sub 3 53 55 3), I.n 6 2 (I.sa 51), I.n 7 3 (I.sa 56), I.u 8 (.store 30 (.tmp 4) (.const (Value.int .i64 0)))] [[], [], [1], [], [3], [2, 4], [0, 0], [5, 6, 0, 1, 2, 3, 4, 5, 6], [7, 0, 1, 2, 3, 4, 5, 6, 7]]) .ret)))))))))) := by
  intro c h
  have : c = Tryd.f91.body.get rfl := by rw [← Option.some_inj, ← h]; rfl
  rw [this]; rfl
theorem comp129 : ∀ c, Tryd.f129.body = some c → comp c = (.seq (.reg 0 [I.n 0 2 (I.si 0)]) (.seq (.seq (.reg 1 [I.n 0 5 (I.ld 30 0), I.n 1 6 (I.bc .neq 30 5 0 30)]) (.cond (.tmp 6) (.seq (.reg 2 [I.n 0 2 (I.si 0)]) .ret) .skip)) (.seq (.reg 3 [I.n 0 3 (I.si 0), I.n 1 4 (I.si 0)]) (.seq (.reg 4 [I.n 0 8 (I.ld 56 1), I.n 1 9 (I.c1 130 8 56), I.n 2 7 (I.mv 9), I.n 3 10 (I.ex 7 0), I.n 4 11 (I.ex 7 1), I.n 5 12 (I.ex 7 2), I.n 6 3 (I.sa 10), I.n 7 4 (I.sa 11), I.u 8 (I.st 30 0 12)]) (.seq (.reg 5 [I.n 0 13 (I.ld 56 1), I.n 1 14 (I.mv 4), I.n 2 15 (.slice 56 (.tmp 13) (some (.tmp 14)) none none), I.u 3 (I.st 56 1 15)]) (.seq (.reg 6 [I.n 0 16 (I.mv 3), I.n 1 2 (I.sa 16)]) .ret)))))) := by
  intro c h
  have : c = Tryd.f129.body.get rfl := by rw [← Option.some_inj, ← h]; rfl
  rw [this]; rfl
theorem comp131 : ∀ c, Tryd.f131.body = some c → comp c = (.seq (.reg 0 [I.n 0 6 (.alloc 35), I.n 1 7 (I.si 0)]) (.seq (.reg 1 [I.n 0 13 (I.mv 0), I.n 1 14 (.call { callee := .value (.tmp 13), args := #[], argTypes := #[] }), I.n 2 8 (I.sa 14)]) (.seq (.reg 2 [I.n 0 15 (I.mv 8), I.n 1 16 (I.bc .rem 3 15 4 3), I.n 2 17 (I.mv 8), I.n 3 18 (I.bc .quo 3 17 4 3), I.n 4 19 (.build 35 #[(0, .tmp 16), (1, .tmp 18)]), I.n 5 9 (.alloc 35), I.u 6 (I.st 35 9 19)]) (.seq (.reg 3 [I.n 0 10 (I.si 1048576)]) (.seq (.seq (.reg 4 [I.n 0 20 (I.fa 35 9 0), I.n 1 21 (I.ld 3 20), I.n 2 22 (I.bc .eql 3 21 2 3)]) (.cond (.tmp 22) (.reg 5 [I.n 0 10 (I.si 65536)]) .skip)) (.seq (.reg 6 [I.n 0 23 (I.mv 2), I.n 1 24 (I.ln 23 23), I.n 2 25 (I.bc .sub 3 24 1 3), I.n 3 11 (I.sa 25)]) (.seq (.seq (.draw 7 [I.n 0 26 (I.fa 35 9 0), I.n 1 27 (I.ld 3 26), I.n 2 28 (I.bc .eql 3 27 0 3), I.n 3 29 (I.mv 28), I.w 4 30 (I.fa 35 9 1) 29 false, I.w 5 31 (I.ld 3 30) 29 false, I.w 6 32 (I.bc .eql 3 31 0 3) 29 false, I.n 7 33 (I.pb 29 true 32), I.n 8 34 (I.mv 33), I.w 9 35 (I.fa 35 9 1) 34 false, I.w 10 36 (I.ld 3 35) 34 false, I.w 11 37 (I.mv 10) 34 false, I.w 12 38 (I.bo .gtr 3 36 37 3) 34 false, I.n 13 39 (I.pb 34 true 38), I.n 14 40 (I.mv 39), I.w 15 41 (I.mv 11) 40 false, I.w 16 42 (I.bc .geq 3 41 0 3) 40 false, I.w 17 43 (I.mv 42) 40 false, I.w 18 44 (I.mv 2) 43 true, I.w 19 45 (I.mv 11) 43 true, I.w 20 46 (I.ia 23 44 45) 43 true, I.w 21 47 (I.fa 35 46 0) 43 true, I.w 22 48 (I.ld 3 47) 43 true, I.w 23 49 (I.fa 35 9 0) 43 true, I.w 24 50 (I.ld 3 49) 43 true, I.w 25 51 (I.bo .eql 3 48 50 3) 43 true, I.w 26 52 (I.pc 43 51 false) 40 false, I.n 27 53 (I.pb 40 true 52)] [[], [0], [1], [2], [3], [4, 3], [5, 3], [3, 6], [7, 3], [8], [9, 8], [8], [10, 11, 8], [8, 12], [13, 8], [14], [15, 14], [16, 14, 14], [17], [17], [18, 19, 17], [20, 17], [21, 17], [17], [23, 17], [22, 24, 17], [17, 25, 14], [14, 26]]) (.cond (.tmp 53) (.seq (.reg 8 [I.n 0 54 (.build 35 #[]), I.u 1 (I.st 35 6 54), I.n 2 7 (I.si 8)]) .ret) .skip)) (.seq (.seq (.reg 9 [I.n 0 55 (I.fa 35 9 0), I.n 1 56 (I.ld 3 55), I.n 2 57 (I.bc .neq 3 56 2 3)]) (.cond (.tmp 57) (.seq (.reg 10 [I.n 0 58 (I.ld 35 9), I.u 1 (I.st 35 6 58), I.n 2 7 (I.si 0)]) .ret) .skip)) (.seq (.seq (.draw 11 [I.n 0 59 (I.mv 1), I.n 1 60 (I.nc 59), I.n 2 61 (I.ld 56 60), I.n 3 62 (I.ln 61 56), I.n 4 63 (I.fa 35 9 1), I.n 5 64 (I.ld 3 63), I.n 6 65 (I.bo .lss 3 62 64 3)] [[], [0], [1], [2], [], [4], [3, 5]]) (.cond (.tmp 65) (.seq (.reg 12 [I.n 0 66 (.build 35 #[]), I.u 1 (I.st 35 6 66), I.n 2 7 (I.si 7)]) .ret) .skip)) (.seq (.draw 13 [I.n 0 67 (I.mv 1), I.n 1 68 (I.nc 67), I.n 2 69 (I.ld 56 68), I.n 3 70 (I.fa 35 9 1), I.n 4 71 (I.ld 3 70), I.n 5 72 (.slice 56 (.tmp 69) none (some (.tmp 71)) none), I.n 6 73 (I.cv 56 9 72), I.n 7 12 (I.sa 73)] [[], [0], [1], [], [3], [2, 4], [5], [6, 0, 1, 2, 3, 4, 5, 6]]) (.seq (.seq (.reg 14 [I.n 0 74 (I.mv 12), I.n 1 75 (I.c1 78 74 9), I.n 2 76 (.unOp .not 4 (.tmp 75))]) (.cond (.tmp 76) (.seq (.reg 15 [I.n 0 77 (.build 35 #[]), I.u 1 (I.st 35 6 77), I.n 2 7 (I.si 8)]) .ret) .skip)) (.seq (.draw 16 [I.n 0 78 (I.mv 1), I.n 1 79 (I.mv 1), I.n 2 80 (I.nc 79), I.n 3 81 (I.ld 56 80), I.n 4 82 (I.fa 35 9 1), I.n 5 83 (I.ld 3 82), I.n 6 84 (.slice 56 (.tmp 81) (some (.tmp 83)) none none), I.n 7 85 (I.nc 78), I.u 8 (I.st 56 85 84)] [[], [], [1], [2], [], [4], [3, 5], [0, 0, 1, 2, 3, 4, 5, 6], [7, 6, 0, 1, 2, 3, 4, 5, 6]]) (.seq (.reg 17 [I.n 0 86 (I.fa 35 9 0), I.n 1 87 (I.ld 3 86), I.n 2 88 (I.mv 12), I.n 3 89 (.build 35 #[(0, .tmp 87), (2, .tmp 88)]), I.u 4 (I.st 35 6 89), I.n 5 7 (I.si 0)]) .ret))))))))))))) := by
  intro c h
  have : c = Tryd.f131.body.get rfl := by rw [← Option.some_inj, ← h]; rfl
  rw [this]; rfl
def lastK (l : List Sp) : Int := match l.getLast? with | some s => s.k | none => 0
theorem cut_from (b : List UInt8) (K : Nat) : List.take ((bts b).length - (K : Int).toNat) (List.drop (K : Int).toNat (bts b)) = bts (b.drop K) := by
  rw [bts_cut, Int.toNat_natCast, bts_len, List.take_of_length_le (by rw [List.length_drop]; omega)]
def joinT (done : List Sp) : Except Int (List Sp × List UInt8) → Except Int (List Sp × List UInt8)
  | .error e => .error e
  | .ok (ls, l2) => .ok (done ++ ls, l2)
theorem lastK_app (l : List Sp) (s : Sp) : lastK (l ++ [s]) = s.k := by simp [lastK]
theorem wt_err {b : List UInt8} {N K m : Nat} {left : List UInt8} {done : List Sp} {e : Int} (h0 : wTake b = match takeSps N 0 (b.drop K) with | .error e => .error e | .ok (l, left) => if opMayF l = 0 then .ok (l, (b.length : Int) - left.length) else .error 8)
    (ht : takeSps N 0 (b.drop K) = joinT done (takeSps (m + 1) (lastK done) left)) (h1 : takeOne (lastK done) left = .error e) : wTake b = .error e := by
  rw [h0, ht]; simp only [takeSps, h1, joinT]
theorem wt_step {b : List UInt8} {N K m : Nat} {left l1 : List UInt8} {done : List Sp} {s : Sp}
    (ht : takeSps N 0 (b.drop K) = joinT done (takeSps (m + 1) (lastK done) left)) (h1 : takeOne (lastK done) left = .ok (s, l1)) : takeSps N 0 (b.drop K) = joinT (done ++ [s]) (takeSps m (lastK (done ++ [s])) l1) := by
  rw [ht, lastK_app]
  simp only [takeSps, h1]
  cases takeSps m s.k l1 with
  | error e => rfl
  | ok p => obtain ⟨ls, l2⟩ := p; simp [joinT]
theorem one_bad {left : List UInt8} {n k was : Int} (hq : takeN left = (n, k, 0)) (h : n % 4 = 0 ∨ n / 4 = 0 ∨ mostOf (n % 4) < n / 4 ∨ n % 4 = was) : takeOne was left = .error 8 := by
  unfold takeOne; rw [hq]; simp only [ne_eq, not_true, if_false]
  unfold takeOne2; rw [if_pos h]
theorem one_keep {left : List UInt8} {n k was : Int} (hq : takeN left = (n, k, 0)) (h : ¬ (n % 4 = 0 ∨ n / 4 = 0 ∨ mostOf (n % 4) < n / 4 ∨ n % 4 = was)) (h2 : n % 4 ≠ 2) : takeOne was left = .ok (⟨n % 4, n / 4, ⟨#[]⟩⟩, left.drop k.toNat) := by
  unfold takeOne; rw [hq]; simp only [ne_eq, not_true, if_false]
  unfold takeOne2; rw [if_neg h, if_pos h2]
theorem one_short {left : List UInt8} {n k was : Int} (hq : takeN left = (n, k, 0)) (h : ¬ (n % 4 = 0 ∨ n / 4 = 0 ∨ mostOf (n % 4) < n / 4 ∨ n % 4 = was)) (h2 : n % 4 = 2) (h3 : ((left.drop k.toNat).length : Int) < n / 4) : takeOne was left = .error 7 := by
  unfold takeOne; rw [hq]; simp only [ne_eq, not_true, if_false]
  unfold takeOne2; rw [if_neg h, if_neg (by simp [h2]), if_pos h3]
theorem one_no {left : List UInt8} {n k was : Int} (hq : takeN left = (n, k, 0)) (h : ¬ (n % 4 = 0 ∨ n / 4 = 0 ∨ mostOf (n % 4) < n / 4 ∨ n % 4 = was)) (h2 : n % 4 = 2) (h3 : ¬ ((left.drop k.toNat).length : Int) < n / 4) (h4 : validD ((left.drop k.toNat).take (n / 4).toNat) = false) : takeOne was left = .error 8 := by
  unfold takeOne; rw [hq]; simp only [ne_eq, not_true, if_false]
  unfold takeOne2; rw [if_neg h, if_neg (by simp [h2]), if_neg h3, if_neg (by simp [h4])]
theorem one_put {left : List UInt8} {n k was : Int} (hq : takeN left = (n, k, 0)) (h : ¬ (n % 4 = 0 ∨ n / 4 = 0 ∨ mostOf (n % 4) < n / 4 ∨ n % 4 = was)) (h2 : n % 4 = 2) (h3 : ¬ ((left.drop k.toNat).length : Int) < n / 4) (h4 : validD ((left.drop k.toNat).take (n / 4).toNat) = true) :
    takeOne was left = .ok (⟨2, 0, ⟨((left.drop k.toNat).take (n / 4).toNat).toArray⟩⟩, (left.drop k.toNat).drop (n / 4).toNat) := by
  unfold takeOne; rw [hq]; simp only [ne_eq, not_true, if_false]
  unfold takeOne2; rw [if_neg h, if_neg (by simp [h2]), if_neg h3, if_pos h4]
theorem wtake_nil : CallW env 72 [nilA] (fun r hs => r = .v (.int .i64 0) ∧ hs = []) :=
  (opMay_call [] (by decide) (fun s h => by cases h)).args rfl (fun i x x' h h' => by
    cases i with
    | zero => simp at h h'; subst h; subst h'; exact Le.nil 3
    | succ i => simp at h)
def TakeR (b : List UInt8) (r : AV) (hs : List Blk) : Prop := (∃ x, r = .tup [x, .v (.int .i64 (wTakeK b)), .v (.int .i64 (wTakeE b))] ∧ LeR x (.lst 3 (sps (wTakeL b)))) ∧ hs = []
theorem takeR_bad {b : List UInt8} {e : Int} (h : wTake b = .error e) : TakeR b (.tup [nilA, .v (.int .i64 0), .v (.int .i64 e)]) [] := by
  have h1 : wTakeE b = e := by unfold wTakeE; rw [h]
  have h2 : wTakeK b = 0 := by unfold wTakeK; rw [h]
  have h3 : wTakeL b = [] := by unfold wTakeL; rw [h]
  refine ⟨⟨nilA, by rw [h1, h2], ?_⟩, rfl⟩
  rw [h3]; exact LeR.nil 3
theorem takeR_ok {b : List UInt8} {l : List Sp} {k k' : Int} {x : AV} (h : wTake b = .ok (l, k)) (hk : k' = k) (hx : LeR x (.lst 3 (sps l))) : TakeR b (.tup [x, .v (.int .i64 k'), .v (.int .i64 0)]) [] := by
  have h1 : wTakeE b = 0 := by unfold wTakeE; rw [h]
  have h2 : wTakeK b = k := by unfold wTakeK; rw [h]
  have h3 : wTakeL b = l := by unfold wTakeL; rw [h]
  refine ⟨⟨x, by rw [h1, h2, hk], ?_⟩, rfl⟩
  rw [h3]; exact hx
theorem wt_end {b : List UInt8} {N K : Nat} {left : List UInt8} {done : List Sp} (h0 : wTake b = match takeSps N 0 (b.drop K) with | .error e => .error e | .ok (l, left) => if opMayF l = 0 then .ok (l, (b.length : Int) - left.length) else .error 8)
    (ht : takeSps N 0 (b.drop K) = joinT done (takeSps 0 (lastK done) left)) : wTake b = if opMayF done = 0 then .ok (done, (b.length : Int) - left.length) else .error 8 := by
  rw [h0, ht]; simp only [takeSps, joinT, List.append_nil]
theorem byt_cut2 {l : List UInt8} {n K : Nat} {F : List UInt8 → Prop} (k : F ((l.drop K).take n)) : Ev.bytK (List.take (n - 0) (List.drop 0 (List.take ((bts l).length - K) (List.drop K (bts l))))) F := by
  have e : List.take ((bts l).length - K) (List.drop K (bts l)) = bts (l.drop K) := by
    rw [bts_cut, bts_len, List.take_of_length_le (by rw [List.length_drop]; omega)]
  rw [e]
  exact Ev.byt_cut k
theorem cut_from2 (l : List UInt8) (k n : Nat) : List.take ((List.take ((bts l).length - (k : Int).toNat) (List.drop (k : Int).toNat (bts l))).length - n) (List.drop n (List.take ((bts l).length - (k : Int).toNat) (List.drop (k : Int).toNat (bts l)))) = bts ((l.drop k).drop n) := by
  rw [cut_from, bts_cut, bts_len, List.take_of_length_le (by rw [List.length_drop]; omega)]
theorem sps_app1 (a b : List Sp) : sps (a ++ b) = sps a ++ sps b := by simp [sps]
theorem small_app {a : List Sp} {s : Sp} (h : Small a) (hs : s.t.size ≤ 1000000000) : Small (a ++ [s]) := by
  intro x hx
  rcases List.mem_append.1 hx with h' | h'
  · exact h x h'
  · simp at h'; subst h'; exact hs
theorem lastK_at {l : List Sp} (h : (0 : Int) ≤ IntKind.i64.wrap ((l.length : Int) - 1)) (hl : l.length ≤ 65536) (h' : (IntKind.i64.wrap ((l.length : Int) - 1)).toNat < l.length) : (l[(IntKind.i64.wrap ((l.length : Int) - 1)).toNat]'h').k = lastK l := by
  have e : (IntKind.i64.wrap ((l.length : Int) - 1)).toNat = l.length - 1 := by rw [wrap_id (by omega)]; omega
  rw [e] at h'
  simp only [e]
  unfold lastK
  rw [List.getLast?_eq_getElem?, List.getElem?_eq_getElem h']
set_option maxHeartbeats 32000000 in
theorem wtake_core (b : List UInt8) (hb : b.length ≤ 1000000000) : CallW env 91 [.lst 1 (bts b)] (TakeR b) := by
  rcases takeN_bad b with ⟨n, k, hq⟩ | hq | hq
  · obtain ⟨b1, b2, b3, b4, b5, b6, b7⟩ := put_take hq
    obtain ⟨N, rfl⟩ := Int.eq_ofNat_of_zero_le b1
    obtain ⟨K, rfl⟩ := Int.eq_ofNat_of_zero_le (show 0 ≤ k by omega)
    refine Ev.fn [0, 2, 3, 4, 5, 6, 7, 8, 9, 10, 20, 21, 22, 23, 31, 34, 47, 49] 0 [.tmp 2, .tmp 3, .cell 4 30] Tryd.func91 (comp91 _ rfl) ?_
    repeat' (first | ((with_reducible refine Ev.br0 ?_); (first | refine Ev.brp ?_ | refine Ev.brn ?_); conv => whnf) | ((with_reducible refine Ev.c0 ?_); first | refine Ev.cp ?_ | refine Ev.cn ?_) | ((refine Ev.sw ?_); conv => whnf) | refine Ev.sn ?_ | ((with_reducible refine Ev.chk_k ?_ ?_); rotate_left; exact Ev.bt; conv => whnf) | ((with_reducible (refine Ev.RI.run ?_; constructor)) <;> intro _) | ((refine Ev.sg ?_); conv => whnf) | ((with_reducible refine Ev.sided ?_ ?_); conv => whnf) | ((with_reducible refine Ev.kr (hs := [129, 131]) (fun Q hQ => ?_)); (simp only [Ev.runE_cons, Ev.runE_nil]); conv => whnf) | (with_reducible refine hQ _ ?_; clear hQ Q) | ((refine Ev.sf ?_); intro F hF; conv => whnf) | (with_reducible refine hF _ ?_; clear hF F) | ((with_reducible refine Ev.go_k (fun c' => ?_)); conv => whnf) | ((with_reducible refine Ev.il0 129 ?_); refine Ev.il 129 [0, 1, 2, 3, 4, 6] [.tmp 2] Tryd.func129 (comp129 _ rfl) (fun ct' => ?_)) | ((with_reducible refine Ev.il0 131 ?_); refine Ev.il 131 [0, 1, 2, 6, 7, 8, 9, 10, 11, 12, 22, 53, 57, 65, 76] [.cell 6 35, .tmp 7] Tryd.func131 (comp131 _ rfl) (fun ct' => ?_)) | ((with_reducible refine Ev.ca0 ?_); (first | refine Ev.ca (ntake_is hq hb) ?_); conv => whnf) | ((with_reducible refine Ev.dr0 ?_); (first | refine Ev.dr 13 [129, 131] [0, 1, 2, 3] ?_ | refine Ev.dr 19 [129, 131] [0, 1, 2, 3] ?_ | refine Ev.dr 20 [129, 131] [0, 1, 2, 3, 4, 6, 5, 7, 8] ?_ | refine Ev.dr 7 [129, 131] [0, 1, 2, 3, 4, 5, 6, 7, 8, 9, 10, 11, 12, 13, 14, 15, 16, 17, 18, 19, 20, 21, 22, 23, 24, 25, 26, 27] ?_ | refine Ev.dr 11 [129, 131] [0, 4, 5, 1, 2, 3, 6] ?_ | refine Ev.dr 13 [129, 131] [0, 3, 4, 1, 2, 5, 6, 7] ?_ | refine Ev.dr 16 [129, 131] [0, 1, 4, 5, 2, 3, 6, 7, 8] ?_); intro Q hQ; (simp only [Ev.runE_cons, Ev.runE_nil]); conv => whnf) | ((first | refine Ev.el_map0 ?_ (fun hi => ?_) | refine Ev.el_mapN ?_ (fun hi => ?_)); rotate_left; conv => whnf) | ((with_reducible refine Ev.sd0 ?_); exact Ev.sd) | fail)
    · rename_i h
      have : wTake b = .error 8 := by unfold wTake; rw [hq]; simp only; rw [if_neg (by decide), if_pos h]
      repeat' (first | ((with_reducible refine Ev.br0 ?_); (first | refine Ev.brp ?_ | refine Ev.brn ?_); conv => whnf) | ((with_reducible refine Ev.c0 ?_); first | refine Ev.cp ?_ | refine Ev.cn ?_) | ((refine Ev.sw ?_); conv => whnf) | refine Ev.sn ?_ | ((with_reducible refine Ev.chk_k ?_ ?_); rotate_left; exact Ev.bt; conv => whnf) | ((with_reducible (refine Ev.RI.run ?_; constructor)) <;> intro _) | ((refine Ev.sg ?_); conv => whnf) | ((with_reducible refine Ev.sided ?_ ?_); conv => whnf) | ((with_reducible refine Ev.kr (hs := [129, 131]) (fun Q hQ => ?_)); (simp only [Ev.runE_cons, Ev.runE_nil]); conv => whnf) | (with_reducible refine hQ _ ?_; clear hQ Q) | ((refine Ev.sf ?_); intro F hF; conv => whnf) | (with_reducible refine hF _ ?_; clear hF F) | ((with_reducible refine Ev.go_k (fun c' => ?_)); conv => whnf) | ((with_reducible refine Ev.il0 129 ?_); refine Ev.il 129 [0, 1, 2, 3, 4, 6] [.tmp 2] Tryd.func129 (comp129 _ rfl) (fun ct' => ?_)) | ((with_reducible refine Ev.il0 131 ?_); refine Ev.il 131 [0, 1, 2, 6, 7, 8, 9, 10, 11, 12, 22, 53, 57, 65, 76] [.cell 6 35, .tmp 7] Tryd.func131 (comp131 _ rfl) (fun ct' => ?_)) | (with_reducible refine Ev.unroll 1 ?_) | ((with_reducible refine Ev.dr0 ?_); (first | refine Ev.dr 13 [129, 131] [0, 1, 2, 3] ?_ | refine Ev.dr 19 [129, 131] [0, 1, 2, 3] ?_ | refine Ev.dr 20 [129, 131] [0, 1, 2, 3, 4, 6, 5, 7, 8] ?_ | refine Ev.dr 7 [129, 131] [0, 1, 2, 3, 4, 5, 6, 7, 8, 9, 10, 11, 12, 13, 14, 15, 16, 17, 18, 19, 20, 21, 22, 23, 24, 25, 26, 27] ?_ | refine Ev.dr 11 [129, 131] [0, 4, 5, 1, 2, 3, 6] ?_ | refine Ev.dr 13 [129, 131] [0, 3, 4, 1, 2, 5, 6, 7] ?_ | refine Ev.dr 16 [129, 131] [0, 1, 4, 5, 2, 3, 6, 7, 8] ?_); intro Q hQ; (simp only [Ev.runE_cons, Ev.runE_nil]); conv => whnf) | ((first | refine Ev.el_map0 ?_ (fun hi => ?_) | refine Ev.el_mapN ?_ (fun hi => ?_)); rotate_left; conv => whnf) | ((with_reducible refine Ev.sd0 ?_); exact Ev.sd) | fail)
      · exact takeR_bad this
      · omega
    · rename_i h
      have h0 : wTake b = match takeSps N 0 (b.drop K) with | .error e => .error e | .ok (l, left) => if opMayF l = 0 then .ok (l, (b.length : Int) - left.length) else .error 8 := by
        unfold wTake; rw [hq]; simp only; rw [if_neg (by decide), if_neg h]; rfl
      refine Ev.loop (fun m s => ∃ (i c : Nat) (left : List UInt8) (done : List Sp) (st : AV) (hx : List (Nat × Blk)),
        s = ⟨[(0, .lst 1 (bts b)), (2, nilA), (3, .v (.int .i64 0)), (4, .ptr 16 0 0 0), (5, .ptr 520 8 0 0), (6, .clo (.func 129) [] [.ptr 16 0 0 0, .ptr 520 8 0 0]), (8, st), (21, .v (.int .i64 N)), (22, .v (.int .i64 i))],
          (16, ⟨1, 30, 0, 0, true, [[.v (.int .i64 0)]]⟩) :: (520, ⟨1, 56, 8, 0, true, [[.lst 1 (bts left)]]⟩) :: hx, c⟩ ∧
        ((done = [] ∧ st = nilA ∧ hx = []) ∨ (done ≠ [] ∧ ∃ v, st = .own 7192 v 0 done.length ∧ hx = [(7192, ⟨3, 35, v, 0, false, sps done⟩)])) ∧
        done.length = i ∧ m + i = N ∧ left.length ≤ 1000000000 ∧ Small done ∧ takeSps N 0 (b.drop K) = joinT done (takeSps m (lastK done) left)) ?_ ?_
      · have hc := cut_from b K
        (refine Ev.to _ ?hs1 ?hh1 ?hc1 ⟨N, 0, c', b.drop K, [], nilA, [], rfl, ?hp1⟩; (case hs1 | hh1 => ((repeat' (first | exact trivial | refine And.intro ?_ ?_)) <;> (first | exact Ev.se | (refine Ev.slot_eq rfl ?_; first | (first | (exact congrArg (fun n => Blk.mk 1 56 8 0 true [[AV.lst 1 n]]) hc) | rfl) | ((first | refine Ev.int_eq ?_ | refine Ev.own_eq ?_ | refine Ev.blk_eq ?_); (first | (exact congrArg (fun n => Blk.mk 1 56 8 0 true [[AV.lst 1 n]]) hc) | rfl))) | exact Ev.sr))); (case hc1 => exact Nat.le_refl _))
        refine ⟨.inl ⟨rfl, rfl, rfl⟩, rfl, by omega, by rw [List.length_drop]; omega, fun s h => by simp at h, ?_⟩
        show _ = joinT [] (takeSps N 0 _)
        cases takeSps N 0 (b.drop K) with
        | error e => rfl
        | ok p => rfl
      rintro m s1 ⟨i, c, left, done, st, hx, rfl, hst, hi, hm, hle, hsm, ht⟩
      have hdl : done.length ≤ 65536 := by omega
      by_cases hN : i = N
      · have hm0 : m = 0 := by omega
        subst hm0
        have we := wt_end h0 ht
        have hw : IntKind.i64.wrap ((b.length : Int) - left.length) = (b.length : Int) - left.length := wrap_id (by omega)
        rcases hst with ⟨rfl, rfl, rfl⟩ | ⟨hne, v, rfl, rfl⟩
        · rw [show opMayF [] = 0 from rfl, if_pos rfl] at we
          repeat' (first | ((with_reducible refine Ev.br0 ?_); (first | refine Ev.brp ?_ | refine Ev.brn ?_); conv => whnf) | ((with_reducible refine Ev.c0 ?_); first | refine Ev.cp ?_ | refine Ev.cn ?_) | ((refine Ev.sw ?_); conv => whnf) | refine Ev.sn ?_ | ((with_reducible refine Ev.chk_k ?_ ?_); rotate_left; exact Ev.bt; conv => whnf) | ((with_reducible (refine Ev.RI.run ?_; constructor)) <;> intro _) | ((refine Ev.sg ?_); conv => whnf) | ((with_reducible refine Ev.sided ?_ ?_); conv => whnf) | ((with_reducible refine Ev.kr (hs := [129, 131]) (fun Q hQ => ?_)); (simp only [Ev.runE_cons, Ev.runE_nil]); conv => whnf) | (with_reducible refine hQ _ ?_; clear hQ Q) | ((refine Ev.sf ?_); intro F hF; conv => whnf) | (with_reducible refine hF _ ?_; clear hF F) | ((with_reducible refine Ev.go_k (fun c' => ?_)); conv => whnf) | ((with_reducible refine Ev.il0 129 ?_); refine Ev.il 129 [0, 1, 2, 3, 4, 6] [.tmp 2] Tryd.func129 (comp129 _ rfl) (fun ct' => ?_)) | ((with_reducible refine Ev.il0 131 ?_); refine Ev.il 131 [0, 1, 2, 6, 7, 8, 9, 10, 11, 12, 22, 53, 57, 65, 76] [.cell 6 35, .tmp 7] Tryd.func131 (comp131 _ rfl) (fun ct' => ?_)) | ((with_reducible refine Ev.ca0 ?_); (first | refine Ev.ca (wtake_nil) ?_); conv => whnf) | ((with_reducible refine Ev.dr0 ?_); (first | refine Ev.dr 13 [129, 131] [0, 1, 2, 3] ?_ | refine Ev.dr 19 [129, 131] [0, 1, 2, 3] ?_ | refine Ev.dr 20 [129, 131] [0, 1, 2, 3, 4, 6, 5, 7, 8] ?_ | refine Ev.dr 7 [129, 131] [0, 1, 2, 3, 4, 5, 6, 7, 8, 9, 10, 11, 12, 13, 14, 15, 16, 17, 18, 19, 20, 21, 22, 23, 24, 25, 26, 27] ?_ | refine Ev.dr 11 [129, 131] [0, 4, 5, 1, 2, 3, 6] ?_ | refine Ev.dr 13 [129, 131] [0, 3, 4, 1, 2, 5, 6, 7] ?_ | refine Ev.dr 16 [129, 131] [0, 1, 4, 5, 2, 3, 6, 7, 8] ?_); intro Q hQ; (simp only [Ev.runE_cons, Ev.runE_nil]); conv => whnf) | ((first | refine Ev.el_map0 ?_ (fun hi => ?_) | refine Ev.el_mapN ?_ (fun hi => ?_)); rotate_left; conv => whnf) | ((with_reducible refine Ev.sd0 ?_); exact Ev.sd) | fail)
          · omega
          · exact takeR_ok we (by rw [bts_len, bts_len]; exact hw) (LeR.nil 3)
        · have hdl' : (sps done).length = done.length := sps_len done
          repeat' (first | ((with_reducible refine Ev.br0 ?_); (first | refine Ev.brp ?_ | refine Ev.brn ?_); conv => whnf) | ((with_reducible refine Ev.c0 ?_); first | refine Ev.cp ?_ | refine Ev.cn ?_) | ((refine Ev.sw ?_); conv => whnf) | refine Ev.sn ?_ | ((with_reducible refine Ev.chk_k ?_ ?_); rotate_left; exact Ev.bt; conv => whnf) | ((with_reducible (refine Ev.RI.run ?_; constructor)) <;> intro _) | ((refine Ev.sg ?_); conv => whnf) | ((with_reducible refine Ev.sided ?_ ?_); conv => whnf) | ((with_reducible refine Ev.kr (hs := [129, 131]) (fun Q hQ => ?_)); (simp only [Ev.runE_cons, Ev.runE_nil]); conv => whnf) | (with_reducible refine hQ _ ?_; clear hQ Q) | ((refine Ev.sf ?_); intro F hF; conv => whnf) | (with_reducible refine hF _ ?_; clear hF F) | ((with_reducible refine Ev.go_k (fun c' => ?_)); conv => whnf) | ((with_reducible refine Ev.il0 129 ?_); refine Ev.il 129 [0, 1, 2, 3, 4, 6] [.tmp 2] Tryd.func129 (comp129 _ rfl) (fun ct' => ?_)) | ((with_reducible refine Ev.il0 131 ?_); refine Ev.il 131 [0, 1, 2, 6, 7, 8, 9, 10, 11, 12, 22, 53, 57, 65, 76] [.cell 6 35, .tmp 7] Tryd.func131 (comp131 _ rfl) (fun ct' => ?_)) | ((with_reducible refine Ev.ca0 ?_); (first | refine Ev.call_det (opMay_call done (by omega) hsm) rfl rfl ?_ | refine Ev.ca (opMay_call done (by omega) hsm) ?_); conv => whnf) | ((with_reducible refine Ev.dr0 ?_); (first | refine Ev.dr 13 [129, 131] [0, 1, 2, 3] ?_ | refine Ev.dr 19 [129, 131] [0, 1, 2, 3] ?_ | refine Ev.dr 20 [129, 131] [0, 1, 2, 3, 4, 6, 5, 7, 8] ?_ | refine Ev.dr 7 [129, 131] [0, 1, 2, 3, 4, 5, 6, 7, 8, 9, 10, 11, 12, 13, 14, 15, 16, 17, 18, 19, 20, 21, 22, 23, 24, 25, 26, 27] ?_ | refine Ev.dr 11 [129, 131] [0, 4, 5, 1, 2, 3, 6] ?_ | refine Ev.dr 13 [129, 131] [0, 3, 4, 1, 2, 5, 6, 7] ?_ | refine Ev.dr 16 [129, 131] [0, 1, 4, 5, 2, 3, 6, 7, 8] ?_); intro Q hQ; (simp only [Ev.runE_cons, Ev.runE_nil]); conv => whnf) | ((first | refine Ev.el_map0 ?_ (fun hi => ?_) | refine Ev.el_mapN ?_ (fun hi => ?_)); rotate_left; conv => whnf) | ((with_reducible refine Ev.sd0 ?_); exact Ev.sd) | fail)
          · omega
          · rename_i h1
            rw [if_pos h1] at we
            exact takeR_ok we (by rw [bts_len, bts_len]; exact hw) (by rw [List.drop_zero, List.take_of_length_le (by omega)]; exact LeR.refl _)
          · rename_i h1
            rw [if_neg h1] at we
            exact takeR_bad we
      have hiN : (i : Int) < (N : Int) := by omega
      obtain ⟨m, rfl⟩ : ∃ m', m = m' + 1 := ⟨m - 1, by omega⟩
      rcases takeN_bad left with ⟨n, k, hq'⟩ | hq' | hq'
      · obtain ⟨b1', b2', b3', b4', b5', b6', b7'⟩ := put_take hq'
        obtain ⟨n, rfl⟩ := Int.eq_ofNat_of_zero_le b1'
        obtain ⟨k, rfl⟩ := Int.eq_ofNat_of_zero_le (show 0 ≤ k by omega)
        have e1 : (n : Int).tmod 4 = (n : Int) % 4 := Int.tmod_eq_emod_of_nonneg (by omega)
        have e2 : IntKind.i64.wrap ((n : Int).tdiv 4) = (n : Int) / 4 := by rw [Int.tdiv_eq_ediv_of_nonneg (by omega), wrap_id (by omega)]
        have hc1 := cut_from left k
        have hc2 : List.take ((List.take ((bts left).length - (k : Int).toNat) (List.drop (k : Int).toNat (bts left))).length - (IntKind.i64.wrap ((n : Int).tdiv 4)).toNat) (List.drop (IntKind.i64.wrap ((n : Int).tdiv 4)).toNat (List.take ((bts left).length - (k : Int).toNat) (List.drop (k : Int).toNat (bts left)))) = bts ((left.drop k).drop ((n : Int) / 4).toNat) := by rw [e2]; exact cut_from2 left k _
        have hlk : (List.take ((bts left).length - (k : Int).toNat) (List.drop (k : Int).toNat (bts left))).length = (left.drop k).length := by rw [hc1, bts_len]
        have hsz : ∀ x, (⟨((left.drop (k : Int).toNat).take x).toArray⟩ : ByteArray).size ≤ 1000000000 := fun x => by
          rw [← len_list]; simp only [List.length_take, List.length_drop]; omega
        by_cases h2 : (n : Int).tmod 4 = 2
        · have hmo : mostOf ((n : Int) % 4) = 65536 := by rw [← e1, h2]; rfl
          have hrow : List.take 1 (List.drop 0 [[AV.v (.int .i64 ((n : Int).tmod 4)), AV.v (.int .i64 0), AV.v (.string ⟨(List.take (IntKind.i64.wrap ((n : Int).tdiv 4)).toNat (List.drop (k : Int).toNat left)).toArray⟩)]]) = sps [⟨2, 0, ⟨((left.drop k).take ((n : Int) / 4).toNat).toArray⟩⟩] := by rw [h2, e2]; rfl
          rcases hst with ⟨rfl, rfl, rfl⟩ | ⟨hne, v, rfl, rfl⟩
          · have hl0 : lastK [] = 0 := rfl
            have hlast := trivial
            repeat' (first | ((with_reducible refine Ev.br0 ?_); (first | refine Ev.brp ?_ | refine Ev.brn ?_); conv => whnf) | ((with_reducible refine Ev.c0 ?_); first | refine Ev.cp ?_ | refine Ev.cn ?_) | (((with_reducible refine Ev.br_pos hiN ?_); conv => whnf)) | (with_reducible refine Ev.c_pos hiN ?_) | (((with_reducible refine Ev.br_pos hlast ?_); conv => whnf)) | (with_reducible refine Ev.c_pos hlast ?_) | (((with_reducible refine Ev.br_pos h2 ?_); conv => whnf)) | (with_reducible refine Ev.c_pos h2 ?_) | ((refine Ev.sw ?_); conv => whnf) | refine Ev.sn ?_ | ((with_reducible refine Ev.chk_k ?_ ?_); rotate_left; exact Ev.bt; conv => whnf) | ((with_reducible (refine Ev.RI.run ?_; constructor)) <;> intro _) | ((refine Ev.sg ?_); conv => whnf) | ((with_reducible refine Ev.sided ?_ ?_); conv => whnf) | ((with_reducible refine Ev.kr (hs := [129, 131]) (fun Q hQ => ?_)); (simp only [Ev.runE_cons, Ev.runE_nil]); conv => whnf) | (with_reducible refine hQ _ ?_; clear hQ Q) | ((refine Ev.sf ?_); intro F hF; conv => whnf) | (with_reducible refine hF _ ?_; clear hF F) | ((with_reducible refine Ev.go_k (fun c' => ?_)); conv => whnf) | ((with_reducible refine Ev.il0 129 ?_); refine Ev.il 129 [0, 1, 2, 3, 4, 6] [.tmp 2] Tryd.func129 (comp129 _ rfl) (fun ct' => ?_)) | ((with_reducible refine Ev.il0 131 ?_); refine Ev.il 131 [0, 1, 2, 6, 7, 8, 9, 10, 11, 12, 22, 53, 57, 65, 76] [.cell 6 35, .tmp 7] Tryd.func131 (comp131 _ rfl) (fun ct' => ?_)) | ((with_reducible refine Ev.ca0 ?_); (first | refine Ev.call_det (pvalid_call _ (hsz _)) rfl rfl ?_ | refine Ev.ca (ntake_is hq' hle) ?_ | refine Ev.ca (pvalid_call _ (hsz _)) ?_); conv => whnf) | ((refine byt_cut2 ?_); conv => whnf) | ((with_reducible refine Ev.dr0 ?_); (first | refine Ev.dr 13 [129, 131] [0, 1, 2, 3] ?_ | refine Ev.dr 19 [129, 131] [0, 1, 2, 3] ?_ | refine Ev.dr 20 [129, 131] [0, 1, 2, 3, 4, 6, 5, 7, 8] ?_ | refine Ev.dr 7 [129, 131] [0, 1, 2, 3, 4, 5, 6, 7, 8, 9, 10, 11, 12, 13, 14, 15, 16, 17, 18, 19, 20, 21, 22, 23, 24, 25, 26, 27] ?_ | refine Ev.dr 11 [129, 131] [0, 4, 5, 1, 2, 3, 6] ?_ | refine Ev.dr 13 [129, 131] [0, 3, 4, 1, 2, 5, 6, 7] ?_ | refine Ev.dr 16 [129, 131] [0, 1, 4, 5, 2, 3, 6, 7, 8] ?_); intro Q hQ; (simp only [Ev.runE_cons, Ev.runE_nil]); conv => whnf) | ((first | refine Ev.el_map0 ?_ (fun hi => ?_) | refine Ev.el_mapN ?_ (fun hi => ?_)); rotate_left; conv => whnf) | ((with_reducible refine Ev.sd0 ?_); exact Ev.sd) | fail)
            all_goals (try (have hz := lastK_at hlast hdl hi))
            all_goals first
              | (exfalso; omega)
              | (refine takeR_bad (wt_err h0 ht (one_bad hq' ?_)); omega)
              | (refine takeR_bad (wt_err h0 ht (one_short hq' ?_ ?_ ?_)) <;> first | omega | (rw [Int.toNat_natCast]; omega))
              | (refine takeR_bad (wt_err h0 ht (one_no hq' ?_ ?_ ?_ ?_)) <;> first | omega | (rw [Int.toNat_natCast]; omega) | (rw [← e2]; assumption))
              | skip
            · (refine Ev.again (m) _ ?hm2 ?hs2 ?hh2 ?hc2 ⟨i + 1, c' + 8 + 8 + 8, (left.drop k).drop ((n : Int) / 4).toNat, [] ++ [(⟨2, 0, ⟨((left.drop k).take ((n : Int) / 4).toNat).toArray⟩⟩ : Sp)], .own 7192 (c' + 8 + 8) 0 ([] ++ [(⟨2, 0, ⟨((left.drop k).take ((n : Int) / 4).toNat).toArray⟩⟩ : Sp)]).length, [(7192, ⟨3, 35, c' + 8 + 8, 0, false, sps ([] ++ [(⟨2, 0, ⟨((left.drop k).take ((n : Int) / 4).toNat).toArray⟩⟩ : Sp)])⟩)], rfl, ?hp2⟩; (case hs2 | hh2 => ((repeat' (first | exact trivial | refine And.intro ?_ ?_)) <;> (first | exact Ev.se | (refine Ev.slot_eq rfl ?_; first | (first | (exact congrArg (fun n => Blk.mk 1 56 8 0 true [[AV.lst 1 n]]) hc2) | (exact congrArg (fun n => Blk.mk 3 35 _ 0 false n) hrow) | (exact congrArg (fun n => Blk.mk 3 35 _ 0 false n) ((congrArg (sps done ++ ·) hrow).trans (sps_app1 _ _).symm)) | exact wrap_succ (by omega) | rfl | (simp; done)) | ((first | refine Ev.int_eq ?_ | refine Ev.own_eq ?_ | refine Ev.blk_eq ?_); (first | (exact congrArg (fun n => Blk.mk 1 56 8 0 true [[AV.lst 1 n]]) hc2) | (exact congrArg (fun n => Blk.mk 3 35 _ 0 false n) hrow) | (exact congrArg (fun n => Blk.mk 3 35 _ 0 false n) ((congrArg (sps done ++ ·) hrow).trans (sps_app1 _ _).symm)) | exact wrap_succ (by omega) | rfl | (simp; done)))) | exact Ev.sr))); (case hc2 => exact Nat.le_refl _); (case hm2 => omega))
              refine ⟨.inr ⟨by simp, _, rfl, rfl⟩, (by have h0 : i = 0 := hi.symm; simp; omega), by omega, by simp only [List.length_drop]; omega, small_app hsm ?_, wt_step ht ?_⟩
              · exact hsz _
              · exact one_put hq' (by omega) (by omega) (by rw [Int.toNat_natCast]; omega) (by rw [← e2]; assumption)
          · have hdne : 0 < done.length := List.length_pos_iff.2 hne
            have hwl : IntKind.i64.wrap ((done.length : Int) - 1) = (done.length : Int) - 1 := wrap_id (by omega)
            have hlast : (0 : Int) ≤ IntKind.i64.wrap ((done.length : Int) - 1) := by omega
            repeat' (first | ((with_reducible refine Ev.br0 ?_); (first | refine Ev.brp ?_ | refine Ev.brn ?_); conv => whnf) | ((with_reducible refine Ev.c0 ?_); first | refine Ev.cp ?_ | refine Ev.cn ?_) | (((with_reducible refine Ev.br_pos hiN ?_); conv => whnf)) | (with_reducible refine Ev.c_pos hiN ?_) | (((with_reducible refine Ev.br_pos hlast ?_); conv => whnf)) | (with_reducible refine Ev.c_pos hlast ?_) | (((with_reducible refine Ev.br_pos h2 ?_); conv => whnf)) | (with_reducible refine Ev.c_pos h2 ?_) | ((refine Ev.sw ?_); conv => whnf) | refine Ev.sn ?_ | ((with_reducible refine Ev.chk_k ?_ ?_); rotate_left; exact Ev.bt; conv => whnf) | ((with_reducible (refine Ev.RI.run ?_; constructor)) <;> intro _) | ((refine Ev.sg ?_); conv => whnf) | ((with_reducible refine Ev.sided ?_ ?_); conv => whnf) | ((with_reducible refine Ev.kr (hs := [129, 131]) (fun Q hQ => ?_)); (simp only [Ev.runE_cons, Ev.runE_nil]); conv => whnf) | (with_reducible refine hQ _ ?_; clear hQ Q) | ((refine Ev.sf ?_); intro F hF; conv => whnf) | (with_reducible refine hF _ ?_; clear hF F) | ((with_reducible refine Ev.go_k (fun c' => ?_)); conv => whnf) | ((with_reducible refine Ev.il0 129 ?_); refine Ev.il 129 [0, 1, 2, 3, 4, 6] [.tmp 2] Tryd.func129 (comp129 _ rfl) (fun ct' => ?_)) | ((with_reducible refine Ev.il0 131 ?_); refine Ev.il 131 [0, 1, 2, 6, 7, 8, 9, 10, 11, 12, 22, 53, 57, 65, 76] [.cell 6 35, .tmp 7] Tryd.func131 (comp131 _ rfl) (fun ct' => ?_)) | ((with_reducible refine Ev.ca0 ?_); (first | refine Ev.call_det (pvalid_call _ (hsz _)) rfl rfl ?_ | refine Ev.ca (ntake_is hq' hle) ?_ | refine Ev.ca (pvalid_call _ (hsz _)) ?_); conv => whnf) | ((refine byt_cut2 ?_); conv => whnf) | ((with_reducible refine Ev.dr0 ?_); (first | refine Ev.dr 13 [129, 131] [0, 1, 2, 3] ?_ | refine Ev.dr 19 [129, 131] [0, 1, 2, 3] ?_ | refine Ev.dr 20 [129, 131] [0, 1, 2, 3, 4, 6, 5, 7, 8] ?_ | refine Ev.dr 7 [129, 131] [0, 1, 2, 3, 4, 5, 6, 7, 8, 9, 10, 11, 12, 13, 14, 15, 16, 17, 18, 19, 20, 21, 22, 23, 24, 25, 26, 27] ?_ | refine Ev.dr 11 [129, 131] [0, 4, 5, 1, 2, 3, 6] ?_ | refine Ev.dr 13 [129, 131] [0, 3, 4, 1, 2, 5, 6, 7] ?_ | refine Ev.dr 16 [129, 131] [0, 1, 4, 5, 2, 3, 6, 7, 8] ?_); intro Q hQ; (simp only [Ev.runE_cons, Ev.runE_nil]); conv => whnf) | ((first | refine Ev.el_map0 ?_ (fun hi => ?_) | refine Ev.el_mapN ?_ (fun hi => ?_)); rotate_left; conv => whnf) | ((with_reducible refine Ev.sd0 ?_); exact Ev.sd) | fail)
            all_goals (try (have hz := lastK_at hlast hdl hi))
            all_goals first
              | (exfalso; omega)
              | (refine takeR_bad (wt_err h0 ht (one_bad hq' ?_)); omega)
              | (refine takeR_bad (wt_err h0 ht (one_short hq' ?_ ?_ ?_)) <;> first | omega | (rw [Int.toNat_natCast]; omega))
              | (refine takeR_bad (wt_err h0 ht (one_no hq' ?_ ?_ ?_ ?_)) <;> first | omega | (rw [Int.toNat_natCast]; omega) | (rw [← e2]; assumption))
              | skip
            · rename_i hq0
              have hx : lastK done = (n : Int).tmod 4 := hz.symm.trans hq0
              refine takeR_bad (wt_err h0 ht (one_bad hq' ?_)); omega
            · rename_i hn0 hlt
              have hx : ¬ lastK done = (n : Int).tmod 4 := fun e => hn0 (hz.trans e)
              exact takeR_bad (wt_err h0 ht (one_short hq' (by omega) (by omega) (by rw [Int.toNat_natCast]; omega)))
            · rename_i hn0 hlt hv
              have hx : ¬ lastK done = (n : Int).tmod 4 := fun e => hn0 (hz.trans e)
              (refine Ev.again (m) _ ?hm3 ?hs3 ?hh3 ?hc3 ⟨i + 1, c' + 8 + 8 + 8, (left.drop k).drop ((n : Int) / 4).toNat, done ++ [(⟨2, 0, ⟨((left.drop k).take ((n : Int) / 4).toNat).toArray⟩⟩ : Sp)], .own 7192 (c' + 8 + 8) 0 (done ++ [(⟨2, 0, ⟨((left.drop k).take ((n : Int) / 4).toNat).toArray⟩⟩ : Sp)]).length, [(7192, ⟨3, 35, c' + 8 + 8, 0, false, sps (done ++ [(⟨2, 0, ⟨((left.drop k).take ((n : Int) / 4).toNat).toArray⟩⟩ : Sp)])⟩)], rfl, ?hp3⟩; (case hs3 | hh3 => ((repeat' (first | exact trivial | refine And.intro ?_ ?_)) <;> (first | exact Ev.se | (refine Ev.slot_eq rfl ?_; first | (first | (exact congrArg (fun n => Blk.mk 1 56 8 0 true [[AV.lst 1 n]]) hc2) | (exact congrArg (fun n => Blk.mk 3 35 _ 0 false n) hrow) | (exact congrArg (fun n => Blk.mk 3 35 _ 0 false n) ((congrArg (sps done ++ ·) hrow).trans (sps_app1 _ _).symm)) | exact wrap_succ (by omega) | rfl | (simp; done)) | ((first | refine Ev.int_eq ?_ | refine Ev.own_eq ?_ | refine Ev.blk_eq ?_); (first | (exact congrArg (fun n => Blk.mk 1 56 8 0 true [[AV.lst 1 n]]) hc2) | (exact congrArg (fun n => Blk.mk 3 35 _ 0 false n) hrow) | (exact congrArg (fun n => Blk.mk 3 35 _ 0 false n) ((congrArg (sps done ++ ·) hrow).trans (sps_app1 _ _).symm)) | exact wrap_succ (by omega) | rfl | (simp; done)))) | exact Ev.sr))); (case hc3 => exact Nat.le_refl _); (case hm3 => omega))
              refine ⟨.inr ⟨by simp, _, rfl, rfl⟩, by simp; omega, by omega, by simp only [List.length_drop]; omega, small_app hsm ?_, wt_step ht ?_⟩
              · exact hsz _
              · exact one_put hq' (by omega) (by omega) (by rw [Int.toNat_natCast]; omega) (by rw [← e2]; assumption)
            · rename_i hn0 hlt hv
              have hx : ¬ lastK done = (n : Int).tmod 4 := fun e => hn0 (hz.trans e)
              exact takeR_bad (wt_err h0 ht (one_no hq' (by omega) (by omega) (by rw [Int.toNat_natCast]; omega) (by rw [← e2]; assumption)))
            · refine Ev.Side.of ?_; show (IntKind.i64.wrap ((done.length : Int) - 1)).toNat < done.length; rw [hwl]; omega
        · have hmo : mostOf ((n : Int) % 4) = 1048576 := mostN (by rw [← e1]; exact h2)
          have hrow : List.take 1 (List.drop 0 [[AV.v (.int .i64 ((n : Int).tmod 4)), AV.v (.int .i64 (IntKind.i64.wrap ((n : Int).tdiv 4))), AV.v (.string ⟨#[]⟩)]]) = sps [⟨(n : Int) % 4, (n : Int) / 4, ⟨#[]⟩⟩] := by rw [e1, e2]; rfl
          rcases hst with ⟨rfl, rfl, rfl⟩ | ⟨hne, v, rfl, rfl⟩
          · have hl0 : lastK [] = 0 := rfl
            have hlast := trivial
            repeat' (first | ((with_reducible refine Ev.br0 ?_); (first | refine Ev.brp ?_ | refine Ev.brn ?_); conv => whnf) | ((with_reducible refine Ev.c0 ?_); first | refine Ev.cp ?_ | refine Ev.cn ?_) | (((with_reducible refine Ev.br_pos hiN ?_); conv => whnf)) | (with_reducible refine Ev.c_pos hiN ?_) | (((with_reducible refine Ev.br_pos hlast ?_); conv => whnf)) | (with_reducible refine Ev.c_pos hlast ?_) | (((with_reducible refine Ev.br_neg h2 ?_); conv => whnf)) | (with_reducible refine Ev.c_neg h2 ?_) | ((refine Ev.sw ?_); conv => whnf) | refine Ev.sn ?_ | ((with_reducible refine Ev.chk_k ?_ ?_); rotate_left; exact Ev.bt; conv => whnf) | ((with_reducible (refine Ev.RI.run ?_; constructor)) <;> intro _) | ((refine Ev.sg ?_); conv => whnf) | ((with_reducible refine Ev.sided ?_ ?_); conv => whnf) | ((with_reducible refine Ev.kr (hs := [129, 131]) (fun Q hQ => ?_)); (simp only [Ev.runE_cons, Ev.runE_nil]); conv => whnf) | (with_reducible refine hQ _ ?_; clear hQ Q) | ((refine Ev.sf ?_); intro F hF; conv => whnf) | (with_reducible refine hF _ ?_; clear hF F) | ((with_reducible refine Ev.go_k (fun c' => ?_)); conv => whnf) | ((with_reducible refine Ev.il0 129 ?_); refine Ev.il 129 [0, 1, 2, 3, 4, 6] [.tmp 2] Tryd.func129 (comp129 _ rfl) (fun ct' => ?_)) | ((with_reducible refine Ev.il0 131 ?_); refine Ev.il 131 [0, 1, 2, 6, 7, 8, 9, 10, 11, 12, 22, 53, 57, 65, 76] [.cell 6 35, .tmp 7] Tryd.func131 (comp131 _ rfl) (fun ct' => ?_)) | ((with_reducible refine Ev.ca0 ?_); (first | refine Ev.call_det (pvalid_call _ (hsz _)) rfl rfl ?_ | refine Ev.ca (ntake_is hq' hle) ?_ | refine Ev.ca (pvalid_call _ (hsz _)) ?_); conv => whnf) | ((refine byt_cut2 ?_); conv => whnf) | ((with_reducible refine Ev.dr0 ?_); (first | refine Ev.dr 13 [129, 131] [0, 1, 2, 3] ?_ | refine Ev.dr 19 [129, 131] [0, 1, 2, 3] ?_ | refine Ev.dr 20 [129, 131] [0, 1, 2, 3, 4, 6, 5, 7, 8] ?_ | refine Ev.dr 7 [129, 131] [0, 1, 2, 3, 4, 5, 6, 7, 8, 9, 10, 11, 12, 13, 14, 15, 16, 17, 18, 19, 20, 21, 22, 23, 24, 25, 26, 27] ?_ | refine Ev.dr 11 [129, 131] [0, 4, 5, 1, 2, 3, 6] ?_ | refine Ev.dr 13 [129, 131] [0, 3, 4, 1, 2, 5, 6, 7] ?_ | refine Ev.dr 16 [129, 131] [0, 1, 4, 5, 2, 3, 6, 7, 8] ?_); intro Q hQ; (simp only [Ev.runE_cons, Ev.runE_nil]); conv => whnf) | ((first | refine Ev.el_map0 ?_ (fun hi => ?_) | refine Ev.el_mapN ?_ (fun hi => ?_)); rotate_left; conv => whnf) | ((with_reducible refine Ev.sd0 ?_); exact Ev.sd) | fail)
            all_goals (try (have hz := lastK_at hlast hdl hi))
            all_goals first
              | (exfalso; omega)
              | (refine takeR_bad (wt_err h0 ht (one_bad hq' ?_)); omega)
              | (refine takeR_bad (wt_err h0 ht (one_short hq' ?_ ?_ ?_)) <;> first | omega | (rw [Int.toNat_natCast]; omega))
              | (refine takeR_bad (wt_err h0 ht (one_no hq' ?_ ?_ ?_ ?_)) <;> first | omega | (rw [Int.toNat_natCast]; omega) | (rw [← e2]; assumption))
              | skip
            · (refine Ev.again (m) _ ?hm4 ?hs4 ?hh4 ?hc4 ⟨i + 1, c' + 8 + 8 + 8, left.drop k, [] ++ [(⟨(n : Int) % 4, (n : Int) / 4, ⟨#[]⟩⟩ : Sp)], .own 7192 (c' + 8 + 8) 0 ([] ++ [(⟨(n : Int) % 4, (n : Int) / 4, ⟨#[]⟩⟩ : Sp)]).length, [(7192, ⟨3, 35, c' + 8 + 8, 0, false, sps ([] ++ [(⟨(n : Int) % 4, (n : Int) / 4, ⟨#[]⟩⟩ : Sp)])⟩)], rfl, ?hp4⟩; (case hs4 | hh4 => ((repeat' (first | exact trivial | refine And.intro ?_ ?_)) <;> (first | exact Ev.se | (refine Ev.slot_eq rfl ?_; first | (first | (exact congrArg (fun n => Blk.mk 1 56 8 0 true [[AV.lst 1 n]]) hc1) | (exact congrArg (fun n => Blk.mk 3 35 _ 0 false n) hrow) | (exact congrArg (fun n => Blk.mk 3 35 _ 0 false n) ((congrArg (sps done ++ ·) hrow).trans (sps_app1 _ _).symm)) | exact wrap_succ (by omega) | rfl | (simp; done)) | ((first | refine Ev.int_eq ?_ | refine Ev.own_eq ?_ | refine Ev.blk_eq ?_); (first | (exact congrArg (fun n => Blk.mk 1 56 8 0 true [[AV.lst 1 n]]) hc1) | (exact congrArg (fun n => Blk.mk 3 35 _ 0 false n) hrow) | (exact congrArg (fun n => Blk.mk 3 35 _ 0 false n) ((congrArg (sps done ++ ·) hrow).trans (sps_app1 _ _).symm)) | exact wrap_succ (by omega) | rfl | (simp; done)))) | exact Ev.sr))); (case hc4 => exact Nat.le_refl _); (case hm4 => omega))
              refine ⟨.inr ⟨by simp, _, rfl, rfl⟩, (by have h0 : i = 0 := hi.symm; simp; omega), by omega, by simp only [List.length_drop]; omega, small_app hsm ?_, wt_step ht ?_⟩
              · exact Nat.zero_le _
              · exact one_keep hq' (by omega) (by omega)
          · have hdne : 0 < done.length := List.length_pos_iff.2 hne
            have hwl : IntKind.i64.wrap ((done.length : Int) - 1) = (done.length : Int) - 1 := wrap_id (by omega)
            have hlast : (0 : Int) ≤ IntKind.i64.wrap ((done.length : Int) - 1) := by omega
            repeat' (first | ((with_reducible refine Ev.br0 ?_); (first | refine Ev.brp ?_ | refine Ev.brn ?_); conv => whnf) | ((with_reducible refine Ev.c0 ?_); first | refine Ev.cp ?_ | refine Ev.cn ?_) | (((with_reducible refine Ev.br_pos hiN ?_); conv => whnf)) | (with_reducible refine Ev.c_pos hiN ?_) | (((with_reducible refine Ev.br_pos hlast ?_); conv => whnf)) | (with_reducible refine Ev.c_pos hlast ?_) | (((with_reducible refine Ev.br_neg h2 ?_); conv => whnf)) | (with_reducible refine Ev.c_neg h2 ?_) | ((refine Ev.sw ?_); conv => whnf) | refine Ev.sn ?_ | ((with_reducible refine Ev.chk_k ?_ ?_); rotate_left; exact Ev.bt; conv => whnf) | ((with_reducible (refine Ev.RI.run ?_; constructor)) <;> intro _) | ((refine Ev.sg ?_); conv => whnf) | ((with_reducible refine Ev.sided ?_ ?_); conv => whnf) | ((with_reducible refine Ev.kr (hs := [129, 131]) (fun Q hQ => ?_)); (simp only [Ev.runE_cons, Ev.runE_nil]); conv => whnf) | (with_reducible refine hQ _ ?_; clear hQ Q) | ((refine Ev.sf ?_); intro F hF; conv => whnf) | (with_reducible refine hF _ ?_; clear hF F) | ((with_reducible refine Ev.go_k (fun c' => ?_)); conv => whnf) | ((with_reducible refine Ev.il0 129 ?_); refine Ev.il 129 [0, 1, 2, 3, 4, 6] [.tmp 2] Tryd.func129 (comp129 _ rfl) (fun ct' => ?_)) | ((with_reducible refine Ev.il0 131 ?_); refine Ev.il 131 [0, 1, 2, 6, 7, 8, 9, 10, 11, 12, 22, 53, 57, 65, 76] [.cell 6 35, .tmp 7] Tryd.func131 (comp131 _ rfl) (fun ct' => ?_)) | ((with_reducible refine Ev.ca0 ?_); (first | refine Ev.call_det (pvalid_call _ (hsz _)) rfl rfl ?_ | refine Ev.ca (ntake_is hq' hle) ?_ | refine Ev.ca (pvalid_call _ (hsz _)) ?_); conv => whnf) | ((refine byt_cut2 ?_); conv => whnf) | ((with_reducible refine Ev.dr0 ?_); (first | refine Ev.dr 13 [129, 131] [0, 1, 2, 3] ?_ | refine Ev.dr 19 [129, 131] [0, 1, 2, 3] ?_ | refine Ev.dr 20 [129, 131] [0, 1, 2, 3, 4, 6, 5, 7, 8] ?_ | refine Ev.dr 7 [129, 131] [0, 1, 2, 3, 4, 5, 6, 7, 8, 9, 10, 11, 12, 13, 14, 15, 16, 17, 18, 19, 20, 21, 22, 23, 24, 25, 26, 27] ?_ | refine Ev.dr 11 [129, 131] [0, 4, 5, 1, 2, 3, 6] ?_ | refine Ev.dr 13 [129, 131] [0, 3, 4, 1, 2, 5, 6, 7] ?_ | refine Ev.dr 16 [129, 131] [0, 1, 4, 5, 2, 3, 6, 7, 8] ?_); intro Q hQ; (simp only [Ev.runE_cons, Ev.runE_nil]); conv => whnf) | ((first | refine Ev.el_map0 ?_ (fun hi => ?_) | refine Ev.el_mapN ?_ (fun hi => ?_)); rotate_left; conv => whnf) | ((with_reducible refine Ev.sd0 ?_); exact Ev.sd) | fail)
            all_goals (try (have hz := lastK_at hlast hdl hi))
            all_goals first
              | (exfalso; omega)
              | (refine takeR_bad (wt_err h0 ht (one_bad hq' ?_)); omega)
              | (refine takeR_bad (wt_err h0 ht (one_short hq' ?_ ?_ ?_)) <;> first | omega | (rw [Int.toNat_natCast]; omega))
              | (refine takeR_bad (wt_err h0 ht (one_no hq' ?_ ?_ ?_ ?_)) <;> first | omega | (rw [Int.toNat_natCast]; omega) | (rw [← e2]; assumption))
              | skip
            · rename_i hq0
              have hx : lastK done = (n : Int).tmod 4 := hz.symm.trans hq0
              refine takeR_bad (wt_err h0 ht (one_bad hq' ?_)); omega
            · rename_i hn0
              have hx : ¬ lastK done = (n : Int).tmod 4 := fun e => hn0 (hz.trans e)
              (refine Ev.again (m) _ ?hm5 ?hs5 ?hh5 ?hc5 ⟨i + 1, c' + 8 + 8 + 8, left.drop k, done ++ [(⟨(n : Int) % 4, (n : Int) / 4, ⟨#[]⟩⟩ : Sp)], .own 7192 (c' + 8 + 8) 0 (done ++ [(⟨(n : Int) % 4, (n : Int) / 4, ⟨#[]⟩⟩ : Sp)]).length, [(7192, ⟨3, 35, c' + 8 + 8, 0, false, sps (done ++ [(⟨(n : Int) % 4, (n : Int) / 4, ⟨#[]⟩⟩ : Sp)])⟩)], rfl, ?hp5⟩; (case hs5 | hh5 => ((repeat' (first | exact trivial | refine And.intro ?_ ?_)) <;> (first | exact Ev.se | (refine Ev.slot_eq rfl ?_; first | (first | (exact congrArg (fun n => Blk.mk 1 56 8 0 true [[AV.lst 1 n]]) hc1) | (exact congrArg (fun n => Blk.mk 3 35 _ 0 false n) hrow) | (exact congrArg (fun n => Blk.mk 3 35 _ 0 false n) ((congrArg (sps done ++ ·) hrow).trans (sps_app1 _ _).symm)) | exact wrap_succ (by omega) | rfl | (simp; done)) | ((first | refine Ev.int_eq ?_ | refine Ev.own_eq ?_ | refine Ev.blk_eq ?_); (first | (exact congrArg (fun n => Blk.mk 1 56 8 0 true [[AV.lst 1 n]]) hc1) | (exact congrArg (fun n => Blk.mk 3 35 _ 0 false n) hrow) | (exact congrArg (fun n => Blk.mk 3 35 _ 0 false n) ((congrArg (sps done ++ ·) hrow).trans (sps_app1 _ _).symm)) | exact wrap_succ (by omega) | rfl | (simp; done)))) | exact Ev.sr))); (case hc5 => exact Nat.le_refl _); (case hm5 => omega))
              refine ⟨.inr ⟨by simp, _, rfl, rfl⟩, by simp; omega, by omega, by simp only [List.length_drop]; omega, small_app hsm ?_, wt_step ht ?_⟩
              · exact Nat.zero_le _
              · exact one_keep hq' (by omega) (by omega)
            · refine Ev.Side.of ?_; show (IntKind.i64.wrap ((done.length : Int) - 1)).toNat < done.length; rw [hwl]; omega
      · have he : takeOne (lastK done) left = .error 7 := by unfold takeOne; rw [hq']; rfl
        have := wt_err h0 ht he
        rcases hst with ⟨rfl, rfl, rfl⟩ | ⟨hne, v, rfl, rfl⟩
        · repeat' (first | ((with_reducible refine Ev.br0 ?_); (first | refine Ev.brp ?_ | refine Ev.brn ?_); conv => whnf) | ((with_reducible refine Ev.c0 ?_); first | refine Ev.cp ?_ | refine Ev.cn ?_) | ((refine Ev.sw ?_); conv => whnf) | refine Ev.sn ?_ | ((with_reducible refine Ev.chk_k ?_ ?_); rotate_left; exact Ev.bt; conv => whnf) | ((with_reducible (refine Ev.RI.run ?_; constructor)) <;> intro _) | ((refine Ev.sg ?_); conv => whnf) | ((with_reducible refine Ev.sided ?_ ?_); conv => whnf) | ((with_reducible refine Ev.kr (hs := [129, 131]) (fun Q hQ => ?_)); (simp only [Ev.runE_cons, Ev.runE_nil]); conv => whnf) | (with_reducible refine hQ _ ?_; clear hQ Q) | ((refine Ev.sf ?_); intro F hF; conv => whnf) | (with_reducible refine hF _ ?_; clear hF F) | ((with_reducible refine Ev.go_k (fun c' => ?_)); conv => whnf) | ((with_reducible refine Ev.il0 129 ?_); refine Ev.il 129 [0, 1, 2, 3, 4, 6] [.tmp 2] Tryd.func129 (comp129 _ rfl) (fun ct' => ?_)) | ((with_reducible refine Ev.il0 131 ?_); refine Ev.il 131 [0, 1, 2, 6, 7, 8, 9, 10, 11, 12, 22, 53, 57, 65, 76] [.cell 6 35, .tmp 7] Tryd.func131 (comp131 _ rfl) (fun ct' => ?_)) | ((with_reducible refine Ev.ca0 ?_); (first | refine Ev.ca (ntake_is hq' hle) ?_); conv => whnf) | ((with_reducible refine Ev.dr0 ?_); (first | refine Ev.dr 13 [129, 131] [0, 1, 2, 3] ?_ | refine Ev.dr 19 [129, 131] [0, 1, 2, 3] ?_ | refine Ev.dr 20 [129, 131] [0, 1, 2, 3, 4, 6, 5, 7, 8] ?_ | refine Ev.dr 7 [129, 131] [0, 1, 2, 3, 4, 5, 6, 7, 8, 9, 10, 11, 12, 13, 14, 15, 16, 17, 18, 19, 20, 21, 22, 23, 24, 25, 26, 27] ?_ | refine Ev.dr 11 [129, 131] [0, 4, 5, 1, 2, 3, 6] ?_ | refine Ev.dr 13 [129, 131] [0, 3, 4, 1, 2, 5, 6, 7] ?_ | refine Ev.dr 16 [129, 131] [0, 1, 4, 5, 2, 3, 6, 7, 8] ?_); intro Q hQ; (simp only [Ev.runE_cons, Ev.runE_nil]); conv => whnf) | ((first | refine Ev.el_map0 ?_ (fun hi => ?_) | refine Ev.el_mapN ?_ (fun hi => ?_)); rotate_left; conv => whnf) | ((with_reducible refine Ev.sd0 ?_); exact Ev.sd) | fail)
          all_goals first | exact takeR_bad this | omega
        · repeat' (first | ((with_reducible refine Ev.br0 ?_); (first | refine Ev.brp ?_ | refine Ev.brn ?_); conv => whnf) | ((with_reducible refine Ev.c0 ?_); first | refine Ev.cp ?_ | refine Ev.cn ?_) | ((refine Ev.sw ?_); conv => whnf) | refine Ev.sn ?_ | ((with_reducible refine Ev.chk_k ?_ ?_); rotate_left; exact Ev.bt; conv => whnf) | ((with_reducible (refine Ev.RI.run ?_; constructor)) <;> intro _) | ((refine Ev.sg ?_); conv => whnf) | ((with_reducible refine Ev.sided ?_ ?_); conv => whnf) | ((with_reducible refine Ev.kr (hs := [129, 131]) (fun Q hQ => ?_)); (simp only [Ev.runE_cons, Ev.runE_nil]); conv => whnf) | (with_reducible refine hQ _ ?_; clear hQ Q) | ((refine Ev.sf ?_); intro F hF; conv => whnf) | (with_reducible refine hF _ ?_; clear hF F) | ((with_reducible refine Ev.go_k (fun c' => ?_)); conv => whnf) | ((with_reducible refine Ev.il0 129 ?_); refine Ev.il 129 [0, 1, 2, 3, 4, 6] [.tmp 2] Tryd.func129 (comp129 _ rfl) (fun ct' => ?_)) | ((with_reducible refine Ev.il0 131 ?_); refine Ev.il 131 [0, 1, 2, 6, 7, 8, 9, 10, 11, 12, 22, 53, 57, 65, 76] [.cell 6 35, .tmp 7] Tryd.func131 (comp131 _ rfl) (fun ct' => ?_)) | ((with_reducible refine Ev.ca0 ?_); (first | refine Ev.ca (ntake_is hq' hle) ?_); conv => whnf) | ((with_reducible refine Ev.dr0 ?_); (first | refine Ev.dr 13 [129, 131] [0, 1, 2, 3] ?_ | refine Ev.dr 19 [129, 131] [0, 1, 2, 3] ?_ | refine Ev.dr 20 [129, 131] [0, 1, 2, 3, 4, 6, 5, 7, 8] ?_ | refine Ev.dr 7 [129, 131] [0, 1, 2, 3, 4, 5, 6, 7, 8, 9, 10, 11, 12, 13, 14, 15, 16, 17, 18, 19, 20, 21, 22, 23, 24, 25, 26, 27] ?_ | refine Ev.dr 11 [129, 131] [0, 4, 5, 1, 2, 3, 6] ?_ | refine Ev.dr 13 [129, 131] [0, 3, 4, 1, 2, 5, 6, 7] ?_ | refine Ev.dr 16 [129, 131] [0, 1, 4, 5, 2, 3, 6, 7, 8] ?_); intro Q hQ; (simp only [Ev.runE_cons, Ev.runE_nil]); conv => whnf) | ((first | refine Ev.el_map0 ?_ (fun hi => ?_) | refine Ev.el_mapN ?_ (fun hi => ?_)); rotate_left; conv => whnf) | ((with_reducible refine Ev.sd0 ?_); exact Ev.sd) | fail)
          all_goals first | exact takeR_bad this | omega
      · have he : takeOne (lastK done) left = .error 8 := by unfold takeOne; rw [hq']; rfl
        have := wt_err h0 ht he
        rcases hst with ⟨rfl, rfl, rfl⟩ | ⟨hne, v, rfl, rfl⟩
        · repeat' (first | ((with_reducible refine Ev.br0 ?_); (first | refine Ev.brp ?_ | refine Ev.brn ?_); conv => whnf) | ((with_reducible refine Ev.c0 ?_); first | refine Ev.cp ?_ | refine Ev.cn ?_) | ((refine Ev.sw ?_); conv => whnf) | refine Ev.sn ?_ | ((with_reducible refine Ev.chk_k ?_ ?_); rotate_left; exact Ev.bt; conv => whnf) | ((with_reducible (refine Ev.RI.run ?_; constructor)) <;> intro _) | ((refine Ev.sg ?_); conv => whnf) | ((with_reducible refine Ev.sided ?_ ?_); conv => whnf) | ((with_reducible refine Ev.kr (hs := [129, 131]) (fun Q hQ => ?_)); (simp only [Ev.runE_cons, Ev.runE_nil]); conv => whnf) | (with_reducible refine hQ _ ?_; clear hQ Q) | ((refine Ev.sf ?_); intro F hF; conv => whnf) | (with_reducible refine hF _ ?_; clear hF F) | ((with_reducible refine Ev.go_k (fun c' => ?_)); conv => whnf) | ((with_reducible refine Ev.il0 129 ?_); refine Ev.il 129 [0, 1, 2, 3, 4, 6] [.tmp 2] Tryd.func129 (comp129 _ rfl) (fun ct' => ?_)) | ((with_reducible refine Ev.il0 131 ?_); refine Ev.il 131 [0, 1, 2, 6, 7, 8, 9, 10, 11, 12, 22, 53, 57, 65, 76] [.cell 6 35, .tmp 7] Tryd.func131 (comp131 _ rfl) (fun ct' => ?_)) | ((with_reducible refine Ev.ca0 ?_); (first | refine Ev.ca (ntake_is hq' hle) ?_); conv => whnf) | ((with_reducible refine Ev.dr0 ?_); (first | refine Ev.dr 13 [129, 131] [0, 1, 2, 3] ?_ | refine Ev.dr 19 [129, 131] [0, 1, 2, 3] ?_ | refine Ev.dr 20 [129, 131] [0, 1, 2, 3, 4, 6, 5, 7, 8] ?_ | refine Ev.dr 7 [129, 131] [0, 1, 2, 3, 4, 5, 6, 7, 8, 9, 10, 11, 12, 13, 14, 15, 16, 17, 18, 19, 20, 21, 22, 23, 24, 25, 26, 27] ?_ | refine Ev.dr 11 [129, 131] [0, 4, 5, 1, 2, 3, 6] ?_ | refine Ev.dr 13 [129, 131] [0, 3, 4, 1, 2, 5, 6, 7] ?_ | refine Ev.dr 16 [129, 131] [0, 1, 4, 5, 2, 3, 6, 7, 8] ?_); intro Q hQ; (simp only [Ev.runE_cons, Ev.runE_nil]); conv => whnf) | ((first | refine Ev.el_map0 ?_ (fun hi => ?_) | refine Ev.el_mapN ?_ (fun hi => ?_)); rotate_left; conv => whnf) | ((with_reducible refine Ev.sd0 ?_); exact Ev.sd) | fail)
          all_goals first | exact takeR_bad this | omega
        · repeat' (first | ((with_reducible refine Ev.br0 ?_); (first | refine Ev.brp ?_ | refine Ev.brn ?_); conv => whnf) | ((with_reducible refine Ev.c0 ?_); first | refine Ev.cp ?_ | refine Ev.cn ?_) | ((refine Ev.sw ?_); conv => whnf) | refine Ev.sn ?_ | ((with_reducible refine Ev.chk_k ?_ ?_); rotate_left; exact Ev.bt; conv => whnf) | ((with_reducible (refine Ev.RI.run ?_; constructor)) <;> intro _) | ((refine Ev.sg ?_); conv => whnf) | ((with_reducible refine Ev.sided ?_ ?_); conv => whnf) | ((with_reducible refine Ev.kr (hs := [129, 131]) (fun Q hQ => ?_)); (simp only [Ev.runE_cons, Ev.runE_nil]); conv => whnf) | (with_reducible refine hQ _ ?_; clear hQ Q) | ((refine Ev.sf ?_); intro F hF; conv => whnf) | (with_reducible refine hF _ ?_; clear hF F) | ((with_reducible refine Ev.go_k (fun c' => ?_)); conv => whnf) | ((with_reducible refine Ev.il0 129 ?_); refine Ev.il 129 [0, 1, 2, 3, 4, 6] [.tmp 2] Tryd.func129 (comp129 _ rfl) (fun ct' => ?_)) | ((with_reducible refine Ev.il0 131 ?_); refine Ev.il 131 [0, 1, 2, 6, 7, 8, 9, 10, 11, 12, 22, 53, 57, 65, 76] [.cell 6 35, .tmp 7] Tryd.func131 (comp131 _ rfl) (fun ct' => ?_)) | ((with_reducible refine Ev.ca0 ?_); (first | refine Ev.ca (ntake_is hq' hle) ?_); conv => whnf) | ((with_reducible refine Ev.dr0 ?_); (first | refine Ev.dr 13 [129, 131] [0, 1, 2, 3] ?_ | refine Ev.dr 19 [129, 131] [0, 1, 2, 3] ?_ | refine Ev.dr 20 [129, 131] [0, 1, 2, 3, 4, 6, 5, 7, 8] ?_ | refine Ev.dr 7 [129, 131] [0, 1, 2, 3, 4, 5, 6, 7, 8, 9, 10, 11, 12, 13, 14, 15, 16, 17, 18, 19, 20, 21, 22, 23, 24, 25, 26, 27] ?_ | refine Ev.dr 11 [129, 131] [0, 4, 5, 1, 2, 3, 6] ?_ | refine Ev.dr 13 [129, 131] [0, 3, 4, 1, 2, 5, 6, 7] ?_ | refine Ev.dr 16 [129, 131] [0, 1, 4, 5, 2, 3, 6, 7, 8] ?_); intro Q hQ; (simp only [Ev.runE_cons, Ev.runE_nil]); conv => whnf) | ((first | refine Ev.el_map0 ?_ (fun hi => ?_) | refine Ev.el_mapN ?_ (fun hi => ?_)); rotate_left; conv => whnf) | ((with_reducible refine Ev.sd0 ?_); exact Ev.sd) | fail)
          all_goals first | exact takeR_bad this | omega
  · refine Ev.fn [0, 2, 3, 4, 5, 6, 7, 8, 9, 10, 20, 21, 22, 23, 31, 34, 47, 49] 0 [.tmp 2, .tmp 3, .cell 4 30] Tryd.func91 (comp91 _ rfl) ?_
    repeat' (first | ((with_reducible refine Ev.br0 ?_); (first | refine Ev.brp ?_ | refine Ev.brn ?_); conv => whnf) | ((with_reducible refine Ev.c0 ?_); first | refine Ev.cp ?_ | refine Ev.cn ?_) | ((refine Ev.sw ?_); conv => whnf) | refine Ev.sn ?_ | ((with_reducible refine Ev.chk_k ?_ ?_); rotate_left; exact Ev.bt; conv => whnf) | ((with_reducible (refine Ev.RI.run ?_; constructor)) <;> intro _) | ((refine Ev.sg ?_); conv => whnf) | ((with_reducible refine Ev.sided ?_ ?_); conv => whnf) | ((with_reducible refine Ev.kr (hs := [129, 131]) (fun Q hQ => ?_)); (simp only [Ev.runE_cons, Ev.runE_nil]); conv => whnf) | (with_reducible refine hQ _ ?_; clear hQ Q) | ((refine Ev.sf ?_); intro F hF; conv => whnf) | (with_reducible refine hF _ ?_; clear hF F) | ((with_reducible refine Ev.go_k (fun c' => ?_)); conv => whnf) | ((with_reducible refine Ev.il0 129 ?_); refine Ev.il 129 [0, 1, 2, 3, 4, 6] [.tmp 2] Tryd.func129 (comp129 _ rfl) (fun ct' => ?_)) | ((with_reducible refine Ev.il0 131 ?_); refine Ev.il 131 [0, 1, 2, 6, 7, 8, 9, 10, 11, 12, 22, 53, 57, 65, 76] [.cell 6 35, .tmp 7] Tryd.func131 (comp131 _ rfl) (fun ct' => ?_)) | ((with_reducible refine Ev.ca0 ?_); (first | refine Ev.ca (ntake_is hq hb) ?_); conv => whnf) | (with_reducible refine Ev.unroll 1 ?_) | ((with_reducible refine Ev.dr0 ?_); (first | refine Ev.dr 13 [129, 131] [0, 1, 2, 3] ?_ | refine Ev.dr 19 [129, 131] [0, 1, 2, 3] ?_ | refine Ev.dr 20 [129, 131] [0, 1, 2, 3, 4, 6, 5, 7, 8] ?_ | refine Ev.dr 7 [129, 131] [0, 1, 2, 3, 4, 5, 6, 7, 8, 9, 10, 11, 12, 13, 14, 15, 16, 17, 18, 19, 20, 21, 22, 23, 24, 25, 26, 27] ?_ | refine Ev.dr 11 [129, 131] [0, 4, 5, 1, 2, 3, 6] ?_ | refine Ev.dr 13 [129, 131] [0, 3, 4, 1, 2, 5, 6, 7] ?_ | refine Ev.dr 16 [129, 131] [0, 1, 4, 5, 2, 3, 6, 7, 8] ?_); intro Q hQ; (simp only [Ev.runE_cons, Ev.runE_nil]); conv => whnf) | ((first | refine Ev.el_map0 ?_ (fun hi => ?_) | refine Ev.el_mapN ?_ (fun hi => ?_)); rotate_left; conv => whnf) | ((with_reducible refine Ev.sd0 ?_); exact Ev.sd) | fail)
    exact takeR_bad (by unfold wTake; rw [hq]; rfl)
  · refine Ev.fn [0, 2, 3, 4, 5, 6, 7, 8, 9, 10, 20, 21, 22, 23, 31, 34, 47, 49] 0 [.tmp 2, .tmp 3, .cell 4 30] Tryd.func91 (comp91 _ rfl) ?_
    repeat' (first | ((with_reducible refine Ev.br0 ?_); (first | refine Ev.brp ?_ | refine Ev.brn ?_); conv => whnf) | ((with_reducible refine Ev.c0 ?_); first | refine Ev.cp ?_ | refine Ev.cn ?_) | ((refine Ev.sw ?_); conv => whnf) | refine Ev.sn ?_ | ((with_reducible refine Ev.chk_k ?_ ?_); rotate_left; exact Ev.bt; conv => whnf) | ((with_reducible (refine Ev.RI.run ?_; constructor)) <;> intro _) | ((refine Ev.sg ?_); conv => whnf) | ((with_reducible refine Ev.sided ?_ ?_); conv => whnf) | ((with_reducible refine Ev.kr (hs := [129, 131]) (fun Q hQ => ?_)); (simp only [Ev.runE_cons, Ev.runE_nil]); conv => whnf) | (with_reducible refine hQ _ ?_; clear hQ Q) | ((refine Ev.sf ?_); intro F hF; conv => whnf) | (with_reducible refine hF _ ?_; clear hF F) | ((with_reducible refine Ev.go_k (fun c' => ?_)); conv => whnf) | ((with_reducible refine Ev.il0 129 ?_); refine Ev.il 129 [0, 1, 2, 3, 4, 6] [.tmp 2] Tryd.func129 (comp129 _ rfl) (fun ct' => ?_)) | ((with_reducible refine Ev.il0 131 ?_); refine Ev.il 131 [0, 1, 2, 6, 7, 8, 9, 10, 11, 12, 22, 53, 57, 65, 76] [.cell 6 35, .tmp 7] Tryd.func131 (comp131 _ rfl) (fun ct' => ?_)) | ((with_reducible refine Ev.ca0 ?_); (first | refine Ev.ca (ntake_is hq hb) ?_); conv => whnf) | (with_reducible refine Ev.unroll 1 ?_) | ((with_reducible refine Ev.dr0 ?_); (first | refine Ev.dr 13 [129, 131] [0, 1, 2, 3] ?_ | refine Ev.dr 19 [129, 131] [0, 1, 2, 3] ?_ | refine Ev.dr 20 [129, 131] [0, 1, 2, 3, 4, 6, 5, 7, 8] ?_ | refine Ev.dr 7 [129, 131] [0, 1, 2, 3, 4, 5, 6, 7, 8, 9, 10, 11, 12, 13, 14, 15, 16, 17, 18, 19, 20, 21, 22, 23, 24, 25, 26, 27] ?_ | refine Ev.dr 11 [129, 131] [0, 4, 5, 1, 2, 3, 6] ?_ | refine Ev.dr 13 [129, 131] [0, 3, 4, 1, 2, 5, 6, 7] ?_ | refine Ev.dr 16 [129, 131] [0, 1, 4, 5, 2, 3, 6, 7, 8] ?_); intro Q hQ; (simp only [Ev.runE_cons, Ev.runE_nil]); conv => whnf) | ((first | refine Ev.el_map0 ?_ (fun hi => ?_) | refine Ev.el_mapN ?_ (fun hi => ?_)); rotate_left; conv => whnf) | ((with_reducible refine Ev.sd0 ?_); exact Ev.sd) | fail)
    exact takeR_bad (by unfold wTake; rw [hq]; rfl)
theorem wtake_ok {b : List UInt8} {l : List Sp} {k : Int} (hb : b.length ≤ 1000000000) (h : wTake b = .ok (l, k)) : CallW env 91 [.lst 1 (bts b)] (fun r hs => r = .tup [.lst 3 (sps l), .v (.int .i64 k), .v (.int .i64 0)] ∧ hs = []) := by
  refine (wtake_core b hb).res ?_
  rintro r hs ⟨⟨x, rfl, hx⟩, rfl⟩
  have h1 : wTakeE b = 0 := by unfold wTakeE; rw [h]
  have h2 : wTakeK b = k := by unfold wTakeK; rw [h]
  have h3 : wTakeL b = l := by unfold wTakeL; rw [h]
  rw [h3] at hx
  exact ⟨_, ⟨rfl, rfl⟩, by rw [h1, h2]; exact LeR.tup3 hx (LeR.refl _) (LeR.refl _)⟩
theorem wtake_no {b : List UInt8} {e : Int} (hb : b.length ≤ 1000000000) (h : wTake b = .error e) : CallW env 91 [.lst 1 (bts b)] (fun r hs => r = .tup [.lst 3 (sps []), .v (.int .i64 0), .v (.int .i64 e)] ∧ hs = []) := by
  refine (wtake_core b hb).res ?_
  rintro r hs ⟨⟨x, rfl, hx⟩, rfl⟩
  have h1 : wTakeE b = e := by unfold wTakeE; rw [h]
  have h2 : wTakeK b = 0 := by unfold wTakeK; rw [h]
  have h3 : wTakeL b = [] := by unfold wTakeL; rw [h]
  rw [h3] at hx
  exact ⟨_, ⟨rfl, rfl⟩, by rw [h1, h2]; exact LeR.tup3 hx (LeR.refl _) (LeR.refl _)⟩
theorem wput_ok {l : List Sp} (hs : Small l) (hb : tbs l + 4 * l.length ≤ 1000000000) (h : wPutE l = 0) : CallW env 49 [.lst 3 (sps l)] (fun r hs => r = .tup [.lst 1 (bts (encW l)), .v (.int .i64 0)] ∧ hs = []) := by
  rw [← wPutA_ok h]; exact wput_call l hs hb
end Go.Proofs.YtadlnaljicikfaaDoor.Abs

namespace Go.Proofs.YtadlnaljicikfaaDoor.Abs
open Go
set_option maxRecDepth 100000
set_option linter.unusedSimpArgs false
set_option linter.unusedVariables false
attribute [local irreducible] Ev.Unr Ev.Go' Ev.bytK Ev.runK Ev.FinL Ev.brC Ev.Side Ev.Wp Ev.Again Ev.To Ev.Fin
open Go.Lib Go.RowKit
theorem comp47 : ∀ c, Tryd.f47.body = some c → comp c = (.seq (.reg 0 [I.n 0 2 I.sn, I.n 1 3 (I.si 0)]) (.seq (.block 0 (.seq (.reg 1 [I.n 0 6 (I.mv 0), I.n 1 7 (I.c1 78 6 9), I.n 2 8 (.unOp .not 4 (.tmp 7)), I.n 3 5 (I.sa 8)]) (.cond (.tmp 5) (.seq (.reg 2 [I.n 0 2 I.sn, I.n 1 3 (I.si 3)]) .ret) (.seq (.reg 3 [I.n 0 10 (I.mv 0), I.n 1 11 (I.ln 10 9), I.n 2 12 (I.bc .gtr 3 11 65536 3), I.n 3 9 (I.sa 12)]) (.cond (.tmp 9) (.seq (.reg 4 [I.n 0 2 I.sn, I.n 1 3 (I.si 2)]) .ret) .skip))))) (.seq (.reg 5 [I.n 0 4 (.alloc 124)]) (.seq (.reg 6 [I.n 0 13 (I.mv 0), I.n 1 14 (I.ln 13 9), I.n 2 15 (I.c2 96 4 14 124 3)]) (.seq (.reg 7 [I.n 0 16 (I.fa 124 4 0), I.n 1 17 (I.ld 56 16), I.n 2 18 (I.mv 0), I.n 3 19 (I.ap 17 18 56 9), I.n 4 2 (I.sa 19), I.n 5 3 (I.si 0)]) .ret))))) := by
  intro c h
  have : c = Tryd.f47.body.get rfl := by rw [← Option.some_inj, ← h]; rfl
  rw [this]; rfl
theorem comp89 : ∀ c, Tryd.f89.body = some c → comp c = (.seq (.reg 0 [I.n 0 2 (.assign (.const (Value.string { data := #[] }))), I.n 1 3 (I.si 0), I.n 2 4 (I.si 0)]) (.seq (.reg 1 [I.n 0 7 (I.mv 0), I.n 1 8 (.build 149 #[(0, .tmp 7)]), I.n 2 5 (.alloc 149), I.u 3 (I.st 149 5 8)]) (.seq (.reg 2 [I.n 0 9 (.call { callee := .value (.func 128), args := #[.tmp 5, .const (Value.int .i64 65536)], argTypes := #[149, 3] }), I.n 1 6 (I.sa 9)]) (.seq (.block 0 (.seq (.reg 3 [I.n 0 11 (I.fa 149 5 1), I.n 1 12 (I.ld 30 11), I.n 2 13 (I.bc .neq 30 12 0 30), I.n 3 10 (I.sa 13)]) (.cond (.tmp 10) (.seq (.draw 4 [I.n 0 14 (I.fa 149 5 1), I.n 1 15 (I.ld 30 14), I.n 2 2 (.assign (.const (Value.string { data := #[] }))), I.n 3 3 (I.si 0), I.n 4 4 (I.sa 15)] [[], [0], [], [2, 2], [1, 3, 0, 1, 2, 3]]) .ret) (.seq (.reg 5 [I.n 0 17 (I.fa 149 5 0), I.n 1 18 (I.ld 56 17), I.n 2 19 (I.ln 18 56), I.n 3 20 (I.mv 6), I.n 4 21 (I.bo .lss 3 19 20 3), I.n 5 16 (I.sa 21)]) (.cond (.tmp 16) (.seq (.reg 6 [I.n 0 2 (.assign (.const (Value.string { data := #[] }))), I.n 1 3 (I.si 0), I.n 2 4 (I.si 7)]) .ret) (.seq (.reg 7 [I.n 0 23 (I.fa 149 5 0), I.n 1 24 (I.ld 56 23), I.n 2 25 (I.mv 6), I.n 3 26 (.slice 56 (.tmp 24) none (some (.tmp 25)) none), I.n 4 27 (I.cv 56 9 26), I.n 5 28 (I.c1 78 27 9), I.n 6 29 (.unOp .not 4 (.tmp 28)), I.n 7 22 (I.sa 29)]) (.cond (.tmp 22) (.seq (.reg 8 [I.n 0 2 (.assign (.const (Value.string { data := #[] }))), I.n 1 3 (I.si 0), I.n 2 4 (I.si 8)]) .ret) .skip))))))) (.seq (.draw 9 [I.n 0 30 (I.fa 149 5 0), I.n 1 31 (I.ld 56 30), I.n 2 32 (I.mv 6), I.n 3 33 (.slice 56 (.tmp 31) none (some (.tmp 32)) none), I.n 4 34 (I.cv 56 9 33), I.n 5 35 (I.mv 0), I.n 6 36 (I.ln 35 56), I.n 7 37 (I.fa 149 5 0), I.n 8 38 (I.ld 56 37), I.n 9 39 (I.ln 38 56), I.n 10 40 (I.bo .sub 3 36 39 3), I.n 11 41 (I.mv 6), I.n 12 42 (I.bo .add 3 40 41 3), I.n 13 2 (I.sa 34), I.n 14 3 (I.sa 42), I.n 15 4 (I.si 0)] [[], [0], [], [1, 2], [3], [], [5], [], [7], [8], [6, 9], [], [10, 11], [4, 0, 1, 2, 3, 4], [12, 13, 0, 1, 2, 3, 4, 5, 6, 7, 8, 9, 10, 11, 12, 13], [14, 0, 1, 2, 3, 4, 5, 6, 7, 8, 9, 10, 11, 12, 13, 14]]) .ret))))) := by
  intro c h
  have : c = Tryd.f89.body.get rfl := by rw [← Option.some_inj, ← h]; rfl
  rw [this]; rfl
theorem comp128 : ∀ c, Tryd.f128.body = some c → comp c = (.seq (.reg 0 [I.n 0 4 (I.si 0)]) (.seq (.seq (.reg 1 [I.n 0 8 (I.mv 0), I.n 1 9 (I.nc 8), I.n 2 10 (I.fa 149 9 1), I.n 3 11 (I.ld 30 10), I.n 4 12 (I.bc .neq 30 11 0 30)]) (.cond (.tmp 12) (.seq (.reg 2 [I.n 0 4 (I.si 0)]) .ret) .skip)) (.seq (.reg 3 [I.n 0 14 (I.mv 0), I.n 1 15 (I.nc 14), I.n 2 16 (I.fa 149 15 0), I.n 3 17 (I.ld 56 16), I.n 4 18 (I.c1 130 17 56), I.n 5 13 (I.mv 18), I.n 6 19 (I.ex 13 0), I.n 7 20 (I.ex 13 1), I.n 8 21 (I.ex 13 2), I.n 9 5 (I.sa 19), I.n 10 6 (I.sa 20), I.n 11 7 (I.sa 21)]) (.seq (.seq (.reg 4 [I.n 0 22 (I.mv 7), I.n 1 23 (I.bc .eql 30 22 0 30), I.n 2 24 (I.mv 23), I.w 3 25 (I.mv 5) 24 true, I.w 4 26 (I.mv 1) 24 true, I.w 5 27 (I.bo .gtr 3 25 26 3) 24 true, I.n 6 28 (I.pc 24 27 false)]) (.cond (.tmp 28) (.reg 5 [I.n 0 7 (I.si 8)]) .skip)) (.seq (.reg 6 [I.n 0 29 (I.mv 0), I.n 1 30 (I.mv 0), I.n 2 31 (I.mv 0), I.n 3 32 (I.nc 31), I.n 4 33 (I.fa 149 32 0), I.n 5 34 (I.ld 56 33), I.n 6 35 (I.mv 6), I.n 7 36 (.slice 56 (.tmp 34) (some (.tmp 35)) none none), I.n 8 37 (I.mv 7), I.n 9 38 (I.nc 29), I.n 10 39 (I.fa 149 38 0), I.u 11 (I.st 56 39 36), I.n 12 40 (I.nc 30), I.n 13 41 (I.fa 149 40 1), I.u 14 (I.st 30 41 37)]) (.seq (.reg 7 [I.n 0 42 (I.mv 5), I.n 1 4 (I.sa 42)]) .ret)))))) := by
  intro c h
  have : c = Tryd.f128.body.get rfl := by rw [← Option.some_inj, ← h]; rfl
  rw [this]; rfl
def sPutA (t : ByteArray) : AV := if sPutE t = 0 then .tup [.lst 1 (bts (encT t)), .v (.int .i64 0)] else .tup [nilA, .v (.int .i64 (sPutE t))]
theorem sPutA_bad {t : ByteArray} {e : Int} (h : sPutE t = e) (he : e ≠ 0) : sPutA t = .tup [nilA, .v (.int .i64 e)] := by subst h; exact if_neg he
theorem sPutA_ok {t : ByteArray} (h : sPutE t = 0) : sPutA t = .tup [.lst 1 (bts (encT t)), .v (.int .i64 0)] := if_pos h
theorem sput_call (t : ByteArray) (ht : t.size ≤ 1000000000) : CallW env 47 [.v (.string t)] (fun r hs => r = sPutA t ∧ hs = []) := by
  have hmx : 2000000003 ≤ maxLen := by decide
  have hV := pvalid_call t ht
  by_cases h1 : validD t.data.toList = true
  · rw [h1] at hV
    by_cases h2 : 65536 < t.size
    · have he : sPutE t = 2 := by unfold sPutE; rw [if_pos h1, if_pos h2]
      refine Ev.fn [0, 2, 3, 4, 5, 9] 0 [.tmp 2, .tmp 3] Tryd.func47 (comp47 _ rfl) ?_
      repeat' (first | ((with_reducible refine Ev.br0 ?_); (first | refine Ev.brp ?_ | refine Ev.brn ?_); conv => whnf) | ((with_reducible refine Ev.c0 ?_); first | refine Ev.cp ?_ | refine Ev.cn ?_) | ((refine Ev.sw ?_); conv => whnf) | refine Ev.sn ?_ | ((with_reducible refine Ev.chk_k ?_ ?_); rotate_left; exact Ev.bt; conv => whnf) | ((with_reducible (refine Ev.RI.run ?_; constructor)) <;> intro _) | ((refine Ev.sg ?_); conv => whnf) | ((with_reducible refine Ev.sided ?_ ?_); conv => whnf) | ((with_reducible refine Ev.kr (hs := []) (fun Q hQ => ?_)); (simp only [Ev.runE_cons, Ev.runE_nil]); conv => whnf) | (with_reducible refine hQ _ ?_; clear hQ Q) | ((refine Ev.sf ?_); intro F hF; conv => whnf) | (with_reducible refine hF _ ?_; clear hF F) | ((with_reducible refine Ev.go_k (fun c' => ?_)); conv => whnf) | ((with_reducible refine Ev.ca0 ?_); (first | refine Ev.ca (hV) ?_); conv => whnf) | ((first | refine Ev.el_map0 ?_ (fun hi => ?_) | refine Ev.el_mapN ?_ (fun hi => ?_)); rotate_left; conv => whnf) | ((with_reducible refine Ev.sd0 ?_); exact Ev.sd) | fail)
      · exact ⟨(sPutA_bad he (by decide)).symm, rfl⟩
      · omega
    · have he : sPutE t = 0 := by unfold sPutE; rw [if_pos h1, if_neg h2]
      have hln := (putN_len (n := t.size) (by omega)).2
      have hn : putN (t.size : Int).toNat = putN t.size := rfl
      have hdl : t.data.toList.length = t.size := by rw [Array.length_toList]; rfl
      refine Ev.fn [0, 2, 3, 4, 5, 9] 0 [.tmp 2, .tmp 3] Tryd.func47 (comp47 _ rfl) ?_
      repeat' (first | ((with_reducible refine Ev.br0 ?_); (first | refine Ev.brp ?_ | refine Ev.brn ?_); conv => whnf) | ((with_reducible refine Ev.c0 ?_); first | refine Ev.cp ?_ | refine Ev.cn ?_) | ((refine Ev.sw ?_); conv => whnf) | refine Ev.sn ?_ | ((with_reducible refine Ev.chk_k ?_ ?_); rotate_left; exact Ev.bt; conv => whnf) | ((with_reducible (refine Ev.RI.run ?_; constructor)) <;> intro _) | ((refine Ev.sg ?_); conv => whnf) | ((with_reducible refine Ev.sided ?_ ?_); conv => whnf) | ((with_reducible refine Ev.kr (hs := [96]) (fun Q hQ => ?_)); (simp only [Ev.runE_cons, Ev.runE_nil]); conv => whnf) | (with_reducible refine hQ _ ?_; clear hQ Q) | ((refine Ev.sf ?_); intro F hF; conv => whnf) | (with_reducible refine hF _ ?_; clear hF F) | ((with_reducible refine Ev.go_k (fun c' => ?_)); conv => whnf) | ((with_reducible refine Ev.ca0 ?_); (first | refine Ev.call_det (nput_ok (show 0 ≤ (t.size : Int) ∧ (t.size : Int) ≤ 268435455 by omega)) rfl rfl ?_ | refine Ev.ca (hV) ?_ | refine Ev.ca (nput_ok (show 0 ≤ (t.size : Int) ∧ (t.size : Int) ≤ 268435455 by omega)) ?_); conv => whnf) | ((with_reducible refine Ev.il0 96 ?_); refine Ev.il 96 [0, 1, 4] [] Tryd.func96 (comp96 _ rfl) (fun ct' => ?_)) | ((first | refine Ev.el_map0 ?_ (fun hi => ?_) | refine Ev.el_mapN ?_ (fun hi => ?_)); rotate_left; conv => whnf) | ((with_reducible refine Ev.sd0 ?_); exact Ev.sd) | fail)
      · omega
      · refine ⟨?_, rfl⟩
        rw [sPutA_ok he]
        exact Ev.tup2_eq (Ev.lst_eq (Ev.take_all (by simp) (by rw [← bts_app]; rfl))) rfl
  · have he : sPutE t = 3 := by unfold sPutE; rw [if_neg h1]
    rw [eq_false_of_ne_true h1] at hV
    refine Ev.fn [0, 2, 3, 4, 5, 9] 0 [.tmp 2, .tmp 3] Tryd.func47 (comp47 _ rfl) ?_
    repeat' (first | ((with_reducible refine Ev.br0 ?_); (first | refine Ev.brp ?_ | refine Ev.brn ?_); conv => whnf) | ((with_reducible refine Ev.c0 ?_); first | refine Ev.cp ?_ | refine Ev.cn ?_) | ((refine Ev.sw ?_); conv => whnf) | refine Ev.sn ?_ | ((with_reducible refine Ev.chk_k ?_ ?_); rotate_left; exact Ev.bt; conv => whnf) | ((with_reducible (refine Ev.RI.run ?_; constructor)) <;> intro _) | ((refine Ev.sg ?_); conv => whnf) | ((with_reducible refine Ev.sided ?_ ?_); conv => whnf) | ((with_reducible refine Ev.kr (hs := []) (fun Q hQ => ?_)); (simp only [Ev.runE_cons, Ev.runE_nil]); conv => whnf) | (with_reducible refine hQ _ ?_; clear hQ Q) | ((refine Ev.sf ?_); intro F hF; conv => whnf) | (with_reducible refine hF _ ?_; clear hF F) | ((with_reducible refine Ev.go_k (fun c' => ?_)); conv => whnf) | ((with_reducible refine Ev.ca0 ?_); (first | refine Ev.ca (hV) ?_); conv => whnf) | ((first | refine Ev.el_map0 ?_ (fun hi => ?_) | refine Ev.el_mapN ?_ (fun hi => ?_)); rotate_left; conv => whnf) | ((with_reducible refine Ev.sd0 ?_); exact Ev.sd) | fail)
    exact ⟨(sPutA_bad he (by decide)).symm, rfl⟩
def sTakeA (b : List UInt8) : AV := match sTake b with
  | .error e => .tup [.v (.string ⟨#[]⟩), .v (.int .i64 0), .v (.int .i64 e)]
  | .ok (t, k) => .tup [.v (.string t), .v (.int .i64 k), .v (.int .i64 0)]
theorem sTakeA_bad {b : List UInt8} {e : Int} (h : sTake b = .error e) : sTakeA b = .tup [.v (.string ⟨#[]⟩), .v (.int .i64 0), .v (.int .i64 e)] := by unfold sTakeA; rw [h]
theorem sTakeA_ok {b : List UInt8} {t : ByteArray} {k : Int} (h : sTake b = .ok (t, k)) : sTakeA b = .tup [.v (.string t), .v (.int .i64 k), .v (.int .i64 0)] := by unfold sTakeA; rw [h]
theorem stake_call (b : List UInt8) (hb : b.length ≤ 1000000000) : CallW env 89 [.lst 1 (bts b)] (fun r hs => r = sTakeA b ∧ hs = []) := by
  have hbl := bts_len b
  rcases takeN_bad b with ⟨n, k, hq⟩ | hq | hq
  · obtain ⟨b1, b2, b3, b4, b5, b6, b7⟩ := put_take hq
    obtain ⟨N, rfl⟩ := Int.eq_ofNat_of_zero_le b1
    obtain ⟨K, rfl⟩ := Int.eq_ofNat_of_zero_le (show 0 ≤ k by omega)
    have hlr : (List.take ((bts b).length - (K : Int).toNat) (List.drop (K : Int).toNat (bts b))).length = b.length - K := by rw [Int.toNat_natCast, List.length_take, List.length_drop, hbl]; omega
    have hld : (b.drop K).length = b.length - K := List.length_drop
    have h0 : sTake b = if (65536 : Int) < N then .error 8 else sTake2 N K (b.drop K) := by
      unfold sTake; rw [hq]; simp only; rw [if_neg (by decide)]; rfl
    have hsz : ∀ n : Nat, (ByteArray.mk ((b.drop K).take n).toArray).size ≤ 1000000000 := fun n => by
      show (((b.drop K).take n).toArray).size ≤ _
      rw [List.size_toArray, List.length_take, List.length_drop]; omega
    refine Ev.fn [0, 2, 3, 4, 5, 6, 10, 16, 22] 0 [.tmp 2, .tmp 3, .tmp 4] Tryd.func89 (comp89 _ rfl) ?_
    repeat' (first | ((with_reducible refine Ev.br0 ?_); (first | refine Ev.brp ?_ | refine Ev.brn ?_); conv => whnf) | ((with_reducible refine Ev.c0 ?_); first | refine Ev.cp ?_ | refine Ev.cn ?_) | ((refine Ev.sw ?_); conv => whnf) | refine Ev.sn ?_ | ((with_reducible refine Ev.chk_k ?_ ?_); rotate_left; exact Ev.bt; conv => whnf) | ((with_reducible (refine Ev.RI.run ?_; constructor)) <;> intro _) | ((refine Ev.sg ?_); conv => whnf) | ((with_reducible refine Ev.sided ?_ ?_); conv => whnf) | ((with_reducible refine Ev.kr (hs := [128]) (fun Q hQ => ?_)); (simp only [Ev.runE_cons, Ev.runE_nil]); conv => whnf) | (with_reducible refine hQ _ ?_; clear hQ Q) | ((refine Ev.sf ?_); intro F hF; conv => whnf) | (with_reducible refine hF _ ?_; clear hF F) | ((with_reducible refine Ev.go_k (fun c' => ?_)); conv => whnf) | ((with_reducible refine Ev.il0 128 ?_); refine Ev.il 128 [0, 1, 4, 5, 6, 7, 12, 28] [.tmp 4] Tryd.func128 (comp128 _ rfl) (fun ct' => ?_)) | ((with_reducible refine Ev.ca0 ?_); (first | refine Ev.call_det (pvalid_call _ (hsz _)) rfl rfl ?_ | refine Ev.ca (ntake_is hq hb) ?_ | refine Ev.ca (pvalid_call _ (hsz _)) ?_); conv => whnf) | ((refine byt_cut2 ?_); conv => whnf) | ((with_reducible refine Ev.dr0 ?_); (first | refine Ev.dr 4 [128] [0, 1, 2, 3, 4] ?_); intro Q hQ; (simp only [Ev.runE_cons, Ev.runE_nil]); conv => whnf) | ((with_reducible refine Ev.dr0 ?_); (first | refine Ev.drv 9 [128] [(0, false), (1, false), (2, false), (3, true), (4, false), (5, false), (6, false), (7, false), (8, false), (9, false), (10, true), (11, false), (12, true), (13, false), (14, false), (15, false)] ?_); intro Q hQ; (simp only [Ev.runV_consF, Ev.runV_consT, Ev.runV_nil]); conv => whnf) | ((first | refine Ev.el_map0 ?_ (fun hi => ?_) | refine Ev.el_mapN ?_ (fun hi => ?_)); rotate_left; conv => whnf) | ((with_reducible refine Ev.sd0 ?_); exact Ev.sd) | fail)
    · exact ⟨(sTakeA_bad (by rw [h0, if_pos (by assumption)])).symm, rfl⟩
    · exact ⟨(sTakeA_bad (by rw [h0, if_neg (by assumption)]; unfold sTake2; rw [if_pos (by omega)])).symm, rfl⟩
    · refine ⟨?_, rfl⟩
      rw [sTakeA_ok (t := ⟨((b.drop K).take (N : Int).toNat).toArray⟩) (k := (K : Int) + N) (by rw [h0, if_neg (by assumption)]; unfold sTake2; rw [if_neg (by omega), if_pos (by assumption)])]
      rw [hlr, hbl, wrap_id (a := (b.length : Int) - ((b.length - K : Nat) : Int)) (by omega), wrap_id (by omega)]
      rw [show (b.length : Int) - ((b.length - K : Nat) : Int) = K by omega]
      rfl
    · exact ⟨(sTakeA_bad (by rw [h0, if_neg (by assumption)]; unfold sTake2; rw [if_neg (by omega), if_neg (by rw [show validD (List.take (N : Int).toNat (List.drop K b)) = false by assumption]; decide)])).symm, rfl⟩
  · refine Ev.fn [0, 2, 3, 4, 5, 6, 10, 16, 22] 0 [.tmp 2, .tmp 3, .tmp 4] Tryd.func89 (comp89 _ rfl) ?_
    repeat' (first | ((with_reducible refine Ev.br0 ?_); (first | refine Ev.brp ?_ | refine Ev.brn ?_); conv => whnf) | ((with_reducible refine Ev.c0 ?_); first | refine Ev.cp ?_ | refine Ev.cn ?_) | ((refine Ev.sw ?_); conv => whnf) | refine Ev.sn ?_ | ((with_reducible refine Ev.chk_k ?_ ?_); rotate_left; exact Ev.bt; conv => whnf) | ((with_reducible (refine Ev.RI.run ?_; constructor)) <;> intro _) | ((refine Ev.sg ?_); conv => whnf) | ((with_reducible refine Ev.sided ?_ ?_); conv => whnf) | ((with_reducible refine Ev.kr (hs := [128]) (fun Q hQ => ?_)); (simp only [Ev.runE_cons, Ev.runE_nil]); conv => whnf) | (with_reducible refine hQ _ ?_; clear hQ Q) | ((refine Ev.sf ?_); intro F hF; conv => whnf) | (with_reducible refine hF _ ?_; clear hF F) | ((with_reducible refine Ev.go_k (fun c' => ?_)); conv => whnf) | ((with_reducible refine Ev.il0 128 ?_); refine Ev.il 128 [0, 1, 4, 5, 6, 7, 12, 28] [.tmp 4] Tryd.func128 (comp128 _ rfl) (fun ct' => ?_)) | ((with_reducible refine Ev.ca0 ?_); (first | refine Ev.ca (ntake_is hq hb) ?_); conv => whnf) | ((with_reducible refine Ev.dr0 ?_); (first | refine Ev.dr 4 [128] [0, 1, 2, 3, 4] ?_); intro Q hQ; (simp only [Ev.runE_cons, Ev.runE_nil]); conv => whnf) | ((with_reducible refine Ev.dr0 ?_); (first | refine Ev.drv 9 [128] [(0, false), (1, false), (2, false), (3, true), (4, false), (5, false), (6, false), (7, false), (8, false), (9, false), (10, true), (11, false), (12, true), (13, false), (14, false), (15, false)] ?_); intro Q hQ; (simp only [Ev.runV_consF, Ev.runV_consT, Ev.runV_nil]); conv => whnf) | ((first | refine Ev.el_map0 ?_ (fun hi => ?_) | refine Ev.el_mapN ?_ (fun hi => ?_)); rotate_left; conv => whnf) | ((with_reducible refine Ev.sd0 ?_); exact Ev.sd) | fail)
    exact ⟨(sTakeA_bad (by unfold sTake; rw [hq]; rfl)).symm, rfl⟩
  · refine Ev.fn [0, 2, 3, 4, 5, 6, 10, 16, 22] 0 [.tmp 2, .tmp 3, .tmp 4] Tryd.func89 (comp89 _ rfl) ?_
    repeat' (first | ((with_reducible refine Ev.br0 ?_); (first | refine Ev.brp ?_ | refine Ev.brn ?_); conv => whnf) | ((with_reducible refine Ev.c0 ?_); first | refine Ev.cp ?_ | refine Ev.cn ?_) | ((refine Ev.sw ?_); conv => whnf) | refine Ev.sn ?_ | ((with_reducible refine Ev.chk_k ?_ ?_); rotate_left; exact Ev.bt; conv => whnf) | ((with_reducible (refine Ev.RI.run ?_; constructor)) <;> intro _) | ((refine Ev.sg ?_); conv => whnf) | ((with_reducible refine Ev.sided ?_ ?_); conv => whnf) | ((with_reducible refine Ev.kr (hs := [128]) (fun Q hQ => ?_)); (simp only [Ev.runE_cons, Ev.runE_nil]); conv => whnf) | (with_reducible refine hQ _ ?_; clear hQ Q) | ((refine Ev.sf ?_); intro F hF; conv => whnf) | (with_reducible refine hF _ ?_; clear hF F) | ((with_reducible refine Ev.go_k (fun c' => ?_)); conv => whnf) | ((with_reducible refine Ev.il0 128 ?_); refine Ev.il 128 [0, 1, 4, 5, 6, 7, 12, 28] [.tmp 4] Tryd.func128 (comp128 _ rfl) (fun ct' => ?_)) | ((with_reducible refine Ev.ca0 ?_); (first | refine Ev.ca (ntake_is hq hb) ?_); conv => whnf) | ((with_reducible refine Ev.dr0 ?_); (first | refine Ev.dr 4 [128] [0, 1, 2, 3, 4] ?_); intro Q hQ; (simp only [Ev.runE_cons, Ev.runE_nil]); conv => whnf) | ((with_reducible refine Ev.dr0 ?_); (first | refine Ev.drv 9 [128] [(0, false), (1, false), (2, false), (3, true), (4, false), (5, false), (6, false), (7, false), (8, false), (9, false), (10, true), (11, false), (12, true), (13, false), (14, false), (15, false)] ?_); intro Q hQ; (simp only [Ev.runV_consF, Ev.runV_consT, Ev.runV_nil]); conv => whnf) | ((first | refine Ev.el_map0 ?_ (fun hi => ?_) | refine Ev.el_mapN ?_ (fun hi => ?_)); rotate_left; conv => whnf) | ((with_reducible refine Ev.sd0 ?_); exact Ev.sd) | fail)
    exact ⟨(sTakeA_bad (by unfold sTake; rw [hq]; rfl)).symm, rfl⟩
end Go.Proofs.YtadlnaljicikfaaDoor.Abs
