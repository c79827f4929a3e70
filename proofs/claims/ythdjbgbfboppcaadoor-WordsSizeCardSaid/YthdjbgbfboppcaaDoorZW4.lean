/- A part of the proof: a calculus over values, and contracts of functions. No condition. -/
import Derived.Test.YthdjbgbfboppcaaDoorZW3
import Derived.Lib.TrimUEq
import Derived.Lib.QuoteLoop
namespace Go.Proofs.YthdjbgbfboppcaaDoor.Abs
open Go
set_option maxRecDepth 100000
set_option linter.unusedSimpArgs false
set_option linter.unusedVariables false
attribute [local irreducible] Ev.Unr Ev.Go' Ev.bytK Ev.runK Ev.FinL Ev.brC Ev.Side Ev.Wp Ev.Again Ev.To Ev.Fin
open Go.Lib Go.RowKit
def cc108 : CC := (.seq (.reg 0 [⟨0, some 4, (.assign (.const (Value.int .i64 0))), none⟩]) (.seq (.reg 1 [⟨0, some 5, (.assign (.const (Value.int .i64 0))), none⟩]) (.seq (.seq (.reg 2 [⟨0, some 8, (.move (.tmp 0)), none⟩, ⟨1, some 9, (.call { callee := .builtin .len, args := #[.tmp 8], argTypes := #[118] }), none⟩, ⟨2, some 10, (.move (.const (Value.int .i64 0))), none⟩]) (.block 0 (.loop (.seq (.reg 3 [⟨0, some 11, (.binOp .lss 3 (.tmp 10) (.tmp 9) 3), none⟩]) (.seq (.cond (.tmp 11) .skip (.exit 0)) (.seq (.block 1 (.seq (.reg 4 [⟨0, some 12, (.indexAddr 118 (.tmp 8) (.tmp 10)), none⟩, ⟨1, some 13, (.load 35 (.tmp 12)), none⟩, ⟨2, some 7, (.alloc 35), none⟩, ⟨3, none, (.store 35 (.tmp 7) (.tmp 13)), none⟩]) (.reg 5 [⟨0, some 14, (.move (.tmp 5)), none⟩, ⟨1, some 15, (.move (.tmp 1)), none⟩, ⟨2, some 16, (.load 35 (.tmp 7)), none⟩, ⟨3, some 17, (.call { callee := .value (.tmp 15), args := #[.tmp 16], argTypes := #[35] }), none⟩, ⟨4, some 18, (.binOp .add 3 (.tmp 14) (.tmp 17) 3), none⟩, ⟨5, some 5, (.assign (.tmp 18)), none⟩]))) (.reg 6 [⟨0, some 19, (.binOp .add 3 (.tmp 10) (.const (Value.int .i64 1)) 3), none⟩, ⟨1, some 10, (.move (.tmp 19)), none⟩]))))))) (.seq (.reg 7 [⟨0, some 20, (.move (.tmp 5)), none⟩, ⟨1, some 4, (.assign (.tmp 20)), none⟩]) .ret))))
theorem comp108 : ∀ c, Tryd.f108.body = some c → comp c = cc108 := by
  intro c h
  have : c = Tryd.f108.body.get rfl := by rw [← Option.some_inj, ← h]; rfl
  rw [this]; rfl
def cc76 : CC := (.seq (.reg 0 [⟨0, some 2, (.assign (.const (Value.int .i64 0))), none⟩]) (.seq (.reg 1 [⟨0, some 3, (.assign (.func 108)), none⟩]) (.seq (.reg 2 [⟨0, some 4, (.move (.tmp 3)), none⟩, ⟨1, some 5, (.move (.tmp 0)), none⟩, ⟨2, some 6, (.call { callee := .value (.tmp 4), args := #[.tmp 5, .func 109], argTypes := #[118, 115] }), none⟩, ⟨3, some 2, (.assign (.tmp 6)), none⟩]) .ret)))
theorem comp76 : ∀ c, Tryd.f76.body = some c → comp c = cc76 := by
  intro c h
  have : c = Tryd.f76.body.get rfl := by rw [← Option.some_inj, ← h]; rfl
  rw [this]; rfl
theorem sum_call (f : Sp → Int) (g : FuncId) (l : List Sp) (hl : l.length ≤ 1000000000) (hg : ∀ s ∈ l, CallW env g [.agg (spC s)] (fun r hs => r = .v (.int .i64 (f s)) ∧ hs = [])) :
    CallW env 108 [.lst 3 (sps l), .clo (.func g) [] []] (fun r hs => r = .v (.int .i64 (sumW f l)) ∧ hs = []) := by
  refine Ev.func tabOK [0, 1, 4, 5, 7, 8, 9, 10, 11] 0 Tryd.func108 rfl rfl (by simp [Tryd.ntmps108]) (by rfl) (comp108 _ rfl) (rs := [.tmp 4]) rfl ?_; rw [cc108]; show Ev.Wp _ _ _ _ ⟨[(0, _), (1, _)], [], 0⟩
  repeat' (first | ((with_reducible first | refine Ev.sided ?_ ?_ | refine Ev.w_put ?_ | refine Ev.w_step ?_ | refine Ev.w_opt ?_); (conv => whnf)) | ((with_reducible refine Ev.chk_k ?_ ?_); rotate_left; (focus first | rfl | (simp only [Ev.nbeq, Bool.and_true, Bool.true_and, Bool.not_false]; done) | ((repeat' (first | exact Ev.nbeq _ | rfl | refine Bool.and_eq_true_iff.2 ⟨?_, ?_⟩)); done)); conv => whnf) | (with_reducible first | refine Ev.c_dec (fun _ => ?_) (fun _ => ?_) | refine Ev.c_not ?_ | refine Ev.c_t ?_ | refine Ev.c_f ?_ | refine Ev.c_br (fun _ => ?_) (fun _ => ?_)) | ((with_reducible refine Ev.br_not ?_); conv => whnf) | (with_reducible first | refine Ev.br_dec (fun _ => ?_) (fun _ => ?_) | refine Ev.br (fun _ => ?_) (fun _ => ?_) | refine Ev.eo_ret ?_ | refine Ev.eo_norm ?_ | refine Ev.t_norm ?_ | refine Ev.k_seq ?_) | ((with_reducible refine Ev.k_reg (hs := []) (tabOK' _ _) (fun Q hQ => ?_)); (simp only [Ev.runE_cons, Ev.runE_nil]); conv => whnf) | (with_reducible refine hQ _ ?_; clear hQ Q) | (with_reducible first | refine Ev.k_cond rfl ?_ | refine Ev.k_skip ?_ | refine Ev.k_block ?_ | refine Ev.k_exit ?_ | refine Ev.k_ret ?_ | refine Ev.t_ret ?_ | refine Ev.t_exit ?_ | refine Ev.b_norm ?_ | refine Ev.b_ret ?_ | refine Ev.b_here ?_ | refine Ev.b_off rfl ?_) | ((with_reducible first | refine Ev.e_ret (fun F hF => ?_) | refine Ev.e_norm (fun F hF => ?_) | refine Ev.eh_ret (fun F hF => ?_) | refine Ev.eh_norm (fun F hF => ?_) | refine Ev.go_k (fun c' => ?_) | refine Ev.byt_cut ?_ | refine Ev.byt_all ?_ | refine Ev.run_cut ?_ | refine Ev.run_all ?_); conv => whnf) | (with_reducible refine hF _ ?_; clear hF F) | (with_reducible refine Ev.u_step ?_) | (refine Ev.Side.of ?_; exact Nat.le_of_ble_eq_true rfl))
  refine Ev.loop (fun k s => ∃ i c : Nat, s = ⟨[(1, .clo (.func g) [] []), (4, .v (.int .i64 0)), (5, .v (.int .i64 (sumW f (l.take i)))), (8, .lst 3 (sps l)), (9, .v (.int .i64 l.length)), (10, .v (.int .i64 i))], [], c⟩ ∧ k + i = l.length) ?_ ?_
  · exact Ev.to ⟨[(1, _), (4, _), (5, .v (.int .i64 0)), (8, _), (9, .v (.int .i64 l.length)), (10, .v (.int .i64 ((0 : Nat) : Int)))], [], 0⟩ ⟨rfl, rfl, rfl, rfl, Ev.slot_int rfl (by simp [sps]), rfl, trivial⟩ trivial (Nat.le_refl _) ⟨l.length, 0, 0, rfl, by omega⟩
  rintro k s1 ⟨i, c, rfl, hk⟩
  repeat' (first | ((with_reducible first | refine Ev.sided ?_ ?_ | refine Ev.w_put ?_ | refine Ev.w_step ?_ | refine Ev.w_opt ?_); (conv => whnf)) | ((with_reducible refine Ev.chk_k ?_ ?_); rotate_left; (focus first | rfl | (simp only [Ev.nbeq, Bool.and_true, Bool.true_and, Bool.not_false]; done) | ((repeat' (first | exact Ev.nbeq _ | rfl | refine Bool.and_eq_true_iff.2 ⟨?_, ?_⟩)); done)); conv => whnf) | (with_reducible first | refine Ev.c_dec (fun _ => ?_) (fun _ => ?_) | refine Ev.c_not ?_ | refine Ev.c_t ?_ | refine Ev.c_f ?_ | refine Ev.c_br (fun _ => ?_) (fun _ => ?_)) | ((with_reducible refine Ev.br_not ?_); conv => whnf) | (with_reducible first | refine Ev.br_dec (fun _ => ?_) (fun _ => ?_) | refine Ev.br (fun _ => ?_) (fun _ => ?_) | refine Ev.eo_ret ?_ | refine Ev.eo_norm ?_ | refine Ev.t_norm ?_ | refine Ev.k_seq ?_) | ((with_reducible refine Ev.k_reg (hs := []) (tabOK' _ _) (fun Q hQ => ?_)); (simp only [Ev.runE_cons, Ev.runE_nil]); conv => whnf) | (with_reducible refine hQ _ ?_; clear hQ Q) | (with_reducible first | refine Ev.k_cond rfl ?_ | refine Ev.k_skip ?_ | refine Ev.k_block ?_ | refine Ev.k_exit ?_ | refine Ev.k_ret ?_ | refine Ev.t_ret ?_ | refine Ev.t_exit ?_ | refine Ev.b_norm ?_ | refine Ev.b_ret ?_ | refine Ev.b_here ?_ | refine Ev.b_off rfl ?_) | ((with_reducible first | refine Ev.e_ret (fun F hF => ?_) | refine Ev.e_norm (fun F hF => ?_) | refine Ev.eh_ret (fun F hF => ?_) | refine Ev.eh_norm (fun F hF => ?_) | refine Ev.go_k (fun c' => ?_) | refine Ev.byt_cut ?_ | refine Ev.byt_all ?_ | refine Ev.run_cut ?_ | refine Ev.run_all ?_); conv => whnf) | (with_reducible refine hF _ ?_; clear hF F) | (with_reducible refine Ev.u_step ?_) | ((refine Ev.el_map ?_ (fun hi => ?_); rotate_left); conv => whnf) | ((refine Ev.call_det (hg _ (List.getElem_mem hi)) rfl rfl ?_); conv => whnf) | (refine Ev.Side.of ?_; exact Nat.le_of_ble_eq_true rfl))
  · have hi' : i < l.length := by simpa using hi
    rw [spC_at hi hi']
    refine Ev.again (k - 1) ⟨[(1, _), (4, _), (5, .v (.int .i64 (sumW f (l.take (i + 1))))), (8, _), (9, _), (10, .v (.int .i64 ((i + 1 : Nat) : Int)))], [], c + 8⟩ (by omega) ⟨rfl, rfl, Ev.slot_int rfl (by rw [sumW_succ _ _ hi']), rfl, rfl, Ev.slot_int rfl (by rw [Ev.wrap64]; omega), trivial⟩ trivial (Nat.le_refl _) ⟨i + 1, c + 8, rfl, by omega⟩
  · refine Ev.Side.of ?_; rename_i h; omega
  · refine Ev.Side.of ?_; rename_i h; simp only [sps, List.length_map]; omega
  · rename_i h
    have ei : i = l.length := by omega
    subst ei
    rw [List.take_of_length_le (Nat.le_refl _)]
    exact ⟨rfl, rfl⟩
theorem opIn_call (l : List Sp) (hl : l.length ≤ 1000000000) : CallW env 76 [.lst 3 (sps l)] (fun r hs => r = .v (.int .i64 (sumW (fun s => inF s.k s.n) l)) ∧ hs = []) := by
  refine Ev.func tabOK [0, 2, 3] 0 Tryd.func76 rfl rfl (by simp [Tryd.ntmps76]) (by rfl) (comp76 _ rfl) (rs := [.tmp 2]) rfl ?_; rw [cc76]; show Ev.Wp _ _ _ _ ⟨[(0, _)], [], 0⟩
  repeat' (first | ((with_reducible first | refine Ev.sided ?_ ?_ | refine Ev.w_put ?_ | refine Ev.w_step ?_ | refine Ev.w_opt ?_); (conv => whnf)) | ((with_reducible refine Ev.chk_k ?_ ?_); rotate_left; (focus first | rfl | (simp only [Ev.nbeq, Bool.and_true, Bool.true_and, Bool.not_false]; done) | ((repeat' (first | exact Ev.nbeq _ | rfl | refine Bool.and_eq_true_iff.2 ⟨?_, ?_⟩)); done)); conv => whnf) | (with_reducible first | refine Ev.c_dec (fun _ => ?_) (fun _ => ?_) | refine Ev.c_not ?_ | refine Ev.c_t ?_ | refine Ev.c_f ?_ | refine Ev.c_br (fun _ => ?_) (fun _ => ?_)) | ((with_reducible refine Ev.br_not ?_); conv => whnf) | (with_reducible first | refine Ev.br_dec (fun _ => ?_) (fun _ => ?_) | refine Ev.br (fun _ => ?_) (fun _ => ?_) | refine Ev.eo_ret ?_ | refine Ev.eo_norm ?_ | refine Ev.t_norm ?_ | refine Ev.k_seq ?_) | ((with_reducible refine Ev.k_reg (hs := []) (tabOK' _ _) (fun Q hQ => ?_)); (simp only [Ev.runE_cons, Ev.runE_nil]); conv => whnf) | (with_reducible refine hQ _ ?_; clear hQ Q) | (with_reducible first | refine Ev.k_cond rfl ?_ | refine Ev.k_skip ?_ | refine Ev.k_block ?_ | refine Ev.k_exit ?_ | refine Ev.k_ret ?_ | refine Ev.t_ret ?_ | refine Ev.t_exit ?_ | refine Ev.b_norm ?_ | refine Ev.b_ret ?_ | refine Ev.b_here ?_ | refine Ev.b_off rfl ?_) | ((with_reducible first | refine Ev.e_ret (fun F hF => ?_) | refine Ev.e_norm (fun F hF => ?_) | refine Ev.eh_ret (fun F hF => ?_) | refine Ev.eh_norm (fun F hF => ?_) | refine Ev.go_k (fun c' => ?_) | refine Ev.byt_cut ?_ | refine Ev.byt_all ?_ | refine Ev.run_cut ?_ | refine Ev.run_all ?_); conv => whnf) | (with_reducible refine hF _ ?_; clear hF F) | (with_reducible refine Ev.u_step ?_) | ((refine Ev.call_det (sum_call (fun s => inF s.k s.n) 109 l hl (fun s _ => in_call _ _ _)) rfl rfl ?_); conv => whnf) | (refine Ev.Side.of ?_; exact Nat.le_of_ble_eq_true rfl))
  all_goals exact ⟨rfl, rfl⟩
end Go.Proofs.YthdjbgbfboppcaaDoor.Abs

namespace Go.Proofs.YthdjbgbfboppcaaDoor.Abs
open Go
set_option maxRecDepth 100000
set_option linter.unusedSimpArgs false
set_option linter.unusedVariables false
attribute [local irreducible] Ev.Unr Ev.Go' Ev.bytK Ev.runK Ev.FinL Ev.brC Ev.Side Ev.Wp Ev.Again Ev.To Ev.Fin
open Go.Lib Go.RowKit
def firstE (f : Sp → Int) : List Sp → Int
  | [] => 0
  | s :: l => if f s = 0 then firstE f l else f s
theorem firstE_append (f : Sp → Int) : ∀ (a b : List Sp), firstE f (a ++ b) = if firstE f a = 0 then firstE f b else firstE f a
  | [], b => by simp [firstE]
  | s :: a, b => by
    simp only [List.cons_append, firstE, firstE_append f a b]
    by_cases h : f s = 0 <;> simp [h]
theorem firstE_ok (f : Sp → Int) (l : List Sp) {i : Nat} (hi : i < l.length) (h : firstE f (l.take i) = 0) (h0 : f l[i] = 0) : firstE f (l.take (i + 1)) = 0 := by
  rw [List.take_succ_eq_append_getElem hi, firstE_append, h]; simp [firstE, h0]
theorem firstE_at (f : Sp → Int) (l : List Sp) {i : Nat} (hi : i < l.length) (h : firstE f (l.take i) = 0) (h0 : ¬ f l[i] = 0) : firstE f l = f l[i] := by
  have e : l = l.take i ++ l[i] :: l.drop (i + 1) := by rw [List.getElem_cons_drop, List.take_append_drop]
  have := firstE_append f (l.take i) (l[i] :: l.drop (i + 1))
  rw [← e, h] at this
  rw [this]; simp [firstE, h0]
def mayS (s : Sp) : Int := mayF s.k s.n s.t
def inW (l : List Sp) : Int := sumW (fun s => inF s.k s.n) l
def outW (l : List Sp) : Int := sumW (fun s => outF s.k s.n s.t) l
def opMayF (l : List Sp) : Int := if firstE mayS l = 0 then (if 1048576 < inW l then 4 else 0) else firstE mayS l
def nilA : AV := .v (.slice none 0 0)
def cc60 : CC := (.seq (.reg 0 [⟨0, some 2, (.assign (.const (Value.int .i64 0))), none⟩]) (.seq (.seq (.reg 1 [⟨0, some 6, (.move (.tmp 0)), none⟩, ⟨1, some 7, (.call { callee := .builtin .len, args := #[.tmp 6], argTypes := #[25] }), none⟩, ⟨2, some 8, (.move (.const (Value.int .i64 0))), none⟩]) (.block 0 (.loop (.seq (.reg 2 [⟨0, some 9, (.binOp .lss 3 (.tmp 8) (.tmp 7) 3), none⟩]) (.seq (.cond (.tmp 9) .skip (.exit 0)) (.seq (.block 1 (.seq (.reg 3 [⟨0, some 10, (.indexAddr 25 (.tmp 6) (.tmp 8)), none⟩, ⟨1, some 11, (.load 35 (.tmp 10)), none⟩, ⟨2, some 4, (.alloc 35), none⟩, ⟨3, none, (.store 35 (.tmp 4) (.tmp 11)), none⟩]) (.seq (.reg 4 [⟨0, some 12, (.load 35 (.tmp 4)), none⟩, ⟨1, some 13, (.call { callee := .value (.func 91), args := #[.tmp 12], argTypes := #[35] }), none⟩, ⟨2, some 5, (.assign (.tmp 13)), none⟩]) (.seq (.reg 5 [⟨0, some 14, (.move (.tmp 5)), none⟩, ⟨1, some 15, (.binOp .neq 26 (.tmp 14) (.const (Value.int .i64 0)) 26), none⟩]) (.cond (.tmp 15) (.seq (.reg 6 [⟨0, some 16, (.move (.tmp 5)), none⟩, ⟨1, some 2, (.assign (.tmp 16)), none⟩]) .ret) .skip))))) (.reg 7 [⟨0, some 17, (.binOp .add 3 (.tmp 8) (.const (Value.int .i64 1)) 3), none⟩, ⟨1, some 8, (.move (.tmp 17)), none⟩]))))))) (.seq (.seq (.reg 8 [⟨0, some 18, (.move (.tmp 0)), none⟩, ⟨1, some 19, (.call { callee := .value (.func 76), args := #[.tmp 18], argTypes := #[25] }), none⟩, ⟨2, some 20, (.binOp .gtr 3 (.tmp 19) (.const (Value.int .i64 1048576)) 3), none⟩]) (.cond (.tmp 20) (.seq (.reg 9 [⟨0, some 2, (.assign (.const (Value.int .i64 4))), none⟩]) .ret) .skip)) (.seq (.reg 10 [⟨0, some 2, (.assign (.const (Value.int .i64 0))), none⟩]) .ret))))
theorem comp60 : ∀ c, Tryd.f60.body = some c → comp c = cc60 := by
  intro c h
  have : c = Tryd.f60.body.get rfl := by rw [← Option.some_inj, ← h]; rfl
  rw [this]; rfl
def cc73 : CC := (.seq (.reg 0 [⟨0, some 2, (.assign (.const (Value.int .i64 0))), none⟩]) (.seq (.seq (.reg 1 [⟨0, some 3, (.assign (.const (Value.int .i64 0))), none⟩]) (.block 0 (.loop (.seq (.seq (.reg 2 [⟨0, some 5, (.move (.tmp 3)), none⟩, ⟨1, some 6, (.move (.tmp 0)), none⟩, ⟨2, some 7, (.call { callee := .builtin .len, args := #[.tmp 6], argTypes := #[25] }), none⟩, ⟨3, some 8, (.binOp .lss 3 (.tmp 5) (.tmp 7) 3), none⟩]) (.cond (.tmp 8) .skip (.exit 0))) (.seq (.block 1 (.seq (.reg 4 [⟨0, some 11, (.move (.tmp 0)), none⟩, ⟨1, some 12, (.move (.tmp 3)), none⟩, ⟨2, some 13, (.indexAddr 25 (.tmp 11) (.tmp 12)), none⟩, ⟨3, some 14, (.load 35 (.tmp 13)), none⟩, ⟨4, some 15, (.call { callee := .value (.func 106), args := #[.tmp 14], argTypes := #[35] }), none⟩, ⟨5, some 4, (.assign (.tmp 15)), none⟩]) (.seq (.reg 5 [⟨0, some 16, (.move (.tmp 4)), none⟩, ⟨1, some 17, (.binOp .neq 26 (.tmp 16) (.const (Value.int .i64 0)) 26), none⟩]) (.cond (.tmp 17) (.seq (.reg 6 [⟨0, some 18, (.move (.tmp 4)), none⟩, ⟨1, some 2, (.assign (.tmp 18)), none⟩]) .ret) .skip)))) (.reg 3 [⟨0, some 9, (.move (.tmp 3)), none⟩, ⟨1, some 10, (.binOp .add 3 (.tmp 9) (.const (Value.int .i64 1)) 3), none⟩, ⟨2, some 3, (.assign (.tmp 10)), none⟩])))))) (.seq (.seq (.reg 7 [⟨0, some 19, (.move (.tmp 0)), none⟩, ⟨1, some 20, (.call { callee := .value (.func 74), args := #[.tmp 19], argTypes := #[25] }), none⟩, ⟨2, some 21, (.binOp .gtr 3 (.tmp 20) (.const (Value.int .i64 1048576)) 3), none⟩]) (.cond (.tmp 21) (.seq (.reg 8 [⟨0, some 2, (.assign (.const (Value.int .i64 4))), none⟩]) .ret) .skip)) (.seq (.reg 9 [⟨0, some 2, (.assign (.const (Value.int .i64 0))), none⟩]) .ret))))
theorem comp73 : ∀ c, Tryd.f73.body = some c → comp c = cc73 := by
  intro c h
  have : c = Tryd.f73.body.get rfl := by rw [← Option.some_inj, ← h]; rfl
  rw [this]; rfl
theorem opMay_call (l : List Sp) (hl : l.length ≤ 1000000000) (hs : Small l) : CallW env 60 [.lst 3 (sps l)] (fun r hs => r = .v (.int .i64 (opMayF l)) ∧ hs = []) := by
  have hsl := sps_len l
  refine Ev.func tabOK [0, 2, 4, 5, 6, 7, 8, 9, 15, 20] 0 Tryd.func60 rfl rfl (by simp [Tryd.ntmps60]) (by rfl) (comp60 _ rfl) (rs := [.tmp 2]) rfl ?_; rw [cc60]; show Ev.Wp _ _ _ _ ⟨[(0, _)], [], 0⟩
  repeat' (first | ((with_reducible first | refine Ev.sided ?_ ?_ | refine Ev.w_put ?_ | refine Ev.w_step ?_ | refine Ev.w_opt ?_); (conv => whnf)) | ((with_reducible refine Ev.chk_k ?_ ?_); rotate_left; (focus first | rfl | (simp only [Ev.nbeq, Bool.and_true, Bool.true_and, Bool.not_false]; done) | ((repeat' (first | exact Ev.nbeq _ | rfl | refine Bool.and_eq_true_iff.2 ⟨?_, ?_⟩)); done)); conv => whnf) | (with_reducible first | refine Ev.c_dec (fun _ => ?_) (fun _ => ?_) | refine Ev.c_not ?_ | refine Ev.c_t ?_ | refine Ev.c_f ?_ | refine Ev.c_br (fun _ => ?_) (fun _ => ?_)) | ((with_reducible refine Ev.br_not ?_); conv => whnf) | (with_reducible first | refine Ev.br_dec (fun _ => ?_) (fun _ => ?_) | refine Ev.br (fun _ => ?_) (fun _ => ?_) | refine Ev.eo_ret ?_ | refine Ev.eo_norm ?_ | refine Ev.t_norm ?_ | refine Ev.k_seq ?_) | ((with_reducible refine Ev.k_reg (hs := []) (tabOK' _ _) (fun Q hQ => ?_)); (simp only [Ev.runE_cons, Ev.runE_nil]); conv => whnf) | (with_reducible refine hQ _ ?_; clear hQ Q) | (with_reducible first | refine Ev.k_cond rfl ?_ | refine Ev.k_skip ?_ | refine Ev.k_block ?_ | refine Ev.k_exit ?_ | refine Ev.k_ret ?_ | refine Ev.t_ret ?_ | refine Ev.t_exit ?_ | refine Ev.b_norm ?_ | refine Ev.b_ret ?_ | refine Ev.b_here ?_ | refine Ev.b_off rfl ?_) | ((with_reducible first | refine Ev.e_ret (fun F hF => ?_) | refine Ev.e_norm (fun F hF => ?_) | refine Ev.eh_ret (fun F hF => ?_) | refine Ev.eh_norm (fun F hF => ?_) | refine Ev.go_k (fun c' => ?_) | refine Ev.byt_cut ?_ | refine Ev.byt_all ?_ | refine Ev.run_cut ?_ | refine Ev.run_all ?_); conv => whnf) | (with_reducible refine hF _ ?_; clear hF F) | (with_reducible refine Ev.u_step ?_) | ((refine Ev.el_map0 ?_ (fun hi => ?_)); rotate_left; conv => whnf) | ((refine Ev.el_mapN ?_ (fun hi => ?_)); rotate_left; conv => whnf) | (refine Ev.Side.of ?_; exact Nat.le_of_ble_eq_true rfl) | (refine Ev.Side.of ?_; omega) | (refine Ev.Side.of ?_; simp only [Ev.wrap64]; omega) | (refine Ev.app_one ?_ rfl ?_ (by decide) <;> (first | omega | (simp; done) | (simp; omega))) | (refine Ev.app_nil1 rfl (by decide)) | (refine Ev.app_ys ?_ ?_ ?_ (by decide) <;> (first | omega | exact sps_all _ | exact bts_all _ | exact ints_all _ | exact spss_all _ | (simp; done) | (simp; omega))) | (refine Ev.app_nil ?_ ?_ (by decide) <;> (first | omega | exact sps_all _ | exact bts_all _ | exact ints_all _ | exact spss_all _ | (simp; done) | (simp; omega))) | (refine Ev.Side.of ?_; first | omega | (simp; done) | (simp; omega)))
  refine Ev.loop (fun k s => ∃ i c : Nat, s = ⟨[(0, .lst 3 (sps l)), (2, .v (.int .i64 0)), (6, .lst 3 (sps l)), (7, .v (.int .i64 l.length)), (8, .v (.int .i64 i))], [], c⟩ ∧ k + i = l.length ∧ firstE mayS (l.take i) = 0) ?_ ?_
  · exact Ev.to ⟨[(0, _), (2, _), (6, .lst 3 (sps l)), (7, .v (.int .i64 l.length)), (8, .v (.int .i64 ((0 : Nat) : Int)))], [], 0⟩ ⟨rfl, rfl, rfl, Ev.slot_int rfl (by simp [sps]), rfl, trivial⟩ trivial (Nat.le_refl _) ⟨l.length, 0, 0, rfl, by omega, rfl⟩
  rintro k s1 ⟨i, c, rfl, hk, hf⟩
  repeat' (first | ((with_reducible first | refine Ev.sided ?_ ?_ | refine Ev.w_put ?_ | refine Ev.w_step ?_ | refine Ev.w_opt ?_); (conv => whnf)) | ((with_reducible refine Ev.chk_k ?_ ?_); rotate_left; (focus first | rfl | (simp only [Ev.nbeq, Bool.and_true, Bool.true_and, Bool.not_false]; done) | ((repeat' (first | exact Ev.nbeq _ | rfl | refine Bool.and_eq_true_iff.2 ⟨?_, ?_⟩)); done)); conv => whnf) | (with_reducible first | refine Ev.c_dec (fun _ => ?_) (fun _ => ?_) | refine Ev.c_not ?_ | refine Ev.c_t ?_ | refine Ev.c_f ?_ | refine Ev.c_br (fun _ => ?_) (fun _ => ?_)) | ((with_reducible refine Ev.br_not ?_); conv => whnf) | (with_reducible first | refine Ev.br_dec (fun _ => ?_) (fun _ => ?_) | refine Ev.br (fun _ => ?_) (fun _ => ?_) | refine Ev.eo_ret ?_ | refine Ev.eo_norm ?_ | refine Ev.t_norm ?_ | refine Ev.k_seq ?_) | ((with_reducible refine Ev.k_reg (hs := []) (tabOK' _ _) (fun Q hQ => ?_)); (simp only [Ev.runE_cons, Ev.runE_nil]); conv => whnf) | (with_reducible refine hQ _ ?_; clear hQ Q) | (with_reducible first | refine Ev.k_cond rfl ?_ | refine Ev.k_skip ?_ | refine Ev.k_block ?_ | refine Ev.k_exit ?_ | refine Ev.k_ret ?_ | refine Ev.t_ret ?_ | refine Ev.t_exit ?_ | refine Ev.b_norm ?_ | refine Ev.b_ret ?_ | refine Ev.b_here ?_ | refine Ev.b_off rfl ?_) | ((with_reducible first | refine Ev.e_ret (fun F hF => ?_) | refine Ev.e_norm (fun F hF => ?_) | refine Ev.eh_ret (fun F hF => ?_) | refine Ev.eh_norm (fun F hF => ?_) | refine Ev.go_k (fun c' => ?_) | refine Ev.byt_cut ?_ | refine Ev.byt_all ?_ | refine Ev.run_cut ?_ | refine Ev.run_all ?_); conv => whnf) | (with_reducible refine hF _ ?_; clear hF F) | (with_reducible refine Ev.u_step ?_) | ((refine Ev.call_det (may_call _ _ _ (hs _ (List.getElem_mem hi))) rfl rfl ?_); conv => whnf) | ((refine Ev.call_det (opIn_call l hl) rfl rfl ?_); conv => whnf) | ((refine Ev.el_map0 ?_ (fun hi => ?_)); rotate_left; conv => whnf) | ((refine Ev.el_mapN ?_ (fun hi => ?_)); rotate_left; conv => whnf) | (refine Ev.Side.of ?_; exact Nat.le_of_ble_eq_true rfl) | (refine Ev.Side.of ?_; omega) | (refine Ev.Side.of ?_; simp only [Ev.wrap64]; omega) | (refine Ev.app_one ?_ rfl ?_ (by decide) <;> (first | omega | (simp; done) | (simp; omega))) | (refine Ev.app_nil1 rfl (by decide)) | (refine Ev.app_ys ?_ ?_ ?_ (by decide) <;> (first | omega | exact sps_all _ | exact bts_all _ | exact ints_all _ | exact spss_all _ | (simp; done) | (simp; omega))) | (refine Ev.app_nil ?_ ?_ (by decide) <;> (first | omega | exact sps_all _ | exact bts_all _ | exact ints_all _ | exact spss_all _ | (simp; done) | (simp; omega))) | (refine Ev.Side.of ?_; first | omega | (simp; done) | (simp; omega)))
  · rename_i heq
    exact Ev.again (k - 1) ⟨[(0, _), (2, _), (6, _), (7, _), (8, .v (.int .i64 ((i + 1 : Nat) : Int)))], [], c + 8⟩ (by omega) ⟨rfl, rfl, rfl, rfl, Ev.slot_int rfl (by rw [Ev.wrap64]; omega), trivial⟩ trivial (Nat.le_refl _) ⟨i + 1, c + 8, rfl, by omega, firstE_ok mayS l hi hf heq⟩
  · rename_i hne
    exact ⟨congrArg (fun b => AV.v (Value.int .i64 b)) (by unfold opMayF; rw [firstE_at mayS l hi hf hne]; exact (if_neg hne).symm), rfl⟩
  all_goals
    have ei : i = l.length := by omega
    subst ei
    rw [List.take_of_length_le (Nat.le_refl _)] at hf
    refine ⟨congrArg (fun b => AV.v (Value.int .i64 b)) ?_, rfl⟩
    simp [opMayF, hf, inW, *]
theorem r4may_call (l : List Sp) (hl : l.length ≤ 1000000000) (hs : Small l) : CallW env 73 [.lst 3 (sps l)] (fun r hs => r = .v (.int .i64 (opMayF l)) ∧ hs = []) := by
  have hsl := sps_len l
  refine Ev.func tabOK [0, 2, 3, 4, 8, 17, 21] 0 Tryd.func73 rfl rfl (by simp [Tryd.ntmps73]) (by rfl) (comp73 _ rfl) (rs := [.tmp 2]) rfl ?_; rw [cc73]; show Ev.Wp _ _ _ _ ⟨[(0, _)], [], 0⟩
  repeat' (first | ((with_reducible first | refine Ev.sided ?_ ?_ | refine Ev.w_put ?_ | refine Ev.w_step ?_ | refine Ev.w_opt ?_); (conv => whnf)) | ((with_reducible refine Ev.chk_k ?_ ?_); rotate_left; (focus first | rfl | (simp only [Ev.nbeq, Bool.and_true, Bool.true_and, Bool.not_false]; done) | ((repeat' (first | exact Ev.nbeq _ | rfl | refine Bool.and_eq_true_iff.2 ⟨?_, ?_⟩)); done)); conv => whnf) | (with_reducible first | refine Ev.c_dec (fun _ => ?_) (fun _ => ?_) | refine Ev.c_not ?_ | refine Ev.c_t ?_ | refine Ev.c_f ?_ | refine Ev.c_br (fun _ => ?_) (fun _ => ?_)) | ((with_reducible refine Ev.br_not ?_); conv => whnf) | (with_reducible first | refine Ev.br_dec (fun _ => ?_) (fun _ => ?_) | refine Ev.br (fun _ => ?_) (fun _ => ?_) | refine Ev.eo_ret ?_ | refine Ev.eo_norm ?_ | refine Ev.t_norm ?_ | refine Ev.k_seq ?_) | ((with_reducible refine Ev.k_reg (hs := []) (tabOK' _ _) (fun Q hQ => ?_)); (simp only [Ev.runE_cons, Ev.runE_nil]); conv => whnf) | (with_reducible refine hQ _ ?_; clear hQ Q) | (with_reducible first | refine Ev.k_cond rfl ?_ | refine Ev.k_skip ?_ | refine Ev.k_block ?_ | refine Ev.k_exit ?_ | refine Ev.k_ret ?_ | refine Ev.t_ret ?_ | refine Ev.t_exit ?_ | refine Ev.b_norm ?_ | refine Ev.b_ret ?_ | refine Ev.b_here ?_ | refine Ev.b_off rfl ?_) | ((with_reducible first | refine Ev.e_ret (fun F hF => ?_) | refine Ev.e_norm (fun F hF => ?_) | refine Ev.eh_ret (fun F hF => ?_) | refine Ev.eh_norm (fun F hF => ?_) | refine Ev.go_k (fun c' => ?_) | refine Ev.byt_cut ?_ | refine Ev.byt_all ?_ | refine Ev.run_cut ?_ | refine Ev.run_all ?_); conv => whnf) | (with_reducible refine hF _ ?_; clear hF F) | (with_reducible refine Ev.u_step ?_) | ((refine Ev.el_map0 ?_ (fun hi => ?_)); rotate_left; conv => whnf) | ((refine Ev.el_mapN ?_ (fun hi => ?_)); rotate_left; conv => whnf) | (refine Ev.Side.of ?_; exact Nat.le_of_ble_eq_true rfl) | (refine Ev.Side.of ?_; omega) | (refine Ev.Side.of ?_; simp only [Ev.wrap64]; omega) | (refine Ev.app_one ?_ rfl ?_ (by decide) <;> (first | omega | (simp; done) | (simp; omega))) | (refine Ev.app_nil1 rfl (by decide)) | (refine Ev.app_ys ?_ ?_ ?_ (by decide) <;> (first | omega | exact sps_all _ | exact bts_all _ | exact ints_all _ | exact spss_all _ | (simp; done) | (simp; omega))) | (refine Ev.app_nil ?_ ?_ (by decide) <;> (first | omega | exact sps_all _ | exact bts_all _ | exact ints_all _ | exact spss_all _ | (simp; done) | (simp; omega))) | (refine Ev.Side.of ?_; first | omega | (simp; done) | (simp; omega)))
  refine Ev.loop (fun k s => ∃ i c : Nat, s = ⟨[(0, .lst 3 (sps l)), (2, .v (.int .i64 0)), (3, .v (.int .i64 i))], [], c⟩ ∧ k + i = l.length ∧ firstE mayS (l.take i) = 0) ?_ ?_
  · exact Ev.to ⟨[(0, _), (2, _), (3, .v (.int .i64 ((0 : Nat) : Int)))], [], 0⟩ ⟨rfl, rfl, rfl, trivial⟩ trivial (Nat.le_refl _) ⟨l.length, 0, 0, rfl, by omega, rfl⟩
  rintro k s1 ⟨i, c, rfl, hk, hf⟩
  repeat' (first | ((with_reducible first | refine Ev.sided ?_ ?_ | refine Ev.w_put ?_ | refine Ev.w_step ?_ | refine Ev.w_opt ?_); (conv => whnf)) | ((with_reducible refine Ev.chk_k ?_ ?_); rotate_left; (focus first | rfl | (simp only [Ev.nbeq, Bool.and_true, Bool.true_and, Bool.not_false]; done) | ((repeat' (first | exact Ev.nbeq _ | rfl | refine Bool.and_eq_true_iff.2 ⟨?_, ?_⟩)); done)); conv => whnf) | (with_reducible first | refine Ev.c_dec (fun _ => ?_) (fun _ => ?_) | refine Ev.c_not ?_ | refine Ev.c_t ?_ | refine Ev.c_f ?_ | refine Ev.c_br (fun _ => ?_) (fun _ => ?_)) | ((with_reducible refine Ev.br_not ?_); conv => whnf) | (with_reducible first | refine Ev.br_dec (fun _ => ?_) (fun _ => ?_) | refine Ev.br (fun _ => ?_) (fun _ => ?_) | refine Ev.eo_ret ?_ | refine Ev.eo_norm ?_ | refine Ev.t_norm ?_ | refine Ev.k_seq ?_) | ((with_reducible refine Ev.k_reg (hs := []) (tabOK' _ _) (fun Q hQ => ?_)); (simp only [Ev.runE_cons, Ev.runE_nil]); conv => whnf) | (with_reducible refine hQ _ ?_; clear hQ Q) | (with_reducible first | refine Ev.k_cond rfl ?_ | refine Ev.k_skip ?_ | refine Ev.k_block ?_ | refine Ev.k_exit ?_ | refine Ev.k_ret ?_ | refine Ev.t_ret ?_ | refine Ev.t_exit ?_ | refine Ev.b_norm ?_ | refine Ev.b_ret ?_ | refine Ev.b_here ?_ | refine Ev.b_off rfl ?_) | ((with_reducible first | refine Ev.e_ret (fun F hF => ?_) | refine Ev.e_norm (fun F hF => ?_) | refine Ev.eh_ret (fun F hF => ?_) | refine Ev.eh_norm (fun F hF => ?_) | refine Ev.go_k (fun c' => ?_) | refine Ev.byt_cut ?_ | refine Ev.byt_all ?_ | refine Ev.run_cut ?_ | refine Ev.run_all ?_); conv => whnf) | (with_reducible refine hF _ ?_; clear hF F) | (with_reducible refine Ev.u_step ?_) | ((refine Ev.call_det (rmay_call _ _ _ (hs _ (List.getElem_mem hi))) rfl rfl ?_); conv => whnf) | ((refine Ev.call_det (r4in_call l hl) rfl rfl ?_); conv => whnf) | ((refine Ev.el_map0 ?_ (fun hi => ?_)); rotate_left; conv => whnf) | ((refine Ev.el_mapN ?_ (fun hi => ?_)); rotate_left; conv => whnf) | (refine Ev.Side.of ?_; exact Nat.le_of_ble_eq_true rfl) | (refine Ev.Side.of ?_; omega) | (refine Ev.Side.of ?_; simp only [Ev.wrap64]; omega) | (refine Ev.app_one ?_ rfl ?_ (by decide) <;> (first | omega | (simp; done) | (simp; omega))) | (refine Ev.app_nil1 rfl (by decide)) | (refine Ev.app_ys ?_ ?_ ?_ (by decide) <;> (first | omega | exact sps_all _ | exact bts_all _ | exact ints_all _ | exact spss_all _ | (simp; done) | (simp; omega))) | (refine Ev.app_nil ?_ ?_ (by decide) <;> (first | omega | exact sps_all _ | exact bts_all _ | exact ints_all _ | exact spss_all _ | (simp; done) | (simp; omega))) | (refine Ev.Side.of ?_; first | omega | (simp; done) | (simp; omega)))
  · rename_i heq
    exact Ev.again (k - 1) ⟨[(0, _), (2, _), (3, .v (.int .i64 ((i + 1 : Nat) : Int)))], [], c⟩ (by omega) ⟨rfl, rfl, Ev.slot_int rfl (by rw [Ev.wrap64]; omega), trivial⟩ trivial (Nat.le_refl _) ⟨i + 1, c, rfl, by omega, firstE_ok mayS l hi hf heq⟩
  · rename_i hne
    exact ⟨congrArg (fun b => AV.v (Value.int .i64 b)) (by unfold opMayF; rw [firstE_at mayS l hi hf hne]; exact (if_neg hne).symm), rfl⟩
  all_goals
    have ei : i = l.length := by omega
    subst ei
    rw [List.take_of_length_le (Nat.le_refl _)] at hf
    refine ⟨congrArg (fun b => AV.v (Value.int .i64 b)) ?_, rfl⟩
    simp [opMayF, hf, inW, *]
end Go.Proofs.YthdjbgbfboppcaaDoor.Abs

namespace Go.Proofs.YthdjbgbfboppcaaDoor.Abs
open Go
set_option maxRecDepth 100000
set_option linter.unusedSimpArgs false
set_option linter.unusedVariables false
attribute [local irreducible] Ev.Unr Ev.Go' Ev.bytK Ev.runK Ev.FinL Ev.brC Ev.Side Ev.Wp Ev.Again Ev.To Ev.Fin
open Go.Lib Go.RowKit
def cc44 : CC := (.seq (.reg 0 [⟨0, some 4, (.assign (.const (Value.bool false))), none⟩]) (.seq (.seq (.reg 1 [⟨0, some 6, (.move (.tmp 0)), none⟩, ⟨1, some 7, (.call { callee := .builtin .len, args := #[.tmp 6], argTypes := #[25] }), none⟩, ⟨2, some 8, (.move (.tmp 1)), none⟩, ⟨3, some 9, (.call { callee := .builtin .len, args := #[.tmp 8], argTypes := #[25] }), none⟩, ⟨4, some 10, (.binOp .neq 3 (.tmp 7) (.tmp 9) 3), none⟩]) (.cond (.tmp 10) (.seq (.reg 2 [⟨0, some 4, (.assign (.const (Value.bool false))), none⟩]) .ret) .skip)) (.seq (.seq (.reg 3 [⟨0, some 5, (.assign (.const (Value.int .i64 0))), none⟩]) (.block 0 (.loop (.seq (.seq (.reg 4 [⟨0, some 11, (.move (.tmp 5)), none⟩, ⟨1, some 12, (.move (.tmp 0)), none⟩, ⟨2, some 13, (.call { callee := .builtin .len, args := #[.tmp 12], argTypes := #[25] }), none⟩, ⟨3, some 14, (.binOp .lss 3 (.tmp 11) (.tmp 13) 3), none⟩]) (.cond (.tmp 14) .skip (.exit 0))) (.seq (.block 1 (.seq (.draw 6 [⟨0, some 17, (.move (.tmp 0)), none⟩, ⟨1, some 18, (.move (.tmp 5)), none⟩, ⟨2, some 19, (.indexAddr 25 (.tmp 17) (.tmp 18)), none⟩, ⟨3, some 20, (.load 35 (.tmp 19)), none⟩, ⟨4, some 21, (.move (.tmp 1)), none⟩, ⟨5, some 22, (.move (.tmp 5)), none⟩, ⟨6, some 23, (.indexAddr 25 (.tmp 21) (.tmp 22)), none⟩, ⟨7, some 24, (.load 35 (.tmp 23)), none⟩, ⟨8, some 25, (.binOp .neq 35 (.tmp 20) (.tmp 24) 35), none⟩] [[], [], [0, 1], [2], [], [], [4, 5], [6], [3, 7]]) (.cond (.tmp 25) (.seq (.reg 7 [⟨0, some 4, (.assign (.const (Value.bool false))), none⟩]) .ret) .skip))) (.reg 5 [⟨0, some 15, (.move (.tmp 5)), none⟩, ⟨1, some 16, (.binOp .add 3 (.tmp 15) (.const (Value.int .i64 1)) 3), none⟩, ⟨2, some 5, (.assign (.tmp 16)), none⟩])))))) (.seq (.reg 8 [⟨0, some 4, (.assign (.const (Value.bool true))), none⟩]) .ret))))
theorem comp44 : ∀ c, Tryd.f44.body = some c → comp c = cc44 := by
  intro c h
  have : c = Tryd.f44.body.get rfl := by rw [← Option.some_inj, ← h]; rfl
  rw [this]; rfl
instance (a b : Sp) : Decidable (a = b) := decidable_of_iff (a.k = b.k ∧ a.n = b.n ∧ a.t = b.t) (by cases a; cases b; simp)
theorem same_call (l m : List Sp) (hl : l.length ≤ 1000000000) : CallW env 44 [.lst 3 (sps l), .lst 3 (sps m)] (fun r hs => r = .v (.bool (decide (l = m))) ∧ hs = []) := by
  have hsl := sps_len l
  have hsm := sps_len m
  refine Ev.func tabOK [0, 1, 4, 5, 10, 14, 25] 0 Tryd.func44 rfl rfl (by simp [Tryd.ntmps44]) (by rfl) (comp44 _ rfl) (rs := [.tmp 4]) rfl ?_; rw [cc44]; show Ev.Wp _ _ _ _ ⟨[(0, _), (1, _)], [], 0⟩
  repeat' (first | ((with_reducible first | refine Ev.sided ?_ ?_ | refine Ev.w_put ?_ | refine Ev.w_step ?_ | refine Ev.w_opt ?_); (conv => whnf)) | ((with_reducible refine Ev.chk_k ?_ ?_); rotate_left; (focus first | rfl | (simp only [Ev.nbeq, Bool.and_true, Bool.true_and, Bool.not_false]; done) | ((repeat' (first | exact Ev.nbeq _ | rfl | refine Bool.and_eq_true_iff.2 ⟨?_, ?_⟩)); done)); conv => whnf) | (with_reducible first | refine Ev.c_dec (fun _ => ?_) (fun _ => ?_) | refine Ev.c_not ?_ | refine Ev.c_t ?_ | refine Ev.c_f ?_ | refine Ev.c_br (fun _ => ?_) (fun _ => ?_)) | ((with_reducible refine Ev.br_not ?_); conv => whnf) | (with_reducible first | refine Ev.br_dec (fun _ => ?_) (fun _ => ?_) | refine Ev.br (fun _ => ?_) (fun _ => ?_) | refine Ev.eo_ret ?_ | refine Ev.eo_norm ?_ | refine Ev.t_norm ?_ | refine Ev.k_seq ?_) | ((with_reducible refine Ev.k_reg (hs := []) (tabOK' _ _) (fun Q hQ => ?_)); (simp only [Ev.runE_cons, Ev.runE_nil]); conv => whnf) | (with_reducible refine hQ _ ?_; clear hQ Q) | (with_reducible first | refine Ev.k_cond rfl ?_ | refine Ev.k_skip ?_ | refine Ev.k_block ?_ | refine Ev.k_exit ?_ | refine Ev.k_ret ?_ | refine Ev.t_ret ?_ | refine Ev.t_exit ?_ | refine Ev.b_norm ?_ | refine Ev.b_ret ?_ | refine Ev.b_here ?_ | refine Ev.b_off rfl ?_) | ((with_reducible first | refine Ev.e_ret (fun F hF => ?_) | refine Ev.e_norm (fun F hF => ?_) | refine Ev.eh_ret (fun F hF => ?_) | refine Ev.eh_norm (fun F hF => ?_) | refine Ev.go_k (fun c' => ?_) | refine Ev.byt_cut ?_ | refine Ev.byt_all ?_ | refine Ev.run_cut ?_ | refine Ev.run_all ?_); conv => whnf) | (with_reducible refine hF _ ?_; clear hF F) | (with_reducible refine Ev.u_step ?_) | ((refine Ev.k_draw (id := 6) (hs := []) (tabOK' _ _) (mixed' _ _) [0, 1, 2, 3, 4, 5, 6, 7, 8] (by decide) rfl rfl (fun Q hQ => ?_)); (simp only [Ev.runE_cons, Ev.runE_nil]); conv => whnf) | ((refine Ev.el_map0 ?_ (fun hi => ?_)); rotate_left; conv => whnf) | ((refine Ev.el_mapN ?_ (fun hi => ?_)); rotate_left; conv => whnf) | (refine Ev.Side.of ?_; exact Nat.le_of_ble_eq_true rfl) | (refine Ev.Side.of ?_; omega) | (refine Ev.Side.of ?_; simp only [Ev.wrap64]; omega) | (refine Ev.app_one ?_ rfl ?_ (by decide) <;> (first | omega | (simp; done) | (simp; omega))) | (refine Ev.app_nil1 rfl (by decide)) | (refine Ev.app_ys ?_ ?_ ?_ (by decide) <;> (first | omega | exact sps_all _ | exact bts_all _ | exact ints_all _ | exact spss_all _ | (simp; done) | (simp; omega))) | (refine Ev.app_nil ?_ ?_ (by decide) <;> (first | omega | exact sps_all _ | exact bts_all _ | exact ints_all _ | exact spss_all _ | (simp; done) | (simp; omega))) | (refine Ev.Side.of ?_; first | omega | (simp; done) | (simp; omega)))
  rotate_left
  · exact ⟨congrArg (fun b => AV.v (Value.bool b)) (decide_eq_false (by rintro rfl; omega)).symm, rfl⟩
  have hlen : l.length = m.length := by omega
  refine Ev.loop (fun k s => ∃ i : Nat, s = ⟨[(0, .lst 3 (sps l)), (1, .lst 3 (sps m)), (4, .v (.bool false)), (5, .v (.int .i64 i))], [], 0⟩ ∧ k + i = l.length ∧ l.take i = m.take i) ?_ ?_
  · exact Ev.to ⟨[(0, _), (1, _), (4, _), (5, .v (.int .i64 ((0 : Nat) : Int)))], [], 0⟩ ⟨rfl, rfl, rfl, rfl, trivial⟩ trivial (Nat.le_refl _) ⟨l.length, 0, rfl, by omega, rfl⟩
  rintro k s1 ⟨i, rfl, hk, hf⟩
  repeat' (first | ((with_reducible first | refine Ev.sided ?_ ?_ | refine Ev.w_put ?_ | refine Ev.w_step ?_ | refine Ev.w_opt ?_); (conv => whnf)) | ((with_reducible refine Ev.chk_k ?_ ?_); rotate_left; (focus first | rfl | (simp only [Ev.nbeq, Bool.and_true, Bool.true_and, Bool.not_false]; done) | ((repeat' (first | exact Ev.nbeq _ | rfl | refine Bool.and_eq_true_iff.2 ⟨?_, ?_⟩)); done)); conv => whnf) | (with_reducible first | refine Ev.c_dec (fun _ => ?_) (fun _ => ?_) | refine Ev.c_not ?_ | refine Ev.c_t ?_ | refine Ev.c_f ?_ | refine Ev.c_br (fun _ => ?_) (fun _ => ?_)) | ((with_reducible refine Ev.br_not ?_); conv => whnf) | (with_reducible first | refine Ev.br_dec (fun _ => ?_) (fun _ => ?_) | refine Ev.br (fun _ => ?_) (fun _ => ?_) | refine Ev.eo_ret ?_ | refine Ev.eo_norm ?_ | refine Ev.t_norm ?_ | refine Ev.k_seq ?_) | ((with_reducible refine Ev.k_reg (hs := []) (tabOK' _ _) (fun Q hQ => ?_)); (simp only [Ev.runE_cons, Ev.runE_nil]); conv => whnf) | (with_reducible refine hQ _ ?_; clear hQ Q) | (with_reducible first | refine Ev.k_cond rfl ?_ | refine Ev.k_skip ?_ | refine Ev.k_block ?_ | refine Ev.k_exit ?_ | refine Ev.k_ret ?_ | refine Ev.t_ret ?_ | refine Ev.t_exit ?_ | refine Ev.b_norm ?_ | refine Ev.b_ret ?_ | refine Ev.b_here ?_ | refine Ev.b_off rfl ?_) | ((with_reducible first | refine Ev.e_ret (fun F hF => ?_) | refine Ev.e_norm (fun F hF => ?_) | refine Ev.eh_ret (fun F hF => ?_) | refine Ev.eh_norm (fun F hF => ?_) | refine Ev.go_k (fun c' => ?_) | refine Ev.byt_cut ?_ | refine Ev.byt_all ?_ | refine Ev.run_cut ?_ | refine Ev.run_all ?_); conv => whnf) | (with_reducible refine hF _ ?_; clear hF F) | (with_reducible refine Ev.u_step ?_) | ((refine Ev.k_draw (id := 6) (hs := []) (tabOK' _ _) (mixed' _ _) [0, 1, 2, 3, 4, 5, 6, 7, 8] (by decide) rfl rfl (fun Q hQ => ?_)); (simp only [Ev.runE_cons, Ev.runE_nil]); conv => whnf) | ((refine Ev.el_map0 ?_ (fun hi => ?_)); rotate_left; conv => whnf) | ((refine Ev.el_mapN ?_ (fun hi => ?_)); rotate_left; conv => whnf) | (refine Ev.Side.of ?_; exact Nat.le_of_ble_eq_true rfl) | (refine Ev.Side.of ?_; omega) | (refine Ev.Side.of ?_; simp only [Ev.wrap64]; omega) | (refine Ev.app_one ?_ rfl ?_ (by decide) <;> (first | omega | (simp; done) | (simp; omega))) | (refine Ev.app_nil1 rfl (by decide)) | (refine Ev.app_ys ?_ ?_ ?_ (by decide) <;> (first | omega | exact sps_all _ | exact bts_all _ | exact ints_all _ | exact spss_all _ | (simp; done) | (simp; omega))) | (refine Ev.app_nil ?_ ?_ (by decide) <;> (first | omega | exact sps_all _ | exact bts_all _ | exact ints_all _ | exact spss_all _ | (simp; done) | (simp; omega))) | (refine Ev.Side.of ?_; first | omega | (simp; done) | (simp; omega)))
  · rename_i heq
    have hm' : i < m.length := by omega
    exact Ev.again (k - 1) ⟨[(0, _), (1, _), (4, _), (5, .v (.int .i64 ((i + 1 : Nat) : Int)))], [], 0⟩ (by omega) ⟨rfl, rfl, rfl, Ev.slot_int rfl (by rw [Ev.wrap64]; omega), trivial⟩ trivial (Nat.le_refl _) ⟨i + 1, rfl, by omega, by
      rw [List.take_succ_eq_append_getElem (by omega), List.take_succ_eq_append_getElem hm', hf]
      congr 2
      obtain ⟨e1, e2, e3⟩ := heq
      cases h1 : l[i]; cases h2 : m[i]; simp_all⟩
  · rename_i hne
    exact ⟨congrArg (fun b => AV.v (Value.bool b)) (decide_eq_false (by rintro rfl; simp at hne)).symm, rfl⟩
  · have : i = l.length := by omega
    subst this
    rw [List.take_of_length_le (Nat.le_refl _), List.take_of_length_le (by omega)] at hf
    exact ⟨congrArg (fun b => AV.v (Value.bool b)) (decide_eq_true hf).symm, rfl⟩
def cutS (b : Nat) (s : Sp) : Sp := ⟨s.k, s.n, s.t.extract 0 (min s.t.size b)⟩
end Go.Proofs.YthdjbgbfboppcaaDoor.Abs

namespace Go.Proofs.YthdjbgbfboppcaaDoor.Abs
open Go
set_option maxRecDepth 100000
set_option linter.unusedSimpArgs false
set_option linter.unusedVariables false
attribute [local irreducible] Ev.Unr Ev.Go' Ev.bytK Ev.runK Ev.FinL Ev.brC Ev.Side Ev.Wp Ev.Again Ev.To Ev.Fin
open Go.Lib Go.RowKit
def cc42 : CC := (.seq (.reg 0 [⟨0, some 4, (.assign (.const (Value.slice none 0 0))), none⟩]) (.seq (.reg 1 [⟨0, some 8, (.buildSlice 25 0 #[]), none⟩, ⟨1, some 5, (.assign (.tmp 8)), none⟩]) (.seq (.seq (.reg 2 [⟨0, some 6, (.assign (.const (Value.int .i64 0))), none⟩]) (.block 0 (.loop (.seq (.seq (.reg 3 [⟨0, some 9, (.move (.tmp 6)), none⟩, ⟨1, some 10, (.move (.tmp 0)), none⟩, ⟨2, some 11, (.call { callee := .builtin .len, args := #[.tmp 10], argTypes := #[25] }), none⟩, ⟨3, some 12, (.binOp .lss 3 (.tmp 9) (.tmp 11) 3), none⟩, ⟨4, some 13, (.move (.tmp 12)), none⟩, ⟨5, some 14, (.move (.tmp 6)), (some (13, true))⟩, ⟨6, some 15, (.binOp .lss 3 (.tmp 14) (.const (Value.int .i64 12)) 3), (some (13, true))⟩, ⟨7, some 16, (.pick (.tmp 13) (.tmp 15) (.const (Value.bool false))), none⟩]) (.cond (.tmp 16) .skip (.exit 0))) (.seq (.block 1 (.seq (.reg 5 [⟨0, some 19, (.move (.tmp 0)), none⟩, ⟨1, some 20, (.move (.tmp 6)), none⟩, ⟨2, some 21, (.indexAddr 25 (.tmp 19) (.tmp 20)), none⟩, ⟨3, some 22, (.fieldAddr 35 (.tmp 21) 0), none⟩, ⟨4, some 23, (.load 3 (.tmp 22)), none⟩, ⟨5, some 24, (.binOp .rem 3 (.tmp 23) (.const (Value.int .i64 3)) 3), none⟩, ⟨6, some 25, (.binOp .add 3 (.tmp 24) (.const (Value.int .i64 3)) 3), none⟩, ⟨7, some 26, (.binOp .rem 3 (.tmp 25) (.const (Value.int .i64 3)) 3), none⟩, ⟨8, some 27, (.binOp .add 3 (.const (Value.int .i64 1)) (.tmp 26) 3), none⟩, ⟨9, some 28, (.build 35 #[(0, .tmp 27)]), none⟩, ⟨10, some 7, (.alloc 35), none⟩, ⟨11, none, (.store 35 (.tmp 7) (.tmp 28)), none⟩]) (.seq (.seq (.reg 6 [⟨0, some 29, (.fieldAddr 35 (.tmp 7) 0), none⟩, ⟨1, some 30, (.load 3 (.tmp 29)), none⟩, ⟨2, some 31, (.binOp .eql 3 (.tmp 30) (.const (Value.int .i64 2)) 3), none⟩]) (.cond (.tmp 31) (.draw 7 [⟨0, some 32, (.move (.tmp 0)), none⟩, ⟨1, some 33, (.move (.tmp 6)), none⟩, ⟨2, some 34, (.indexAddr 25 (.tmp 32) (.tmp 33)), none⟩, ⟨3, some 35, (.fieldAddr 35 (.tmp 34) 2), none⟩, ⟨4, some 36, (.load 9 (.tmp 35)), none⟩, ⟨5, some 37, (.move (.tmp 0)), none⟩, ⟨6, some 38, (.move (.tmp 6)), none⟩, ⟨7, some 39, (.indexAddr 25 (.tmp 37) (.tmp 38)), none⟩, ⟨8, some 40, (.fieldAddr 35 (.tmp 39) 2), none⟩, ⟨9, some 41, (.load 9 (.tmp 40)), none⟩, ⟨10, some 42, (.call { callee := .builtin .len, args := #[.tmp 41], argTypes := #[9] }), none⟩, ⟨11, some 43, (.call { callee := .builtin .min, args := #[.tmp 42, .const (Value.int .i64 6)], argTypes := #[3, 3] }), none⟩, ⟨12, some 44, (.slice 9 (.tmp 36) none (some (.tmp 43)) none), none⟩, ⟨13, some 45, (.call { callee := .value (.func 64), args := #[.tmp 44], argTypes := #[9] }), none⟩, ⟨14, some 46, (.fieldAddr 35 (.tmp 7) 2), none⟩, ⟨15, none, (.store 9 (.tmp 46) (.tmp 45)), none⟩] [[], [], [0, 1], [2], [3], [], [], [5, 6], [7], [8], [9], [10], [4, 11], [12], [0, 1, 2, 3, 4, 5, 6, 7, 8, 9, 10, 11, 12, 13], [14, 13, 13, 0, 1, 2, 3, 4, 5, 6, 7, 8, 9, 10, 11, 12, 13]]) (.seq (.reg 8 [⟨0, some 47, (.move (.tmp 0)), none⟩, ⟨1, some 48, (.move (.tmp 6)), none⟩, ⟨2, some 49, (.indexAddr 25 (.tmp 47) (.tmp 48)), none⟩, ⟨3, some 50, (.fieldAddr 35 (.tmp 49) 1), none⟩, ⟨4, some 51, (.load 3 (.tmp 50)), none⟩, ⟨5, some 52, (.binOp .rem 3 (.tmp 51) (.const (Value.int .i64 7)) 3), none⟩, ⟨6, some 53, (.binOp .add 3 (.tmp 52) (.const (Value.int .i64 7)) 3), none⟩, ⟨7, some 54, (.binOp .rem 3 (.tmp 53) (.const (Value.int .i64 7)) 3), none⟩, ⟨8, some 55, (.move (.tmp 1)), none⟩, ⟨9, some 56, (.call { callee := .builtin .min, args := #[.tmp 54, .tmp 55], argTypes := #[3, 3] }), none⟩, ⟨10, some 57, (.fieldAddr 35 (.tmp 7) 1), none⟩, ⟨11, none, (.store 3 (.tmp 57) (.tmp 56)), none⟩]) (.reg 9 [⟨0, some 58, (.move (.tmp 1)), none⟩, ⟨1, some 59, (.fieldAddr 35 (.tmp 7) 1), none⟩, ⟨2, some 60, (.load 3 (.tmp 59)), none⟩, ⟨3, some 61, (.binOp .sub 3 (.tmp 58) (.tmp 60) 3), none⟩, ⟨4, some 1, (.assign (.tmp 61)), none⟩])))) (.reg 10 [⟨0, some 62, (.move (.tmp 5)), none⟩, ⟨1, some 63, (.load 35 (.tmp 7)), none⟩, ⟨2, some 64, (.buildSlice 25 1 #[(0, .tmp 63)]), none⟩, ⟨3, some 65, (.call { callee := .builtin .append, args := #[.tmp 62, .tmp 64], argTypes := #[25, 25] }), none⟩, ⟨4, some 5, (.assign (.tmp 65)), none⟩])))) (.reg 4 [⟨0, some 17, (.move (.tmp 6)), none⟩, ⟨1, some 18, (.binOp .add 3 (.tmp 17) (.const (Value.int .i64 1)) 3), none⟩, ⟨2, some 6, (.assign (.tmp 18)), none⟩])))))) (.seq (.seq (.reg 11 [⟨0, some 66, (.move (.tmp 1)), none⟩, ⟨1, some 67, (.binOp .gtr 3 (.tmp 66) (.const (Value.int .i64 0)) 3), none⟩]) (.cond (.tmp 67) (.reg 12 [⟨0, some 68, (.move (.tmp 5)), none⟩, ⟨1, some 69, (.move (.tmp 1)), none⟩, ⟨2, some 70, (.build 35 #[(0, .const (Value.int .i64 1)), (1, .tmp 69)]), none⟩, ⟨3, some 71, (.buildSlice 25 1 #[(0, .tmp 70)]), none⟩, ⟨4, some 72, (.call { callee := .builtin .append, args := #[.tmp 68, .tmp 71], argTypes := #[25, 25] }), none⟩, ⟨5, some 5, (.assign (.tmp 72)), none⟩]) .skip)) (.seq (.reg 13 [⟨0, some 73, (.move (.tmp 5)), none⟩, ⟨1, some 4, (.assign (.tmp 73)), none⟩]) .ret)))))
theorem comp42 : ∀ c, Tryd.f42.body = some c → comp c = cc42 := by
  intro c h
  have : c = Tryd.f42.body.get rfl := by rw [← Option.some_inj, ← h]; rfl
  rw [this]; rfl
theorem kmod (k : Int) : IntKind.i64.wrap (1 + (IntKind.i64.wrap (k.tmod 3 + 3)).tmod 3) = 1 + k % 3 := by
  have h : k.tmod 3 = k % 3 ∨ k.tmod 3 = k % 3 - 3 := by rw [Int.tmod_eq_emod]; split <;> simp
  have h1 : IntKind.i64.wrap (k.tmod 3 + 3) = k.tmod 3 + 3 := by rw [Ev.wrap64]; omega
  rw [h1, Int.tmod_eq_emod_of_nonneg (by omega), Ev.wrap64]; omega
theorem nmod (k : Int) : (IntKind.i64.wrap (k.tmod 7 + 7)).tmod 7 = k % 7 := by
  have h : k.tmod 7 = k % 7 ∨ k.tmod 7 = k % 7 - 7 := by rw [Int.tmod_eq_emod]; split <;> simp
  have h1 : IntKind.i64.wrap (k.tmod 7 + 7) = k.tmod 7 + 7 := by rw [Ev.wrap64]; omega
  rw [h1, Int.tmod_eq_emod_of_nonneg (by omega)]; omega
def fitSp (s : Sp) (n : Int) : Sp := if 1 + s.k % 3 = 2 then ⟨2, 0, fitS (s.t.extract 0 (min s.t.size 6))⟩ else ⟨1 + s.k % 3, min (s.n % 7) n, ⟨#[]⟩⟩
def fitStep (p : List Sp × Int) (s : Sp) : List Sp × Int := (p.1 ++ [fitSp s p.2], p.2 - (fitSp s p.2).n)
def fitP (l : List Sp) (n : Int) : List Sp × Int := l.foldl fitStep ([], n)
theorem fitP_succ (l : List Sp) (n : Int) {i : Nat} (h : i < l.length) : fitP (l.take (i + 1)) n = fitStep (fitP (l.take i) n) l[i] := by
  unfold fitP; rw [List.take_succ_eq_append_getElem h, List.foldl_append]; rfl
def fitO (l : List Sp) (n : Int) : List Sp := (fitP (l.take 12) n).1 ++ if 0 < (fitP (l.take 12) n).2 then [⟨1, (fitP (l.take 12) n).2, ⟨#[]⟩⟩] else []
theorem fitP_len (l : List Sp) : ∀ a, (l.foldl fitStep a).1.length = a.1.length + l.length := by
  induction l with
  | nil => simp
  | cons s l ih => intro a; rw [List.foldl_cons, ih]; simp [fitStep]; omega
theorem fitP_n (l : List Sp) : ∀ a : List Sp × Int, 0 ≤ a.2 → 0 ≤ (l.foldl fitStep a).2 ∧ (l.foldl fitStep a).2 ≤ a.2 := by
  induction l with
  | nil => intro a h; simp; omega
  | cons s l ih =>
    intro a h
    rw [List.foldl_cons]
    have h1 : 0 ≤ (fitStep a s).2 ∧ (fitStep a s).2 ≤ a.2 := by
      simp only [fitStep, fitSp]; split
      · simp; omega
      · simp only; omega
    obtain ⟨h2, h3⟩ := ih _ h1.1
    omega
theorem fit4_call (l : List Sp) (n : Int) (hn : 0 ≤ n ∧ n ≤ 2000000) : CallW env 42 [.lst 3 (sps l), .v (.int .i64 n)] (fun r hs => r = .lst 3 (sps (fitO l n)) ∧ hs = []) := by
  have hsl := sps_len l
  have hm := Ev.max_big
  refine Ev.func tabOK [0, 1, 4, 5, 6, 7, 16, 31, 67] 0 Tryd.func42 rfl rfl (by simp [Tryd.ntmps42]) (by rfl) (comp42 _ rfl) (rs := [.tmp 4]) rfl ?_; rw [cc42]; show Ev.Wp _ _ _ _ ⟨[(0, _), (1, _)], [], 0⟩
  repeat' (first | ((with_reducible first | refine Ev.sided ?_ ?_ | refine Ev.w_put ?_ | refine Ev.w_step ?_ | refine Ev.w_opt ?_); (conv => whnf)) | ((with_reducible refine Ev.chk_k ?_ ?_); rotate_left; (focus first | rfl | (simp only [Ev.nbeq, Bool.and_true, Bool.true_and, Bool.not_false]; done) | ((repeat' (first | exact Ev.nbeq _ | rfl | refine Bool.and_eq_true_iff.2 ⟨?_, ?_⟩)); done)); conv => whnf) | (with_reducible first | refine Ev.c_dec (fun _ => ?_) (fun _ => ?_) | refine Ev.c_not ?_ | refine Ev.c_t ?_ | refine Ev.c_f ?_ | refine Ev.c_br (fun _ => ?_) (fun _ => ?_)) | ((with_reducible refine Ev.br_not ?_); conv => whnf) | (with_reducible first | refine Ev.br_dec (fun _ => ?_) (fun _ => ?_) | refine Ev.br (fun _ => ?_) (fun _ => ?_) | refine Ev.eo_ret ?_ | refine Ev.eo_norm ?_ | refine Ev.t_norm ?_ | refine Ev.k_seq ?_) | ((with_reducible refine Ev.k_reg (hs := []) (tabOK' _ _) (fun Q hQ => ?_)); (simp only [Ev.runE_cons, Ev.runE_nil]); conv => whnf) | (with_reducible refine hQ _ ?_; clear hQ Q) | (with_reducible first | refine Ev.k_cond rfl ?_ | refine Ev.k_skip ?_ | refine Ev.k_block ?_ | refine Ev.k_exit ?_ | refine Ev.k_ret ?_ | refine Ev.t_ret ?_ | refine Ev.t_exit ?_ | refine Ev.b_norm ?_ | refine Ev.b_ret ?_ | refine Ev.b_here ?_ | refine Ev.b_off rfl ?_) | ((with_reducible first | refine Ev.e_ret (fun F hF => ?_) | refine Ev.e_norm (fun F hF => ?_) | refine Ev.eh_ret (fun F hF => ?_) | refine Ev.eh_norm (fun F hF => ?_) | refine Ev.go_k (fun c' => ?_) | refine Ev.byt_cut ?_ | refine Ev.byt_all ?_ | refine Ev.run_cut ?_ | refine Ev.run_all ?_); conv => whnf) | (with_reducible refine hF _ ?_; clear hF F) | (with_reducible refine Ev.u_step ?_) | ((refine Ev.k_draw (id := 7) (hs := []) (tabOK' _ _) (mixed' _ _) [0, 1, 2, 3, 4, 5, 6, 7, 8, 9, 10, 11, 12, 13, 14, 15] (by decide) rfl rfl (fun Q hQ => ?_)); (simp only [Ev.runE_cons, Ev.runE_nil]); conv => whnf) | ((refine Ev.el_map0 ?_ (fun hi => ?_)); rotate_left; conv => whnf) | ((refine Ev.el_mapN ?_ (fun hi => ?_)); rotate_left; conv => whnf) | (refine Ev.Side.of ?_; exact Nat.le_of_ble_eq_true rfl) | (refine Ev.Side.of ?_; omega) | (refine Ev.Side.of ?_; simp only [Ev.wrap64]; omega) | (refine Ev.app_one ?_ rfl ?_ (by decide) <;> (first | omega | (simp; done) | (simp; omega))) | (refine Ev.app_nil1 rfl (by decide)) | (refine Ev.app_ys ?_ ?_ ?_ (by decide) <;> (first | omega | exact sps_all _ | exact bts_all _ | exact ints_all _ | exact spss_all _ | (simp; done) | (simp; omega))) | (refine Ev.app_nil ?_ ?_ (by decide) <;> (first | omega | exact sps_all _ | exact bts_all _ | exact ints_all _ | exact spss_all _ | (simp; done) | (simp; omega))) | (refine Ev.Side.of ?_; first | omega | (simp; done) | (simp; omega)))
  refine Ev.loop (fun k s => ∃ (i v c : Nat), s = ⟨[(0, .lst 3 (sps l)), (1, .v (.int .i64 (fitP (l.take i) n).2)), (4, .v (.slice none 0 0)), (5, .own 512 v 0 i), (6, .v (.int .i64 i))], [(512, ⟨3, 35, v, 0, false, sps (fitP (l.take i) n).1⟩)], c⟩ ∧ k + i = 12 ∧ i ≤ l.length) ?_ ?_
  · (refine Ev.to _ ?hs1 ?hh1 ?hc1 ⟨12, 0, ?_, ?_, rfl, ?hp1⟩; (case hs1 | hh1 => ((repeat' (first | exact trivial | refine And.intro ?_ ?_)) <;> (refine Ev.slot_eq rfl ?_; first | with_reducible rfl | (refine Ev.int_eq ?_; first | omega | (simp only [Ev.wrap64, Ev.wrap8, Ev.wrap32, Int.toNat_natCast] at *; omega)) | ((first | refine Ev.int_eq ?_ | refine Ev.own_eq ?_ | refine Ev.blk_eq ?_ | skip); first | with_reducible rfl | omega | (rfl) | rfl) | (rfl) | rfl))); (case hc1 => exact Nat.le_refl _))
    exact ⟨rfl, by omega⟩
  rintro k s1 ⟨i, v, c, rfl, hk, hi'⟩
  have hlen : (fitP (l.take i) n).1.length = i := by unfold fitP; rw [fitP_len]; simp; omega
  have hsl2 := sps_len (fitP (l.take i) n).1
  obtain ⟨hn0, hn1⟩ : 0 ≤ (fitP (l.take i) n).2 ∧ (fitP (l.take i) n).2 ≤ n := fitP_n (l.take i) ([], n) hn.1
  repeat' (first | ((with_reducible first | refine Ev.sided ?_ ?_ | refine Ev.w_put ?_ | refine Ev.w_step ?_ | refine Ev.w_opt ?_); (conv => whnf)) | ((with_reducible refine Ev.chk_k ?_ ?_); rotate_left; (focus first | rfl | (simp only [Ev.nbeq, Bool.and_true, Bool.true_and, Bool.not_false]; done) | ((repeat' (first | exact Ev.nbeq _ | rfl | refine Bool.and_eq_true_iff.2 ⟨?_, ?_⟩)); done)); conv => whnf) | (with_reducible first | refine Ev.c_dec (fun _ => ?_) (fun _ => ?_) | refine Ev.c_not ?_ | refine Ev.c_t ?_ | refine Ev.c_f ?_ | refine Ev.c_br (fun _ => ?_) (fun _ => ?_)) | ((with_reducible refine Ev.br_not ?_); conv => whnf) | (with_reducible first | refine Ev.br_dec (fun _ => ?_) (fun _ => ?_) | refine Ev.br (fun _ => ?_) (fun _ => ?_) | refine Ev.eo_ret ?_ | refine Ev.eo_norm ?_ | refine Ev.t_norm ?_ | refine Ev.k_seq ?_) | ((with_reducible refine Ev.k_reg (hs := []) (tabOK' _ _) (fun Q hQ => ?_)); (simp only [Ev.runE_cons, Ev.runE_nil]); conv => whnf) | (with_reducible refine hQ _ ?_; clear hQ Q) | (with_reducible first | refine Ev.k_cond rfl ?_ | refine Ev.k_skip ?_ | refine Ev.k_block ?_ | refine Ev.k_exit ?_ | refine Ev.k_ret ?_ | refine Ev.t_ret ?_ | refine Ev.t_exit ?_ | refine Ev.b_norm ?_ | refine Ev.b_ret ?_ | refine Ev.b_here ?_ | refine Ev.b_off rfl ?_) | ((with_reducible first | refine Ev.e_ret (fun F hF => ?_) | refine Ev.e_norm (fun F hF => ?_) | refine Ev.eh_ret (fun F hF => ?_) | refine Ev.eh_norm (fun F hF => ?_) | refine Ev.go_k (fun c' => ?_) | refine Ev.byt_cut ?_ | refine Ev.byt_all ?_ | refine Ev.run_cut ?_ | refine Ev.run_all ?_); conv => whnf) | (with_reducible refine hF _ ?_; clear hF F) | (with_reducible refine Ev.u_step ?_) | ((refine Ev.call_det (fit_call _ (by rw [ByteArray.size_extract]; omega)) rfl rfl ?_); conv => whnf) | ((refine Ev.k_draw (id := 7) (hs := []) (tabOK' _ _) (mixed' _ _) [0, 1, 2, 3, 4, 5, 6, 7, 8, 9, 10, 11, 12, 13, 14, 15] (by decide) rfl rfl (fun Q hQ => ?_)); (simp only [Ev.runE_cons, Ev.runE_nil]); conv => whnf) | ((refine Ev.el_map0 ?_ (fun hi => ?_)); rotate_left; conv => whnf) | ((refine Ev.el_mapN ?_ (fun hi => ?_)); rotate_left; conv => whnf) | (refine Ev.Side.of ?_; exact Nat.le_of_ble_eq_true rfl) | (refine Ev.Side.of ?_; omega) | (refine Ev.Side.of ?_; simp only [Ev.wrap64]; omega) | (refine Ev.app_one ?_ rfl ?_ (by decide) <;> (first | omega | (simp; done) | (simp; omega))) | (refine Ev.app_nil1 rfl (by decide)) | (refine Ev.app_ys ?_ ?_ ?_ (by decide) <;> (first | omega | exact sps_all _ | exact bts_all _ | exact ints_all _ | exact spss_all _ | (simp; done) | (simp; omega))) | (refine Ev.app_nil ?_ ?_ (by decide) <;> (first | omega | exact sps_all _ | exact bts_all _ | exact ints_all _ | exact spss_all _ | (simp; done) | (simp; omega))) | (refine Ev.Side.of ?_; first | omega | (simp; done) | (simp; omega)))
  · rename_i hk2 _
    rw [kmod] at hk2
    have hs := fitP_succ l n hi
    have hf : fitSp l[i] (fitP (l.take i) n).2 = ⟨2, 0, fitS (l[i].t.extract 0 (min l[i].t.size 6))⟩ := if_pos hk2
    have hx : (min (l[i].t.size : Int) 6).toNat = min l[i].t.size 6 := by omega
    (refine Ev.again (k - 1) _ ?hm2 ?hs2 ?hh2 ?hc2 ⟨i + 1, ?_, ?_, rfl, ?hp2⟩; (case hs2 | hh2 => ((repeat' (first | exact trivial | refine And.intro ?_ ?_)) <;> (refine Ev.slot_eq rfl ?_; first | with_reducible rfl | (refine Ev.int_eq ?_; first | omega | (simp only [Ev.wrap64, Ev.wrap8, Ev.wrap32, Int.toNat_natCast] at *; omega)) | ((first | refine Ev.int_eq ?_ | refine Ev.own_eq ?_ | refine Ev.blk_eq ?_ | skip); first | with_reducible rfl | omega | (first | (simp; done) | (rw [hs]; simp [fitStep, hf, sps, spC, kmod, hk2, hx]; done)) | rfl) | (first | (simp; done) | (rw [hs]; simp [fitStep, hf, sps, spC, kmod, hk2, hx]; done)) | rfl))); (case hc2 => exact Nat.le_refl _); (case hm2 => omega))
    exact ⟨by omega, by omega⟩
  · rename_i hk2
    rw [kmod] at hk2
    have hs := fitP_succ l n hi
    have hf : fitSp l[i] (fitP (l.take i) n).2 = ⟨1 + l[i].k % 3, min (l[i].n % 7) (fitP (l.take i) n).2, ⟨#[]⟩⟩ := if_neg hk2
    have hw : IntKind.i64.wrap ((fitP (l.take i) n).2 - min (l[i].n % 7) (fitP (l.take i) n).2) = (fitP (l.take i) n).2 - min (l[i].n % 7) (fitP (l.take i) n).2 := by rw [Ev.wrap64]; omega
    (refine Ev.again (k - 1) _ ?hm3 ?hs3 ?hh3 ?hc3 ⟨i + 1, ?_, ?_, rfl, ?hp3⟩; (case hs3 | hh3 => ((repeat' (first | exact trivial | refine And.intro ?_ ?_)) <;> (refine Ev.slot_eq rfl ?_; first | with_reducible rfl | (refine Ev.int_eq ?_; first | omega | (simp only [Ev.wrap64, Ev.wrap8, Ev.wrap32, Int.toNat_natCast] at *; omega)) | ((first | refine Ev.int_eq ?_ | refine Ev.own_eq ?_ | refine Ev.blk_eq ?_ | skip); first | with_reducible rfl | omega | (first | (simp; done) | (rw [hs]; simp [fitStep, hf, sps, spC, kmod, nmod]; done) | (rw [hs, nmod]; simp only [fitStep, hf]; exact hw)) | rfl) | (first | (simp; done) | (rw [hs]; simp [fitStep, hf, sps, spC, kmod, nmod]; done) | (rw [hs, nmod]; simp only [fitStep, hf]; exact hw)) | rfl))); (case hc3 => exact Nat.le_refl _); (case hm3 => omega))
    exact ⟨by omega, by omega⟩
  all_goals
    have hT : l.take 12 = l.take i := by
      first
        | rw [show i = 12 by omega]
        | rw [List.take_of_length_le (by simp at *; omega), List.take_of_length_le (by simp at *; omega)]
    refine ⟨Ev.lst_eq (Ev.take_all ?_ ?_), rfl⟩
    · simp [hlen, sps_len]
    · simp [fitO, hT, sps, spC, *]
theorem wrap_add (a b : Int) : IntKind.i64.wrap (IntKind.i64.wrap a + b) = IntKind.i64.wrap (a + b) := by simp only [Ev.wrap64]; omega
theorem wrap_id {a : Int} (h : -9223372036854775808 ≤ a ∧ a < 9223372036854775808) : IntKind.i64.wrap a = a := by rw [Ev.wrap64]; omega
def sumI (f : Sp → Int) (l : List Sp) : Int := (l.map f).sum
theorem sumI_nil (f : Sp → Int) : sumI f [] = 0 := rfl
theorem sumI_cons (f : Sp → Int) (s : Sp) (l : List Sp) : sumI f (s :: l) = f s + sumI f l := by simp [sumI]
theorem sumI_app (f : Sp → Int) (a b : List Sp) : sumI f (a ++ b) = sumI f a + sumI f b := by simp [sumI]
theorem sumW_wrap (f : Sp → Int) : ∀ (l : List Sp) (a : Int), l.foldl (fun a s => IntKind.i64.wrap (a + f s)) (IntKind.i64.wrap a) = IntKind.i64.wrap (a + sumI f l)
  | [], a => by simp [sumI]
  | s :: l, a => by rw [List.foldl_cons, wrap_add, sumW_wrap f l, sumI_cons, Int.add_assoc]
theorem sumW_eq (f : Sp → Int) (l : List Sp) : sumW f l = IntKind.i64.wrap (sumI f l) := by
  have h := sumW_wrap f l 0
  rw [Int.zero_add] at h; rw [← h]; rfl
theorem sumI_bound (f : Sp → Int) (b : Int) : ∀ l : List Sp, (∀ s ∈ l, 0 ≤ f s ∧ f s ≤ b) → 0 ≤ sumI f l ∧ sumI f l ≤ b * l.length
  | [], _ => by simp [sumI]
  | s :: l, h => by
    have h1 := h s (by simp)
    have h2 := sumI_bound f b l (fun s hs => h s (by simp [hs]))
    rw [sumI_cons, List.length_cons]
    have : b * ((l.length + 1 : Nat) : Int) = b * l.length + b := by rw [Int.natCast_succ, Int.mul_add, Int.mul_one]
    omega
def inS (s : Sp) : Int := inF s.k s.n
def outS (s : Sp) : Int := outF s.k s.n s.t
theorem fitS_valid (t : ByteArray) : validD (fitS t).data.toList = true := fit_valid t
theorem fitSp_put {s : Sp} (n : Int) (h : 1 + s.k % 3 = 2) : fitSp s n = ⟨2, 0, fitS (s.t.extract 0 (min s.t.size 6))⟩ := if_pos h
theorem fitSp_not {s : Sp} (n : Int) (h : ¬ 1 + s.k % 3 = 2) : fitSp s n = ⟨1 + s.k % 3, min (s.n % 7) n, ⟨#[]⟩⟩ := if_neg h
theorem fitSp_may (s : Sp) {n : Int} (h : 0 ≤ n ∧ n ≤ 1048576) : mayS (fitSp s n) = 0 := by
  by_cases hk : 1 + s.k % 3 = 2
  · rw [fitSp_put n hk]; simp [mayS, mayF, fitS_valid]
  · rw [fitSp_not n hk]
    have : 1 + s.k % 3 = 1 ∨ 1 + s.k % 3 = 3 := by omega
    simp only [mayS, mayF, this, if_true]
    rw [if_neg (by omega)]
theorem fitSp_n (s : Sp) {n : Int} (h : 0 ≤ n) : 0 ≤ (fitSp s n).n ∧ (fitSp s n).n ≤ 6 ∧ (fitSp s n).n ≤ n ∧ inS (fitSp s n) = (fitSp s n).n := by
  by_cases hk : 1 + s.k % 3 = 2
  · rw [fitSp_put n hk]; simp [inS, inF]; omega
  · rw [fitSp_not n hk]
    have : 1 + s.k % 3 = 1 ∨ 1 + s.k % 3 = 3 := by omega
    simp only [inS, inF, this, if_true, and_true]; omega
theorem fitSp_t (s : Sp) (n : Int) : (fitSp s n).t.size ≤ 24 := by
  unfold fitSp; split
  · have h := enc_len (eight_fit (s.t.extract 0 (min s.t.size 6)) (s.t.extract 0 (min s.t.size 6)).size)
    rw [fitL_len, ← strI_list, len_list] at h
    have e : (s.t.extract 0 (min s.t.size 6)).size ≤ 6 := by rw [ByteArray.size_extract]; omega
    show (fitS _).size ≤ 24
    unfold fitS; omega
  · show (⟨#[]⟩ : ByteArray).size ≤ 24; decide
theorem fitP_all (l : List Sp) : ∀ a : List Sp × Int, (0 ≤ a.2 ∧ a.2 ≤ 1048576) → (∀ s ∈ a.1, mayS s = 0 ∧ s.t.size ≤ 24 ∧ 0 ≤ inS s ∧ inS s ≤ 6) →
    (∀ s ∈ (l.foldl fitStep a).1, mayS s = 0 ∧ s.t.size ≤ 24 ∧ 0 ≤ inS s ∧ inS s ≤ 6) ∧ sumI inS (l.foldl fitStep a).1 + (l.foldl fitStep a).2 = sumI inS a.1 + a.2 := by
  induction l with
  | nil => intro a _ h; exact ⟨h, rfl⟩
  | cons s l ih =>
    intro a ha h
    rw [List.foldl_cons]
    obtain ⟨b1, b2, b3, b4⟩ := fitSp_n s ha.1
    have key := ih (fitStep a s) (by simp only [fitStep]; omega) (by
      intro x hx
      simp only [fitStep, List.mem_append, List.mem_singleton] at hx
      rcases hx with hx | rfl
      · exact h x hx
      · exact ⟨fitSp_may s ha, fitSp_t s _, by omega, by omega⟩)
    refine ⟨key.1, ?_⟩
    rw [key.2]
    simp only [fitStep, sumI_app, sumI_cons, sumI_nil, b4]; omega
theorem fitO_all (l : List Sp) {n : Int} (hn : 0 ≤ n ∧ n ≤ 1048576) : (∀ s ∈ fitO l n, mayS s = 0 ∧ s.t.size ≤ 24 ∧ 0 ≤ inS s ∧ inS s ≤ 1048576) ∧ sumI inS (fitO l n) = n ∧ (fitO l n).length ≤ 13 := by
  obtain ⟨h1, h2⟩ := fitP_all (l.take 12) ([], n) hn (by simp)
  obtain ⟨h3, h4⟩ := fitP_n (l.take 12) ([], n) hn.1
  have h5 := fitP_len (l.take 12) ([], n)
  rw [show (l.take 12).foldl fitStep ([], n) = fitP (l.take 12) n from rfl] at h1 h2 h3 h4 h5
  rw [sumI_nil] at h2
  simp only at h2 h3 h4 h5
  unfold fitO
  refine ⟨?_, ?_, ?_⟩
  · intro s hs
    rw [List.mem_append] at hs
    rcases hs with hs | hs
    · obtain ⟨a, b, c, d⟩ := h1 s hs; exact ⟨a, b, c, by omega⟩
    · split at hs
      · simp only [List.mem_singleton] at hs; subst hs
        refine ⟨?_, ?_, ?_⟩
        · simp only [mayS, mayF, true_or, if_true]; rw [if_neg (by omega)]
        · show (⟨#[]⟩ : ByteArray).size ≤ 24; decide
        · simp only [inS, inF, true_or, if_true]; omega
      · simp at hs
  · rw [sumI_app]
    split
    · simp only [sumI_cons, sumI_nil, inS, inF, true_or, if_true]; omega
    · rw [sumI_nil]; omega
  · rw [List.length_append, h5]
    have : (l.take 12).length ≤ 12 := by rw [List.length_take]; omega
    split <;> simp <;> omega
theorem firstE_zero (f : Sp → Int) : ∀ l : List Sp, (∀ s ∈ l, f s = 0) → firstE f l = 0
  | [], _ => rfl
  | s :: l, h => by simp only [firstE]; rw [if_pos (h s (by simp))]; exact firstE_zero f l (fun x hx => h x (by simp [hx]))
theorem inW_eq (l : List Sp) : inW l = IntKind.i64.wrap (sumI inS l) := sumW_eq _ _
theorem outW_eq (l : List Sp) : outW l = IntKind.i64.wrap (sumI outS l) := sumW_eq _ _
theorem fitO_in (l : List Sp) {n : Int} (hn : 0 ≤ n ∧ n ≤ 1048576) : inW (fitO l n) = n := by
  rw [inW_eq, (fitO_all l hn).2.1]; exact wrap_id (by omega)
theorem fitO_may (l : List Sp) {n : Int} (hn : 0 ≤ n ∧ n ≤ 1048576) : opMayF (fitO l n) = 0 := by
  unfold opMayF
  rw [firstE_zero _ _ (fun s hs => ((fitO_all l hn).1 s hs).1), if_pos rfl, fitO_in l hn, if_neg (by omega)]
theorem fitO_small (l : List Sp) {n : Int} (hn : 0 ≤ n ∧ n ≤ 1048576) : Small (fitO l n) := fun s hs => by have := ((fitO_all l hn).1 s hs).2.1; omega
end Go.Proofs.YthdjbgbfboppcaaDoor.Abs

namespace Go.Proofs.YthdjbgbfboppcaaDoor.Abs
open Go Go.Lib
set_option linter.unusedSimpArgs false
set_option linter.unusedVariables false
theorem decodeN_pre {n n' b0 b1 b2 b3 c1 c2 c3 : Nat} (h1 : 1 < n → 1 < n' ∧ c1 = b1) (h2 : 2 < n → 2 < n' ∧ c2 = b2) (h3 : 3 < n → 3 < n' ∧ c3 = b3) (h : decodeN n b0 b1 b2 b3 ≠ (65533, 1)) : decodeN n' b0 c1 c2 c3 = decodeN n b0 b1 b2 b3 := by
  unfold decodeN at h ⊢
  by_cases a0 : b0 < 128
  · rw [if_pos a0, if_pos a0]
  rw [if_neg a0] at h ⊢
  rw [if_neg a0]
  by_cases a1 : b0 / 32 = 6 ∧ (1 < n ∧ b1 / 64 = 2)
  · obtain ⟨x, rfl⟩ := h1 a1.2.1
    rw [if_pos a1, if_pos ⟨a1.1, x, a1.2.2⟩]
  rw [if_neg a1] at h ⊢
  by_cases a2 : b0 / 16 = 14 ∧ (1 < n ∧ b1 / 64 = 2) ∧ (2 < n ∧ b2 / 64 = 2)
  · obtain ⟨x, rfl⟩ := h1 a2.2.1.1
    obtain ⟨y, rfl⟩ := h2 a2.2.2.1
    have a1' : ¬ (b0 / 32 = 6 ∧ (1 < n' ∧ c1 / 64 = 2)) := by omega
    rw [if_neg a1', if_pos a2, if_pos ⟨a2.1, ⟨x, a2.2.1.2⟩, y, a2.2.2.2⟩]
  rw [if_neg a2] at h ⊢
  by_cases a3 : b0 / 8 = 30 ∧ (1 < n ∧ b1 / 64 = 2) ∧ (2 < n ∧ b2 / 64 = 2) ∧ (3 < n ∧ b3 / 64 = 2)
  · obtain ⟨x, rfl⟩ := h1 a3.2.1.1
    obtain ⟨y, rfl⟩ := h2 a3.2.2.1.1
    obtain ⟨z, rfl⟩ := h3 a3.2.2.2.1
    have a1' : ¬ (b0 / 32 = 6 ∧ (1 < n' ∧ c1 / 64 = 2)) := by omega
    have a2' : ¬ (b0 / 16 = 14 ∧ (1 < n' ∧ c1 / 64 = 2) ∧ (2 < n' ∧ c2 / 64 = 2)) := by omega
    rw [if_neg a1', if_neg a2', if_pos a3, if_pos ⟨a3.1, ⟨x, a3.2.1.2⟩, ⟨y, a3.2.2.1.2⟩, z, a3.2.2.2.2⟩]
  rw [if_neg a3] at h
  exact absurd rfl h
theorem decode_app {a : List UInt8} (ha : a ≠ []) (h : decodeL a ≠ (65533, 1)) (b : List UInt8) : decodeL (a ++ b) = decodeL a := by
  have hp := List.length_pos_iff.2 ha
  rw [decodeL_N] at h ⊢
  rw [decodeL_N a]
  have g : ∀ i, i < a.length → ((a ++ b).getD i 0).toNat = (a.getD i 0).toNat := fun i hi => by
    simp only [List.getD_eq_getElem?_getD, List.getElem?_append_left hi]
  rw [g 0 hp]
  refine decodeN_pre (fun h1 => ?_) (fun h1 => ?_) (fun h1 => ?_) h
  · exact ⟨by rw [List.length_append]; omega, g 1 h1⟩
  · exact ⟨by rw [List.length_append]; omega, g 2 h1⟩
  · exact ⟨by rw [List.length_append]; omega, g 3 h1⟩
def ptsGo : Nat → List UInt8 → List Nat
  | 0, _ => []
  | n + 1, l => if l = [] then [] else (decodeL l).1 :: ptsGo n (l.drop (decodeL l).2)
def pts (l : List UInt8) : List Nat := ptsGo l.length l
theorem ptsGo_fuel : ∀ (n m : Nat) (l : List UInt8), l.length ≤ n → l.length ≤ m → ptsGo n l = ptsGo m l
  | 0, 0, l, _, _ => rfl
  | 0, m + 1, l, h, _ => by
    have : l = [] := List.length_eq_zero_iff.1 (by omega)
    subst this; simp [ptsGo]
  | n + 1, 0, l, _, h => by
    have : l = [] := List.length_eq_zero_iff.1 (by omega)
    subst this; simp [ptsGo]
  | n + 1, m + 1, l, h1, h2 => by
    simp only [ptsGo]
    by_cases he : l = []
    · rw [if_pos he, if_pos he]
    · rw [if_neg he, if_neg he]
      have := decodeL_width l
      rw [ptsGo_fuel n m _ (by rw [List.length_drop]; omega) (by rw [List.length_drop]; omega)]
theorem pts_nil : pts [] = [] := rfl
theorem pts_step {l : List UInt8} (h : l ≠ []) : pts l = (decodeL l).1 :: pts (l.drop (decodeL l).2) := by
  unfold pts
  obtain ⟨n, hn⟩ : ∃ n, l.length = n + 1 := ⟨l.length - 1, by have := List.length_pos_iff.2 h; omega⟩
  rw [hn, ptsGo, if_neg h]
  have := decodeL_width l
  rw [ptsGo_fuel n _ _ (by rw [List.length_drop]; omega) (Nat.le_refl _)]
theorem text_ind {P : List UInt8 → Prop} (h0 : P []) (h1 : ∀ l, l ≠ [] → validD l = true → decodeL l ≠ (65533, 1) → validD (l.drop (decodeL l).2) = true → P (l.drop (decodeL l).2) → P l) : ∀ l, validD l = true → P l := by
  have key : ∀ n (l : List UInt8), l.length ≤ n → validD l = true → P l := by
    intro n
    induction n with
    | zero => intro l hl _; have : l = [] := List.length_eq_zero_iff.1 (by omega); subst this; exact h0
    | succ n ih =>
      intro l hl hv
      by_cases he : l = []
      · subst he; exact h0
      · have hs := hv
        rw [validD_step he] at hs
        by_cases hd : decodeL l = (65533, 1)
        · rw [if_pos hd] at hs; cases hs
        · rw [if_neg hd] at hs
          have hw := decodeL_width l
          have hp := List.length_pos_iff.2 he
          exact h1 l he hv hd hs (ih _ (by rw [List.length_drop]; omega) hs)
  intro l; exact key l.length l (Nat.le_refl _)
theorem drop_app {l : List UInt8} (he : l ≠ []) (b : List UInt8) : (l ++ b).drop (decodeL l).2 = l.drop (decodeL l).2 ++ b := by
  rw [List.drop_append_of_le_length (decodeL_le l he)]
theorem valid_app : ∀ a, validD a = true → ∀ b, validD (a ++ b) = validD b := by
  refine text_ind (fun b => rfl) (fun l he hv hd hs ih b => ?_)
  have hne : l ++ b ≠ [] := by simp [he]
  rw [validD_step hne, decode_app he hd, if_neg hd, drop_app he, ih]
theorem pts_app : ∀ a, validD a = true → ∀ b, pts (a ++ b) = pts a ++ pts b := by
  refine text_ind (fun b => by simp [pts_nil]) (fun l he hv hd hs ih b => ?_)
  have hne : l ++ b ≠ [] := by simp [he]
  rw [pts_step hne, decode_app he hd, drop_app he, ih, pts_step he, List.cons_append]
theorem posD_pts : ∀ (l : List UInt8) (a : Int), (posD l a).length = (pts l).length := by
  have key : ∀ n (l : List UInt8) (a : Int), l.length ≤ n → (posD l a).length = (pts l).length := by
    intro n
    induction n with
    | zero => intro l a hl; have : l = [] := List.length_eq_zero_iff.1 (by omega); subst this; rfl
    | succ n ih =>
      intro l a hl
      by_cases he : l = []
      · subst he; rfl
      · have hw := decodeL_width l
        have hp := List.length_pos_iff.2 he
        rw [posD_step he, pts_step he, List.length_cons, List.length_cons, ih _ _ (by rw [List.length_drop]; omega)]
  intro l a; exact key l.length l a (Nat.le_refl _)
theorem countD_pts {l : List UInt8} (h : validD l = true) : countD l = (pts l).length := by
  unfold countD; rw [if_pos h, posD_pts]
theorem countD_app {a b : List UInt8} (ha : validD a = true) (hb : validD b = true) : countD (a ++ b) = countD a + countD b := by
  rw [countD_pts ha, countD_pts hb, countD_pts (by rw [valid_app a ha, hb]), pts_app a ha, List.length_append]; rfl
theorem pts_len (l : List UInt8) : (pts l).length ≤ l.length := by rw [← posD_pts l 0]; exact posD_len l 0
theorem str_app (a b : ByteArray) : (a ++ b).data.toList = a.data.toList ++ b.data.toList := app_list a b
theorem str_nil {t : ByteArray} : t = ⟨#[]⟩ ↔ t.data.toList = [] := by
  constructor
  · rintro rfl; rfl
  · intro h; cases t with | mk d => simp at h; subst h; rfl
end Go.Proofs.YthdjbgbfboppcaaDoor.Abs

namespace Go.Proofs.YthdjbgbfboppcaaDoor.Abs
open Go
set_option linter.unusedSimpArgs false
set_option linter.unusedVariables false
def putG : Nat → Nat → List UInt8
  | 0, n => [UInt8.ofNat n]
  | f + 1, n => if n < 128 then [UInt8.ofNat n] else UInt8.ofNat (128 + n % 128) :: putG f (n / 128)
def putN (n : Nat) : List UInt8 := putG 4 n
def takeG : Nat → Nat → List UInt8 → Int × Int × Int
  | i, _, [] => if 4 ≤ i then (0, 0, 8) else (0, 0, 7)
  | i, acc, c :: l => if i = 4 then (0, 0, 8) else if 128 ≤ c.toNat then takeG (i + 1) (acc + (c.toNat - 128) * 128 ^ i) l else if c.toNat = 0 ∧ 0 < i then (0, 0, 8) else (((acc + c.toNat * 128 ^ i : Nat) : Int), ((i + 1 : Nat) : Int), 0)
def takeN (b : List UInt8) : Int × Int × Int := takeG 0 0 b
theorem ofNat_toNat {n : Nat} (h : n < 256) : (UInt8.ofNat n).toNat = n := by rw [UInt8.toNat_ofNat']; omega
theorem putG_len : ∀ (f n : Nat), 1 ≤ (putG f n).length ∧ (putG f n).length ≤ f + 1
  | 0, n => by simp [putG]
  | f + 1, n => by
    simp only [putG]; split
    · simp
    · have := putG_len f (n / 128); simp; omega
theorem take_putG : ∀ (f i n acc : Nat) (rest : List UInt8), n < 128 ^ (f + 1) → i + f + 1 ≤ 4 → (0 < i → 0 < n) → takeG i acc (putG f n ++ rest) = (((acc + n * 128 ^ i : Nat) : Int), ((i + (putG f n).length : Nat) : Int), 0)
  | 0, i, n, acc, rest, h, hi, hn => by
    simp only [putG, List.cons_append, List.nil_append, takeG, List.length_cons, List.length_nil]
    simp at h
    rw [ofNat_toNat (by omega), if_neg (by omega), if_neg (by omega), if_neg (by omega)]
  | f + 1, i, n, acc, rest, h, hi, hn => by
    simp only [putG]
    split
    · rename_i h1
      simp only [List.cons_append, List.nil_append, takeG, List.length_cons, List.length_nil]
      rw [ofNat_toNat (by omega), if_neg (by omega), if_neg (by omega), if_neg (by omega)]
    · rename_i h1
      simp only [List.cons_append, takeG, List.length_cons]
      rw [ofNat_toNat (by omega), if_neg (by omega), if_pos (by omega)]
      have h2 : n / 128 < 128 ^ (f + 1) := by rw [Nat.pow_succ] at h; exact (Nat.div_lt_iff_lt_mul (by decide)).2 h
      rw [take_putG f (i + 1) (n / 128) _ rest h2 (by omega) (fun _ => by omega)]
      have e : acc + (128 + n % 128 - 128) * 128 ^ i + n / 128 * 128 ^ (i + 1) = acc + n * 128 ^ i := by
        rw [Nat.pow_succ, Nat.add_sub_cancel_left, Nat.add_assoc, Nat.mul_comm (128 ^ i) 128, ← Nat.mul_assoc, ← Nat.add_mul]
        congr 2; omega
      rw [e]
      congr 2; congr 1; omega
theorem take_put {n : Nat} (h : n < 268435456) (rest : List UInt8) : takeN (putN n ++ rest) = ((n : Int), ((putN n).length : Int), 0) := by
  have e : putN n = putG 3 n := by
    unfold putN
    have : ∀ n, n < 268435456 → putG 4 n = putG 3 n := by
      intro n h
      simp only [putG]
      repeat' (split <;> try rfl)
      all_goals first | rfl | (exfalso; omega)
    exact this n h
  rw [e]
  unfold takeN
  rw [take_putG 3 0 n 0 rest (by simpa using h) (by omega) (by omega)]
  simp
theorem putN_len {n : Nat} (h : n < 268435456) : 1 ≤ (putN n).length ∧ (putN n).length ≤ 4 := by
  unfold putN
  simp only [putG]
  repeat' split
  all_goals first | (simp; done) | (exfalso; omega)
theorem takeG_inv : ∀ (l : List UInt8) (i acc : Nat) (n k : Int), takeG i acc l = (n, k, 0) → i ≤ 4 → ∃ (m j : Nat), l.take j = putG (3 - i) m ∧ j ≤ l.length ∧ 1 ≤ j ∧ i + j ≤ 4 ∧ k = ((i + j : Nat) : Int) ∧ n = ((acc + m * 128 ^ i : Nat) : Int) ∧ m < 128 ^ (4 - i) ∧ (0 < i → 0 < m)
  | [], i, acc, n, k, h, hi => by simp only [takeG] at h; split at h <;> simp at h
  | c :: l, i, acc, n, k, h, hi => by
    simp only [takeG] at h
    have hc := c.toNat_lt
    split at h
    · simp at h
    · rename_i h4
      split at h
      · rename_i h8
        obtain ⟨m, j, a1, a2, a3, a4, a5, a6, a7, a8⟩ := takeG_inv l (i + 1) _ n k h (by omega)
        have h3 : i < 3 := by omega
        refine ⟨(c.toNat - 128) + m * 128, j + 1, ?_, by simp; omega, by omega, by omega, by rw [a5]; congr 1; omega, ?_, ?_, fun _ => by have := a8 (by omega); omega⟩
        · rw [List.take_succ_cons, a1, show 3 - i = (3 - (i + 1)) + 1 by omega]
          simp only [putG]
          have hm := a8 (by omega)
          rw [if_neg (by omega)]
          have e1 : 128 + (c.toNat - 128 + m * 128) % 128 = c.toNat := by omega
          have e2 : (c.toNat - 128 + m * 128) / 128 = m := by omega
          rw [e1, e2]; simp
        · rw [a6, Nat.pow_succ, Nat.add_mul, Nat.add_assoc]
          congr 2
          rw [Nat.mul_comm (128 ^ i) 128, ← Nat.mul_assoc]
        · rw [show 4 - i = (4 - (i + 1)) + 1 by omega, Nat.pow_succ]
          generalize 128 ^ (4 - (i + 1)) = X at *
          have := c.toNat_lt
          omega
      · rename_i h8
        split at h
        · simp at h
        · rename_i h0
          simp only [Prod.mk.injEq] at h
          obtain ⟨rfl, rfl, _⟩ := h
          refine ⟨c.toNat, 1, ?_, by simp, Nat.le_refl _, by omega, rfl, rfl, ?_, fun _ => by omega⟩
          · rw [List.take_succ_cons, List.take_zero]
            cases hq : 3 - i with
            | zero => simp [putG]
            | succ q => simp only [putG]; rw [if_pos (by omega)]; simp
          · have : 128 ≤ 128 ^ (4 - i) := by
              rw [show 4 - i = (3 - i) + 1 by omega, Nat.pow_succ]
              have : 0 < 128 ^ (3 - i) := Nat.pow_pos (by decide)
              omega
            omega
theorem put_take {b : List UInt8} {n k : Int} (h : takeN b = (n, k, 0)) : 0 ≤ n ∧ n < 268435456 ∧ 1 ≤ k ∧ k ≤ 4 ∧ k ≤ b.length ∧ b.take k.toNat = putN n.toNat ∧ (putN n.toNat).length = k := by
  obtain ⟨m, j, a1, a2, a3, a4, a5, a6, a7, a8⟩ := takeG_inv b 0 0 n k h (by omega)
  simp only [Nat.pow_zero, Nat.mul_one, Nat.zero_add, Nat.sub_zero] at *
  have e : putG 4 m = putG 3 m := by
    have hm : m < 268435456 := by simpa using a7
    simp only [putG]
    repeat' (split <;> try rfl)
    all_goals first | rfl | (exfalso; omega)
  have hm : m < 268435456 := by simpa using a7
  subst a6; subst a5
  have e2 : b.take j = putN m := by rw [a1]; unfold putN; exact e.symm
  refine ⟨by omega, by omega, by omega, by omega, by omega, ?_, ?_⟩
  · simp only [Int.toNat_natCast]; exact e2
  · simp only [Int.toNat_natCast]; rw [← e2, List.length_take]; omega
theorem takeG_bad : ∀ (l : List UInt8) (i acc : Nat), (∃ n k, takeG i acc l = (n, k, 0)) ∨ takeG i acc l = (0, 0, 7) ∨ takeG i acc l = (0, 0, 8)
  | [], i, acc => by simp only [takeG]; split <;> simp
  | c :: l, i, acc => by
    simp only [takeG]
    split
    · simp
    · split
      · exact takeG_bad l _ _
      · split
        · simp
        · exact .inl ⟨_, _, rfl⟩
theorem takeN_bad (b : List UInt8) : (∃ n k, takeN b = (n, k, 0)) ∨ takeN b = (0, 0, 7) ∨ takeN b = (0, 0, 8) := takeG_bad b 0 0
theorem takeG_pre : ∀ (f i n acc j : Nat), n < 128 ^ (f + 1) → i + f + 1 ≤ 4 → j < (putG f n).length → takeG i acc ((putG f n).take j) = (0, 0, 7)
  | f, i, n, acc, 0, h, hi, hj => by rw [List.take_zero]; simp only [takeG]; rw [if_neg (by omega)]
  | 0, i, n, acc, j + 1, h, hi, hj => by simp [putG] at hj
  | f + 1, i, n, acc, j + 1, h, hi, hj => by
    simp only [putG] at hj ⊢
    split
    · rename_i h1; rw [if_pos h1] at hj; simp at hj
    · rename_i h1
      rw [if_neg h1] at hj
      simp only [List.take_succ_cons, takeG]
      rw [ofNat_toNat (by omega), if_neg (by omega), if_pos (by omega)]
      exact takeG_pre f (i + 1) (n / 128) _ j (by rw [Nat.pow_succ] at h; exact (Nat.div_lt_iff_lt_mul (by decide)).2 h) (by omega) (by simpa using hj)
theorem take_pre {n j : Nat} (h : n < 268435456) (hj : j < (putN n).length) : takeN ((putN n).take j) = (0, 0, 7) := by
  have e : putN n = putG 3 n := by
    unfold putN
    simp only [putG]
    repeat' (split <;> try rfl)
    all_goals first | rfl | (exfalso; omega)
  rw [e] at hj ⊢
  exact takeG_pre 3 0 n 0 j (by simpa using h) (by omega) hj
end Go.Proofs.YthdjbgbfboppcaaDoor.Abs

namespace Go.Proofs.YthdjbgbfboppcaaDoor.Abs
open Go Go.Lib
set_option linter.unusedSimpArgs false
set_option linter.unusedVariables false
def emptyS (s : Sp) : Bool := decide (s.n = 0) && decide (s.t = ⟨#[]⟩)
def isNG (p : Option Int) : List Sp → Bool
  | [] => true
  | s :: l => !emptyS s && !decide (p = some s.k) && isNG (some s.k) l
def isN (l : List Sp) : Bool := isNG none l
def mrg (a b : Sp) : Sp := ⟨a.k, IntKind.i64.wrap (a.n + b.n), a.t ++ b.t⟩
def normC (cur : Sp) : List Sp → List Sp
  | [] => [cur]
  | s :: l => if emptyS s then normC cur l else if s.k = cur.k then normC (mrg cur s) l else cur :: normC s l
def norm : List Sp → List Sp
  | [] => []
  | s :: l => if emptyS s then norm l else normC s l
def SpOK (s : Sp) : Prop := mayS s = 0
theorem SpOK.cases {s : Sp} (h : SpOK s) : ((s.k = 1 ∨ s.k = 3) ∧ 0 ≤ s.n ∧ s.n ≤ 1048576 ∧ s.t = ⟨#[]⟩) ∨ (s.k = 2 ∧ s.n = 0 ∧ validD s.t.data.toList = true) := by
  unfold SpOK mayS mayF at h
  by_cases h1 : s.k = 1 ∨ s.k = 3
  · rw [if_pos h1] at h
    by_cases h2 : s.n < 0 ∨ 1048576 < s.n
    · rw [if_pos h2] at h; exact absurd h (by decide)
    · rw [if_neg h2] at h
      by_cases h3 : s.t = ⟨#[]⟩
      · exact .inl ⟨h1, by omega, by omega, h3⟩
      · rw [if_neg h3] at h; exact absurd h (by decide)
  · rw [if_neg h1] at h
    by_cases h2 : s.k = 2
    · rw [if_pos h2] at h
      by_cases h3 : s.n ≠ 0
      · rw [if_pos h3] at h; exact absurd h (by decide)
      · rw [if_neg h3] at h
        cases hv : validD s.t.data.toList with
        | true => exact .inr ⟨h2, by omega, rfl⟩
        | false => rw [hv] at h; exact absurd h (by decide)
    · rw [if_neg h2] at h; exact absurd h (by decide)
theorem SpOK.keep {s : Sp} (h1 : s.k = 1 ∨ s.k = 3) (h2 : 0 ≤ s.n ∧ s.n ≤ 1048576) (h3 : s.t = ⟨#[]⟩) : SpOK s := by
  unfold SpOK mayS mayF; rw [if_pos h1, if_neg (by omega), if_pos h3]
theorem SpOK.put {s : Sp} (h1 : s.k = 2) (h2 : s.n = 0) (h3 : validD s.t.data.toList = true) : SpOK s := by
  unfold SpOK mayS mayF; rw [if_neg (by omega), if_pos h1, if_neg (by omega), if_pos h3]
theorem opMay_iff (l : List Sp) : opMayF l = 0 ↔ (∀ s ∈ l, SpOK s) ∧ inW l ≤ 1048576 := by
  have h : firstE mayS l = 0 ↔ ∀ s ∈ l, SpOK s := by
    induction l with
    | nil => simp [firstE]
    | cons s l ih =>
      simp only [firstE, List.mem_cons, forall_eq_or_imp]
      by_cases h : mayS s = 0
      · rw [if_pos h, ih]; exact ⟨fun a => ⟨h, a⟩, fun a => a.2⟩
      · rw [if_neg h]; exact ⟨fun a => absurd a h, fun a => absurd a.1 h⟩
  unfold opMayF
  by_cases h0 : firstE mayS l = 0
  · rw [if_pos h0]
    by_cases h1 : 1048576 < inW l
    · rw [if_pos h1]; exact ⟨fun a => absurd a (by decide), fun a => by omega⟩
    · rw [if_neg h1]; exact ⟨fun _ => ⟨h.1 h0, by omega⟩, fun _ => rfl⟩
  · rw [if_neg h0]; exact ⟨fun a => absurd a h0, fun a => absurd (h.2 a.1) h0⟩
theorem SpOK.inS {s : Sp} (h : SpOK s) : 0 ≤ inS s ∧ inS s ≤ 1048576 := by
  unfold Abs.inS inF
  rcases h.cases with ⟨a, b, c, _⟩ | ⟨a, b, _⟩
  · rw [if_pos a]; exact ⟨b, c⟩
  · rw [if_neg (by omega)]; omega
theorem inW_sum {l : List Sp} (h : ∀ s ∈ l, SpOK s) (hl : l.length ≤ 1000000000) : inW l = sumI inS l := by
  rw [inW_eq]
  have := sumI_bound inS 1048576 l (fun s hs => (h s hs).inS)
  exact wrap_id (by omega)
theorem empty_iff {s : Sp} : emptyS s = true ↔ s.n = 0 ∧ s.t = ⟨#[]⟩ := by simp [emptyS]
theorem empty_in {s : Sp} (h : emptyS s = true) : inS s = 0 ∧ outS s = 0 := by
  obtain ⟨h1, h2⟩ := empty_iff.1 h
  unfold inS outS inF outF
  rw [h1, h2]
  refine ⟨by split <;> rfl, ?_⟩
  split
  · rfl
  · split
    · rfl
    · rfl
def tbs (l : List Sp) : Nat := (l.map fun s => s.t.size).sum
theorem tbs_cons (s : Sp) (l : List Sp) : tbs (s :: l) = s.t.size + tbs l := by simp [tbs]
theorem empty_tbs {s : Sp} (h : emptyS s = true) : s.t.size = 0 := by rw [(empty_iff.1 h).2]; rfl
theorem size_app (a b : ByteArray) : (a ++ b).size = a.size + b.size := by rw [← len_list, ← len_list, ← len_list, str_app, List.length_append]
theorem mrg_ok {a b : Sp} (ha : SpOK a) (hb : SpOK b) (hk : b.k = a.k) (hs : inS a + inS b ≤ 1048576) : SpOK (mrg a b) ∧ inS (mrg a b) = inS a + inS b ∧ outS (mrg a b) = outS a + outS b ∧ (mrg a b).t.size = a.t.size + b.t.size ∧ (mrg a b).n = a.n + b.n := by
  rcases ha.cases with ⟨a1, a2, a3, a4⟩ | ⟨a1, a2, a3⟩
  · rcases hb.cases with ⟨b1, b2, b3, b4⟩ | ⟨b1, b2, b3⟩
    · have e1 : inS a = a.n := by unfold inS inF; rw [if_pos a1]
      have e2 : inS b = b.n := by unfold inS inF; rw [if_pos b1]
      rw [e1, e2] at hs ⊢
      have ew : IntKind.i64.wrap (a.n + b.n) = a.n + b.n := wrap_id (by omega)
      have hm : mrg a b = ⟨a.k, a.n + b.n, ⟨#[]⟩⟩ := by
        unfold mrg; rw [ew, a4, b4]; rfl
      rw [hm]
      refine ⟨SpOK.keep a1 (by simp only; omega) rfl, ?_, ?_, ?_, rfl⟩
      · unfold inS inF; simp only; rw [if_pos a1]
      · unfold outS outF; simp only; rw [hk]
        by_cases h1 : a.k = 1
        · rw [if_pos h1, if_pos h1, if_pos h1]
        · rw [if_neg h1, if_neg h1, if_neg h1, if_neg (by omega), if_neg (by omega), if_neg (by omega)]; rfl
      · rw [a4, b4]; rfl
    · omega
  · rcases hb.cases with ⟨b1, b2, b3, b4⟩ | ⟨b1, b2, b3⟩
    · omega
    · have ew : IntKind.i64.wrap (a.n + b.n) = 0 := by rw [a2, b2]; rfl
      have hm : mrg a b = ⟨a.k, 0, a.t ++ b.t⟩ := by unfold mrg; rw [ew]
      rw [hm]
      have hv : validD (a.t ++ b.t).data.toList = true := by rw [str_app, valid_app _ a3, b3]
      refine ⟨SpOK.put a1 rfl hv, ?_, ?_, size_app _ _, by simp only; omega⟩
      · unfold inS inF; simp only; rw [hk, a1]; rfl
      · unfold outS outF; simp only; rw [hk, a1]
        simp only [show ¬ ((2 : Int) = 1) by decide, if_false, if_true]
        rw [str_app, countD_app a3 b3]
        have := countD_pts a3; have := countD_pts b3
        omega
theorem normC_all : ∀ (l : List Sp) (cur : Sp), SpOK cur → (∀ s ∈ l, SpOK s) → inS cur + sumI inS l ≤ 1048576 →
    (∀ s ∈ normC cur l, SpOK s) ∧ sumI inS (normC cur l) = inS cur + sumI inS l ∧ sumI outS (normC cur l) = outS cur + sumI outS l ∧ tbs (normC cur l) = cur.t.size + tbs l ∧ (normC cur l).length ≤ l.length + 1
  | [], cur, hc, hl, hs => by
    refine ⟨fun s h => ?_, by simp [normC, sumI], by simp [normC, sumI], by simp [normC, tbs], by simp [normC]⟩
    simp [normC] at h; subst h; exact hc
  | s :: l, cur, hc, hl, hs => by
    have h1 := hl s (by simp)
    have h2 : ∀ x ∈ l, SpOK x := fun x hx => hl x (by simp [hx])
    have h3 : 0 ≤ sumI inS l := (sumI_bound inS 1048576 l (fun x hx => (h2 x hx).inS)).1
    have h4 := h1.inS; have h5 := hc.inS
    rw [sumI_cons] at hs
    simp only [normC, sumI_cons, tbs_cons, List.length_cons]
    by_cases he : emptyS s = true
    · rw [if_pos he]
      obtain ⟨e1, e2⟩ := empty_in he
      have e3 := empty_tbs he
      obtain ⟨a, b, c, d, f⟩ := normC_all l cur hc h2 (by omega)
      exact ⟨a, by omega, by omega, by omega, by omega⟩
    · rw [if_neg he]
      by_cases hk : s.k = cur.k
      · rw [if_pos hk]
        obtain ⟨m1, m2, m3, m4, _⟩ := mrg_ok hc h1 hk (by omega)
        obtain ⟨a, b, c, d, f⟩ := normC_all l (mrg cur s) m1 h2 (by omega)
        exact ⟨a, by omega, by omega, by omega, by omega⟩
      · rw [if_neg hk]
        obtain ⟨a, b, c, d, f⟩ := normC_all l s h1 h2 (by omega)
        refine ⟨fun x hx => ?_, by rw [sumI_cons]; omega, by rw [sumI_cons]; omega, by rw [tbs_cons]; omega, by rw [List.length_cons]; omega⟩
        rcases List.mem_cons.1 hx with rfl | hx
        · exact hc
        · exact a x hx
theorem norm_all : ∀ (l : List Sp), (∀ s ∈ l, SpOK s) → sumI inS l ≤ 1048576 →
    (∀ s ∈ norm l, SpOK s) ∧ sumI inS (norm l) = sumI inS l ∧ sumI outS (norm l) = sumI outS l ∧ tbs (norm l) = tbs l ∧ (norm l).length ≤ l.length
  | [], hl, hs => by simp [norm]
  | s :: l, hl, hs => by
    have h1 := hl s (by simp)
    have h2 : ∀ x ∈ l, SpOK x := fun x hx => hl x (by simp [hx])
    rw [sumI_cons] at hs
    simp only [norm, sumI_cons, tbs_cons, List.length_cons]
    by_cases he : emptyS s = true
    · rw [if_pos he]
      obtain ⟨e1, e2⟩ := empty_in he
      have e3 := empty_tbs he
      obtain ⟨a, b, c, d, f⟩ := norm_all l h2 (by omega)
      exact ⟨a, by omega, by omega, by omega, by omega⟩
    · rw [if_neg he]
      exact normC_all l s h1 h2 hs
theorem normC_isN : ∀ (l : List Sp) (cur : Sp) (p : Option Int), emptyS cur = false → SpOK cur → (∀ s ∈ l, SpOK s) → inS cur + sumI inS l ≤ 1048576 → p ≠ some cur.k → isNG p (normC cur l) = true
  | [], cur, p, hc, _, _, _, hp => by simp [normC, isNG, hc, hp]
  | s :: l, cur, p, hc, ho, hl, hs, hp => by
    have h1 := hl s (by simp)
    have h2 : ∀ x ∈ l, SpOK x := fun x hx => hl x (by simp [hx])
    have h3 : 0 ≤ sumI inS l := (sumI_bound inS 1048576 l (fun x hx => (h2 x hx).inS)).1
    have h4 := h1.inS; have h5 := ho.inS
    rw [sumI_cons] at hs
    simp only [normC]
    by_cases he : emptyS s = true
    · rw [if_pos he]
      exact normC_isN l cur p hc ho h2 (by have := (empty_in he).1; omega) hp
    · rw [if_neg he]
      by_cases hk : s.k = cur.k
      · rw [if_pos hk]
        obtain ⟨m1, m2, m3, m4, m5⟩ := mrg_ok ho h1 hk (by omega)
        refine normC_isN l (mrg cur s) p ?_ m1 h2 (by omega) hp
        rw [Bool.eq_false_iff]
        intro hb
        obtain ⟨b1, b2⟩ := empty_iff.1 hb
        rw [b2] at m4
        have : cur.t.size = 0 := by have : (⟨#[]⟩ : ByteArray).size = 0 := rfl; omega
        have hct : cur.t = ⟨#[]⟩ := str_nil.2 (List.length_eq_zero_iff.1 (by rw [len_list]; exact this))
        have hn : cur.n ≠ 0 := fun hn => by rw [← Bool.not_eq_true] at hc; exact hc (empty_iff.2 ⟨hn, hct⟩)
        rcases ho.cases with ⟨_, x, _⟩ | ⟨_, x, _⟩ <;> rcases h1.cases with ⟨_, y, _⟩ | ⟨_, y, _⟩ <;> omega
      · rw [if_neg hk]
        simp only [isNG, hc, Bool.not_false, Bool.true_and, Bool.and_eq_true]
        refine ⟨by simp [hp], ?_⟩
        exact normC_isN l s (some cur.k) (by simpa using he) h1 h2 (by omega) (by intro e; exact hk (Option.some.inj e).symm)
theorem norm_isN : ∀ (l : List Sp), (∀ s ∈ l, SpOK s) → sumI inS l ≤ 1048576 → isN (norm l) = true
  | [], _, _ => rfl
  | s :: l, hl, hs => by
    have h1 := hl s (by simp)
    have h2 : ∀ x ∈ l, SpOK x := fun x hx => hl x (by simp [hx])
    rw [sumI_cons] at hs
    simp only [norm]
    by_cases he : emptyS s = true
    · rw [if_pos he]; exact norm_isN l h2 (by have := (empty_in he).1; omega)
    · rw [if_neg he]; exact normC_isN l s none (by simpa using he) h1 h2 hs (by simp)
theorem norm_may {l : List Sp} (h : opMayF l = 0) (hl : l.length ≤ 1000000000) : opMayF (norm l) = 0 := by
  obtain ⟨h1, h2⟩ := (opMay_iff l).1 h
  rw [inW_sum h1 hl] at h2
  obtain ⟨a, b, c, d, f⟩ := norm_all l h1 h2
  refine (opMay_iff _).2 ⟨a, ?_⟩
  rw [inW_sum a (by omega)]; omega
end Go.Proofs.YthdjbgbfboppcaaDoor.Abs

namespace Go.Proofs.YthdjbgbfboppcaaDoor.Abs
open Go Go.Lib
set_option linter.unusedSimpArgs false
set_option linter.unusedVariables false
def encSp (s : Sp) : List UInt8 := putN ((s.n + s.t.size) * 4 + s.k).toNat ++ s.t.data.toList
def encW (l : List Sp) : List UInt8 := putN l.length ++ l.flatMap encSp
def bigT (l : List Sp) : Bool := l.any fun s => decide (65536 < s.t.size)
def wPutE (l : List Sp) : Int := if opMayF l = 0 then (if isN l then (if 65536 < l.length then 2 else if bigT l then 2 else 0) else 8) else opMayF l
def wPutB (l : List Sp) : List UInt8 := if wPutE l = 0 then encW l else []
def mostOf (k : Int) : Int := if k = 2 then 65536 else 1048576
theorem most2 : mostOf 2 = 65536 := rfl
theorem mostN {k : Int} (h : k ≠ 2) : mostOf k = 1048576 := if_neg h
def takeOne2 (was head : Int) (l1 : List UInt8) : Except Int (Sp × List UInt8) :=
  if head % 4 = 0 ∨ head / 4 = 0 ∨ mostOf (head % 4) < head / 4 ∨ head % 4 = was then .error 8
  else if head % 4 ≠ 2 then .ok (⟨head % 4, head / 4, ⟨#[]⟩⟩, l1)
  else if (l1.length : Int) < head / 4 then .error 7
  else if validD (l1.take (head / 4).toNat) then .ok (⟨2, 0, ⟨(l1.take (head / 4).toNat).toArray⟩⟩, l1.drop (head / 4).toNat)
  else .error 8
def takeOne (was : Int) (left : List UInt8) : Except Int (Sp × List UInt8) :=
  if (takeN left).2.2 ≠ 0 then .error (takeN left).2.2
  else takeOne2 was (takeN left).1 (left.drop (takeN left).2.1.toNat)
def takeSps : Nat → Int → List UInt8 → Except Int (List Sp × List UInt8)
  | 0, _, left => .ok ([], left)
  | m + 1, was, left =>
    match takeOne was left with
    | .error e => .error e
    | .ok (s, l1) => match takeSps m s.k l1 with
      | .error e => .error e
      | .ok (ls, l2) => .ok (s :: ls, l2)
def wTake (b : List UInt8) : Except Int (List Sp × Int) :=
  if (takeN b).2.2 ≠ 0 then .error (takeN b).2.2
  else if 65536 < (takeN b).1 then .error 8
  else match takeSps (takeN b).1.toNat 0 (b.drop (takeN b).2.1.toNat) with
    | .error e => .error e
    | .ok (l, left) => if opMayF l = 0 then .ok (l, (b.length : Int) - left.length) else .error 8
def wTakeL (b : List UInt8) : List Sp := match wTake b with | .ok (l, _) => l | .error _ => []
def wTakeK (b : List UInt8) : Int := match wTake b with | .ok (_, k) => k | .error _ => 0
def wTakeE (b : List UInt8) : Int := match wTake b with | .ok _ => 0 | .error e => e
def headOf (s : Sp) : Nat := ((s.n + s.t.size) * 4 + s.k).toNat
def SpIn (s : Sp) : Prop := SpOK s ∧ emptyS s = false ∧ s.t.size ≤ 65536
theorem str_eta (t : ByteArray) : (⟨t.data.toList.toArray⟩ : ByteArray) = t := by cases t; simp
theorem ok_kind {s : Sp} (h : SpOK s) : s.k = 1 ∨ s.k = 2 ∨ s.k = 3 := by
  rcases h.cases with ⟨a, _⟩ | ⟨a, _⟩ <;> omega
theorem head_facts {s : Sp} (h : SpIn s) : (headOf s : Int) = (s.n + s.t.size) * 4 + s.k ∧ headOf s < 268435456 ∧ ((headOf s : Int) % 4 = s.k) ∧ (headOf s : Int) / 4 = s.n + s.t.size ∧ 0 < s.n + s.t.size ∧ (s.k = 2 → s.n = 0) ∧ (s.k ≠ 2 → s.t = ⟨#[]⟩ ∧ s.n ≤ 1048576) := by
  obtain ⟨h1, h2, h3⟩ := h
  have hk := ok_kind h1
  have hne : ¬ (s.n = 0 ∧ s.t = ⟨#[]⟩) := fun hh => by rw [empty_iff.2 hh] at h2; cases h2
  have hz : s.t.size = 0 → s.t = ⟨#[]⟩ := fun hz => str_nil.2 (List.length_eq_zero_iff.1 (by rw [len_list]; exact hz))
  have he : (⟨#[]⟩ : ByteArray).size = 0 := rfl
  unfold headOf
  rcases h1.cases with ⟨a, b, c, d⟩ | ⟨a, b, c⟩
  · have : s.t.size = 0 := by rw [d]; rfl
    have : s.n ≠ 0 := fun hn => hne ⟨hn, d⟩
    refine ⟨by omega, by omega, by omega, by omega, by omega, by omega, fun _ => ⟨d, c⟩⟩
  · have : s.t.size ≠ 0 := fun hs => hne ⟨b, hz hs⟩
    refine ⟨by omega, by omega, by omega, by omega, by omega, fun _ => b, by omega⟩
theorem takeOne_put {s : Sp} (h : SpIn s) {was : Int} (hw : was ≠ s.k) (rest : List UInt8) : takeOne was (encSp s ++ rest) = .ok (s, rest) := by
  obtain ⟨e1, e2, e3, e4, e5, e6, e7⟩ := head_facts h
  have ht := take_put e2 (s.t.data.toList ++ rest)
  have hk := ok_kind h.1
  unfold takeOne encSp
  rw [List.append_assoc, show ((s.n + s.t.size) * 4 + s.k).toNat = headOf s from rfl, ht]
  simp only [ne_eq, not_true, if_false, Int.toNat_natCast, List.drop_left]
  unfold takeOne2
  rw [e3, e4]
  by_cases h2 : s.k = 2
  · have h3 := h.2.2
    have hn := e6 h2
    rw [if_neg (by rw [h2, most2]; omega), if_neg (by omega), hn]
    rw [if_neg (by rw [List.length_append, len_list]; omega)]
    have htk : (s.t.data.toList ++ rest).take ((0 : Int) + s.t.size).toNat = s.t.data.toList := by
      rw [show ((0 : Int) + s.t.size).toNat = s.t.data.toList.length by rw [len_list]; omega]; exact List.take_left
    have hdr : (s.t.data.toList ++ rest).drop ((0 : Int) + s.t.size).toNat = rest := by
      rw [show ((0 : Int) + s.t.size).toNat = s.t.data.toList.length by rw [len_list]; omega, List.drop_left]
    rw [htk, hdr]
    rcases h.1.cases with ⟨a, _⟩ | ⟨_, _, a⟩
    · omega
    · rw [a, if_pos rfl, str_eta]
      cases s with | mk k n t => simp only at h2 hn; subst h2; subst hn; rfl
  · obtain ⟨h4, h5⟩ := e7 h2
    have : s.t.size = 0 := by rw [h4]; rfl
    rw [if_neg (by rw [mostN h2]; omega), if_pos h2, this]
    have : s.t.data.toList = [] := by rw [h4]
    rw [this, List.nil_append]
    cases s with | mk k n t => simp only at h4; subst h4; simp
theorem takeSps_put : ∀ (l : List Sp) (p : Option Int) (was : Int) (rest : List UInt8), (∀ s ∈ l, SpIn s) → isNG p l = true → (∀ k, p = some k → was = k) → (p = none → was = 0) → takeSps l.length was (l.flatMap encSp ++ rest) = .ok (l, rest)
  | [], p, was, rest, _, _, _, _ => rfl
  | s :: l, p, was, rest, h, hn, hp, hp0 => by
    simp only [isNG, Bool.and_eq_true, Bool.not_eq_true', decide_eq_false_iff_not] at hn
    have hk := ok_kind (h s (by simp)).1
    have hne : was ≠ s.k := by
      cases p with
      | none => rw [hp0 rfl]; omega
      | some k => rw [hp k rfl]; intro e; exact hn.1.2 (by rw [e])
    simp only [List.length_cons, takeSps, List.flatMap_cons, List.append_assoc]
    rw [takeOne_put (h s (by simp)) hne]
    simp only
    rw [takeSps_put l (some s.k) s.k rest (fun x hx => h x (by simp [hx])) hn.2 (fun k e => Option.some.inj e) (fun e => by cases e)]
theorem isNG_in : ∀ {l : List Sp} {p : Option Int}, isNG p l = true → ∀ s ∈ l, emptyS s = false
  | [], _, _, s, hs => by simp at hs
  | x :: l, p, h, s, hs => by
    simp only [isNG, Bool.and_eq_true, Bool.not_eq_true'] at h
    rcases List.mem_cons.1 hs with rfl | hs
    · exact h.1.1
    · exact isNG_in h.2 s hs
theorem wPutE_ok {l : List Sp} (h : wPutE l = 0) : opMayF l = 0 ∧ isN l = true ∧ l.length ≤ 65536 ∧ ∀ s ∈ l, SpIn s := by
  unfold wPutE at h
  by_cases h1 : opMayF l = 0
  · rw [if_pos h1] at h
    cases h2 : isN l with
    | false => rw [h2] at h; simp at h
    | true =>
      rw [h2, if_pos rfl] at h
      by_cases h3 : 65536 < l.length
      · rw [if_pos h3] at h; exact absurd h (by decide)
      · rw [if_neg h3] at h
        cases h4 : bigT l with
        | true => rw [h4] at h; exact absurd h (by decide)
        | false =>
          refine ⟨h1, rfl, by omega, fun s hs => ⟨((opMay_iff l).1 h1).1 s hs, isNG_in h2 s hs, ?_⟩⟩
          simp only [bigT, List.any_eq_false, decide_eq_true_eq] at h4
          have := h4 s hs; omega
  · rw [if_neg h1] at h; exact absurd h h1
theorem wPutE_of {l : List Sp} (h1 : opMayF l = 0) (h2 : isN l = true) (h3 : l.length ≤ 65536) (h4 : ∀ s ∈ l, s.t.size ≤ 65536) : wPutE l = 0 := by
  have h5 : bigT l = false := by
    simp only [bigT, List.any_eq_false, decide_eq_true_eq]
    intro s hs; have := h4 s hs; omega
  unfold wPutE; rw [if_pos h1, h2, if_pos rfl, if_neg (by omega), h5]; rfl
theorem wTake_put {l : List Sp} (h : wPutE l = 0) (rest : List UInt8) : wTake (encW l ++ rest) = .ok (l, (encW l).length) := by
  obtain ⟨h1, h2, h3, h4⟩ := wPutE_ok h
  have ht := take_put (n := l.length) (by omega) (l.flatMap encSp ++ rest)
  unfold wTake encW
  rw [List.append_assoc, ht]
  simp only [ne_eq, not_true, if_false, Int.toNat_natCast, List.drop_left]
  rw [if_neg (by omega), takeSps_put l none 0 rest h4 h2 (fun k e => by cases e) (fun _ => rfl)]
  simp only [h1, if_true]
  congr 2
  simp only [List.length_append]; omega
theorem takeOne_inv {was : Int} {left l1 : List UInt8} {s : Sp} (h : takeOne was left = .ok (s, l1)) : left = encSp s ++ l1 ∧ SpIn s ∧ s.k ≠ was := by
  unfold takeOne at h
  split at h
  · cases h
  rename_i he
  have he : (takeN left).2.2 = 0 := by omega
  obtain ⟨n, k, e, hq⟩ : ∃ n k e, takeN left = (n, k, e) := ⟨_, _, _, rfl⟩
  rw [hq] at h he
  simp only at h he
  subst he
  unfold takeOne2 at h
  obtain ⟨b1, b2, b3, b4, b5, b6, b7⟩ := put_take hq
  have hl : left = putN n.toNat ++ left.drop k.toNat := by rw [← b6, List.take_append_drop]
  split at h
  · cases h
  rename_i hc
  split at h
  · rename_i h2
    simp only [Except.ok.injEq, Prod.mk.injEq] at h
    obtain ⟨rfl, rfl⟩ := h
    have hk : n % 4 = 1 ∨ n % 4 = 3 := by omega
    have hc2 : ¬ 1048576 < n / 4 := by intro hh; apply hc; rw [mostN h2]; omega
    refine ⟨?_, ⟨SpOK.keep hk (by simp only; omega) rfl, ?_, by show (⟨#[]⟩ : ByteArray).size ≤ _; decide⟩, by simp only; omega⟩
    · unfold encSp
      simp only
      have e0 : (⟨#[]⟩ : ByteArray).size = 0 := rfl
      rw [show ((n / 4 + ((⟨#[]⟩ : ByteArray).size : Int)) * 4 + n % 4).toNat = n.toNat by rw [e0]; omega]
      simpa using hl
    · rw [Bool.eq_false_iff]; intro hh; have := (empty_iff.1 hh).1; simp only at this; omega
  · rename_i h2
    have h2 : n % 4 = 2 := by omega
    split at h
    · cases h
    rename_i h3
    split at h
    · rename_i h4
      simp only [Except.ok.injEq, Prod.mk.injEq] at h
      obtain ⟨rfl, rfl⟩ := h
      have hc2 : ¬ 65536 < n / 4 := by intro hh; apply hc; rw [h2, most2]; omega
      have hsz : ((⟨((left.drop k.toNat).take (n / 4).toNat).toArray⟩ : ByteArray).size : Int) = n / 4 := by
        rw [← len_list]; simp only [List.length_take]; omega
      refine ⟨?_, ⟨SpOK.put rfl rfl (by simpa using h4), ?_, by simp only; omega⟩, by simp only; omega⟩
      · unfold encSp
        simp only [hsz]
        rw [show ((0 + n / 4) * 4 + 2).toNat = n.toNat by omega, List.append_assoc, List.take_append_drop]
        exact hl
      · rw [Bool.eq_false_iff]; intro hh
        have := (empty_iff.1 hh).2
        simp only at this
        rw [this] at hsz
        have e0 : (⟨#[]⟩ : ByteArray).size = 0 := rfl
        rw [e0] at hsz; omega
    · cases h
theorem takeSps_inv : ∀ (m : Nat) (was : Int) (left : List UInt8) (l : List Sp) (l1 : List UInt8), takeSps m was left = .ok (l, l1) → left = l.flatMap encSp ++ l1 ∧ (∀ s ∈ l, SpIn s) ∧ isNG (some was) l = true ∧ l.length = m
  | 0, was, left, l, l1, h => by simp only [takeSps, Except.ok.injEq, Prod.mk.injEq] at h; obtain ⟨rfl, rfl⟩ := h; simp [isNG]
  | m + 1, was, left, l, l1, h => by
    simp only [takeSps] at h
    split at h
    · cases h
    rename_i s l2 h1
    split at h
    · cases h
    rename_i ls l3 h2
    simp only [Except.ok.injEq, Prod.mk.injEq] at h
    obtain ⟨rfl, rfl⟩ := h
    obtain ⟨a1, a2, a3⟩ := takeOne_inv h1
    obtain ⟨c1, c2, c3, c4⟩ := takeSps_inv m s.k l2 ls l3 h2
    refine ⟨by rw [List.flatMap_cons, List.append_assoc, ← c1]; exact a1, fun x hx => ?_, ?_, by simp [c4]⟩
    · rcases List.mem_cons.1 hx with rfl | hx
      · exact a2
      · exact c2 x hx
    · simp only [isNG, a2.2.1, c3, Bool.not_false, Bool.true_and, Bool.and_true, Bool.not_eq_true', decide_eq_false_iff_not, Option.some.injEq]
      exact fun e => a3 e.symm
theorem isNG_none {k : Int} : ∀ {l : List Sp}, isNG (some k) l = true → isN l = true
  | [], _ => rfl
  | s :: l, h => by
    simp only [isN, isNG, Bool.and_eq_true, Bool.not_eq_true'] at h ⊢
    exact ⟨⟨h.1.1, by simp⟩, h.2⟩
theorem wTake_inv {b : List UInt8} {l : List Sp} {k : Int} (h : wTake b = .ok (l, k)) : wPutE l = 0 ∧ k = (encW l).length ∧ b.take k.toNat = encW l ∧ 1 ≤ k ∧ k ≤ b.length := by
  unfold wTake at h
  split at h
  · cases h
  rename_i he
  have he : (takeN b).2.2 = 0 := by omega
  obtain ⟨n, j, e, hq⟩ : ∃ n j e, takeN b = (n, j, e) := ⟨_, _, _, rfl⟩
  rw [hq] at h he
  simp only at h he
  subst he
  obtain ⟨b1, b2, b3, b4, b5, b6, b7⟩ := put_take hq
  split at h
  · cases h
  rename_i h1
  split at h
  · cases h
  rename_i l' left h2
  split at h
  · rename_i h3
    simp only [Except.ok.injEq, Prod.mk.injEq] at h
    obtain ⟨rfl, rfl⟩ := h
    obtain ⟨c1, c2, c3, c4⟩ := takeSps_inv _ _ _ _ _ h2
    have hb : b = encW l' ++ left := by
      unfold encW
      rw [c4, List.append_assoc, ← c1, ← b6, List.take_append_drop]
    have hlen : b.length = (encW l').length + left.length := by rw [hb, List.length_append]
    refine ⟨wPutE_of h3 (isNG_none c3) (by omega) (fun s hs => (c2 s hs).2.2), by omega, ?_, ?_, by omega⟩
    · rw [show ((b.length : Int) - left.length).toNat = (encW l').length by omega]
      conv => lhs; rw [hb]
      exact List.take_left ..
    · have : 1 ≤ (encW l').length := by
        unfold encW; rw [List.length_append]; have := (putN_len (n := l'.length) (by omega)).1; omega
      omega
  · cases h
theorem take_lt {α : Type} (a b : List α) {j : Nat} (h : j ≤ a.length) : (a ++ b).take j = a.take j := List.take_append_of_le_length h
theorem take_ge {α : Type} (a b : List α) {j : Nat} (h : a.length ≤ j) : (a ++ b).take j = a ++ b.take (j - a.length) := by
  obtain ⟨m, rfl⟩ : ∃ m, j = a.length + m := ⟨j - a.length, by omega⟩
  rw [List.take_length_add_append, Nat.add_sub_cancel_left]
theorem takeOne_pre {s : Sp} (h : SpIn s) {was : Int} (hw : was ≠ s.k) {j : Nat} (hj : j < (encSp s).length) : takeOne was ((encSp s).take j) = .error 7 := by
  obtain ⟨e1, e2, e3, e4, e5, e6, e7⟩ := head_facts h
  have hk := ok_kind h.1
  unfold encSp at hj ⊢
  rw [show ((s.n + s.t.size) * 4 + s.k).toNat = headOf s from rfl] at hj ⊢
  rw [List.length_append, len_list] at hj
  by_cases hlt : j < (putN (headOf s)).length
  · rw [take_lt _ _ (by omega)]
    unfold takeOne
    rw [take_pre e2 hlt]; rfl
  · rw [take_ge _ _ (by omega)]
    have ht := take_put e2 (s.t.data.toList.take (j - (putN (headOf s)).length))
    have h2 : s.k = 2 := by
      rcases Classical.em (s.k = 2) with h2 | h2
      · exact h2
      · have := (e7 h2).1
        have e0 : s.t.size = 0 := by rw [this]; rfl
        omega
    have hn := e6 h2
    have h3 := h.2.2
    unfold takeOne
    rw [ht]
    simp only [ne_eq, not_true, if_false, Int.toNat_natCast, List.drop_left]
    unfold takeOne2
    rw [e3, e4, if_neg (by rw [h2, most2]; omega), if_neg (by omega), if_pos (by rw [List.length_take, len_list]; omega)]
theorem takeSps_pre : ∀ (l : List Sp) (p : Option Int) (was : Int) (j : Nat), (∀ s ∈ l, SpIn s) → isNG p l = true → (∀ k, p = some k → was = k) → (p = none → was = 0) → j < (l.flatMap encSp).length → takeSps l.length was ((l.flatMap encSp).take j) = .error 7
  | [], p, was, j, _, _, _, _, hj => by simp at hj
  | s :: l, p, was, j, h, hn, hp, hp0, hj => by
    simp only [isNG, Bool.and_eq_true, Bool.not_eq_true', decide_eq_false_iff_not] at hn
    have hk := ok_kind (h s (by simp)).1
    have hne : was ≠ s.k := by
      cases p with
      | none => rw [hp0 rfl]; omega
      | some k => rw [hp k rfl]; intro e; exact hn.1.2 (by rw [e])
    rw [List.flatMap_cons, List.length_append] at hj
    simp only [List.length_cons, takeSps, List.flatMap_cons]
    by_cases hlt : j < (encSp s).length
    · rw [take_lt _ _ (by omega), takeOne_pre (h s (by simp)) hne hlt]
    · rw [take_ge _ _ (by omega), takeOne_put (h s (by simp)) hne]
      simp only
      rw [takeSps_pre l (some s.k) s.k _ (fun x hx => h x (by simp [hx])) hn.2 (fun k e => Option.some.inj e) (fun e => by cases e) (by omega)]
theorem wTake_pre {l : List Sp} (h : wPutE l = 0) {j : Nat} (hj : j < (encW l).length) : wTake ((encW l).take j) = .error 7 := by
  obtain ⟨h1, h2, h3, h4⟩ := wPutE_ok h
  unfold encW at hj ⊢
  rw [List.length_append] at hj
  by_cases hlt : j < (putN l.length).length
  · rw [take_lt _ _ (by omega)]
    unfold wTake
    rw [take_pre (by omega) hlt]; rfl
  · rw [take_ge _ _ (by omega)]
    have ht := take_put (n := l.length) (by omega) ((l.flatMap encSp).take (j - (putN l.length).length))
    unfold wTake
    rw [ht]
    simp only [ne_eq, not_true, if_false, Int.toNat_natCast, List.drop_left]
    rw [if_neg (by omega), takeSps_pre l none 0 _ h4 h2 (fun k e => by cases e) (fun _ => rfl) (by omega)]
end Go.Proofs.YthdjbgbfboppcaaDoor.Abs

namespace Go.Proofs.YthdjbgbfboppcaaDoor.Abs
open Go Go.Lib
set_option linter.unusedSimpArgs false
set_option linter.unusedVariables false
end Go.Proofs.YthdjbgbfboppcaaDoor.Abs

namespace Go.Proofs.YthdjbgbfboppcaaDoor.Abs
open Go
set_option maxRecDepth 100000
set_option linter.unusedSimpArgs false
set_option linter.unusedVariables false
attribute [local irreducible] Ev.Unr Ev.Go' Ev.bytK Ev.runK Ev.FinL Ev.brC Ev.Side Ev.Wp Ev.Again Ev.To Ev.Fin
open Go.Lib Go.RowKit
theorem bits_or (a b : Nat) (ha : a < 9223372036854775808) (hb : b < 9223372036854775808) : bitsOf .or .i64 a b = ((a ||| b : Nat) : Int) := by
  have h1 : (a ||| b) < 2 ^ 63 := Nat.or_lt_two_pow (by simpa using ha) (by simpa using hb)
  show IntKind.i64.wrap (((BitVec.ofInt 64 a ||| BitVec.ofInt 64 b : BitVec 64).toNat : Nat) : Int) = _
  rw [BitVec.toNat_or, BitVec.ofInt_natCast, BitVec.ofInt_natCast, BitVec.toNat_ofNat, BitVec.toNat_ofNat]
  rw [Nat.mod_eq_of_lt (by omega), Nat.mod_eq_of_lt (by omega)]
  rw [Ev.wrap64]; omega
theorem or_fin : ∀ c : Fin 256, (c.val ||| 128) = 128 + c.val % 128 := by decide
theorem u8_or (m : Nat) (h : m < 268435456) : IntKind.u8.wrap (bitsOf .or .i64 m 128) = ((UInt8.ofNat (128 + m % 128)).toNat : Int) := by
  have e := bits_or m 128 (by omega) (by omega)
  rw [show ((128 : Nat) : Int) = 128 from rfl] at e
  rw [e, Ev.wrap8]
  have h1 : (m ||| 128) % 2 ^ 8 = m % 2 ^ 8 ||| 128 % 2 ^ 8 := Nat.or_mod_two_pow ..
  have h2 := or_fin ⟨m % 256, Nat.mod_lt _ (by decide)⟩
  simp only at h2
  rw [ofNat_toNat (by omega)]
  simp only [show (2 : Nat) ^ 8 = 256 from rfl, show 128 % 256 = 128 from rfl] at h1
  omega
theorem and_fin : ∀ c : Fin 256, bitsOf .and .u8 (c.val : Int) 127 = ((c.val % 128 : Nat) : Int) := by decide
theorem and_u8 (c : UInt8) : bitsOf .and .u8 (c.toNat : Int) 127 = ((c.toNat % 128 : Nat) : Int) := and_fin ⟨c.toNat, c.toNat_lt⟩
theorem or_add (a b i : Nat) (h : a < 2 ^ i) : a ||| (b * 2 ^ i) = a + b * 2 ^ i := by
  have := Nat.shiftLeft_add_eq_or_of_lt h b
  rw [Nat.shiftLeft_eq] at this
  rw [Nat.or_comm, ← this, Nat.add_comm]
theorem putG_step {f m : Nat} (h : 128 ≤ m) : putG (f + 1) m = UInt8.ofNat (128 + m % 128) :: putG f (m / 128) := by simp only [putG]; rw [if_neg (by omega)]
theorem putG_end (f : Nat) {m : Nat} (h : m < 128) : putG f m = [UInt8.ofNat m] := by cases f <;> simp only [putG]; rw [if_pos h]
def cc62 : CC := (.seq (.reg 0 [⟨0, some 2, (.assign (.const (Value.slice none 0 0))), none⟩, ⟨1, some 3, (.assign (.const (Value.int .i64 0))), none⟩]) (.scope (.seq (.seq (.reg 1 [⟨0, some 5, (.move (.tmp 0)), none⟩, ⟨1, some 6, (.binOp .lss 3 (.tmp 5) (.const (Value.int .i64 0)) 3), none⟩, ⟨2, some 7, (.move (.tmp 6)), none⟩, ⟨3, some 8, (.move (.tmp 0)), (some (7, false))⟩, ⟨4, some 9, (.binOp .gtr 3 (.tmp 8) (.const (Value.int .i64 268435455)) 3), (some (7, false))⟩, ⟨5, some 10, (.pick (.tmp 7) (.const (Value.bool true)) (.tmp 9)), none⟩]) (.cond (.tmp 10) (.seq (.reg 2 [⟨0, some 2, (.assign (.const (Value.slice none 0 0))), none⟩, ⟨1, some 3, (.assign (.const (Value.int .i64 2))), none⟩]) .ret) .skip)) (.seq (.reg 3 [⟨0, some 4, (.assign (.const (Value.slice none 0 0))), none⟩]) (.seq (.label 0) (.seq (.seq (.reg 4 [⟨0, some 11, (.move (.tmp 0)), none⟩, ⟨1, some 12, (.binOp .geq 3 (.tmp 11) (.const (Value.int .i64 128)) 3), none⟩]) (.cond (.tmp 12) (.seq (.reg 5 [⟨0, some 13, (.move (.tmp 4)), none⟩, ⟨1, some 14, (.move (.tmp 0)), none⟩, ⟨2, some 15, (.binOp .or 3 (.tmp 14) (.const (Value.int .i64 128)) 3), none⟩, ⟨3, some 16, (.convert 3 5 (.tmp 15)), none⟩, ⟨4, some 17, (.buildSlice 22 1 #[(0, .tmp 16)]), none⟩, ⟨5, some 18, (.call { callee := .builtin .append, args := #[.tmp 13, .tmp 17], argTypes := #[22, 22] }), none⟩, ⟨6, some 4, (.assign (.tmp 18)), none⟩]) (.seq (.reg 6 [⟨0, some 19, (.move (.tmp 0)), none⟩, ⟨1, some 20, (.binOp .shr 3 (.tmp 19) (.const (Value.int .u64 7)) 107), none⟩, ⟨2, some 0, (.assign (.tmp 20)), none⟩]) (.goto 0))) .skip)) (.seq (.reg 7 [⟨0, some 21, (.move (.tmp 4)), none⟩, ⟨1, some 22, (.move (.tmp 0)), none⟩, ⟨2, some 23, (.convert 3 5 (.tmp 22)), none⟩, ⟨3, some 24, (.buildSlice 22 1 #[(0, .tmp 23)]), none⟩, ⟨4, some 25, (.call { callee := .builtin .append, args := #[.tmp 21, .tmp 24], argTypes := #[22, 22] }), none⟩, ⟨5, some 2, (.assign (.tmp 25)), none⟩, ⟨6, some 3, (.assign (.const (Value.int .i64 0))), none⟩]) .ret)))))))
theorem comp62 : ∀ c, Tryd.f62.body = some c → comp c = cc62 := by
  intro c h
  have : c = Tryd.f62.body.get rfl := by rw [← Option.some_inj, ← h]; rfl
  rw [this]; rfl
def cc58 : CC := (.seq (.reg 0 [⟨0, some 2, (.assign (.const (Value.int .i64 0))), none⟩, ⟨1, some 3, (.assign (.const (Value.int .i64 0))), none⟩, ⟨2, some 4, (.assign (.const (Value.int .i64 0))), none⟩]) (.seq (.seq (.reg 1 [⟨0, some 7, (.move (.tmp 0)), none⟩, ⟨1, some 8, (.call { callee := .builtin .len, args := #[.tmp 7], argTypes := #[22] }), none⟩, ⟨2, some 9, (.move (.const (Value.int .i64 0))), none⟩]) (.block 0 (.loop (.seq (.reg 2 [⟨0, some 10, (.binOp .lss 3 (.tmp 9) (.tmp 8) 3), none⟩]) (.seq (.cond (.tmp 10) .skip (.exit 0)) (.seq (.block 1 (.seq (.reg 3 [⟨0, some 11, (.move (.tmp 9)), none⟩, ⟨1, some 12, (.indexAddr 22 (.tmp 7) (.tmp 9)), none⟩, ⟨2, some 13, (.load 5 (.tmp 12)), none⟩, ⟨3, some 5, (.assign (.tmp 11)), none⟩, ⟨4, some 6, (.assign (.tmp 13)), none⟩]) (.seq (.seq (.reg 4 [⟨0, some 14, (.move (.tmp 5)), none⟩, ⟨1, some 15, (.binOp .eql 3 (.tmp 14) (.const (Value.int .i64 4)) 3), none⟩]) (.cond (.tmp 15) (.seq (.reg 5 [⟨0, some 2, (.assign (.const (Value.int .i64 0))), none⟩, ⟨1, some 3, (.assign (.const (Value.int .i64 0))), none⟩, ⟨2, some 4, (.assign (.const (Value.int .i64 8))), none⟩]) .ret) .skip)) (.seq (.reg 6 [⟨0, some 16, (.move (.tmp 2)), none⟩, ⟨1, some 17, (.move (.tmp 6)), none⟩, ⟨2, some 18, (.binOp .and 5 (.tmp 17) (.const (Value.int .u8 127)) 5), none⟩, ⟨3, some 19, (.convert 5 3 (.tmp 18)), none⟩, ⟨4, some 20, (.move (.tmp 5)), none⟩, ⟨5, some 21, (.binOp .mul 3 (.const (Value.int .i64 7)) (.tmp 20) 3), none⟩, ⟨6, some 22, (.binOp .shl 3 (.tmp 19) (.tmp 21) 3), none⟩, ⟨7, some 23, (.binOp .or 3 (.tmp 16) (.tmp 22) 3), none⟩, ⟨8, some 2, (.assign (.tmp 23)), none⟩]) (.seq (.block 2 (.seq (.reg 7 [⟨0, some 25, (.move (.tmp 6)), none⟩, ⟨1, some 26, (.binOp .geq 5 (.tmp 25) (.const (Value.int .u8 128)) 5), none⟩, ⟨2, some 24, (.assign (.tmp 26)), none⟩]) (.cond (.tmp 24) (.exit 1) (.seq (.reg 8 [⟨0, some 28, (.move (.tmp 6)), none⟩, ⟨1, some 29, (.binOp .eql 5 (.tmp 28) (.const (Value.int .u8 0)) 5), none⟩, ⟨2, some 30, (.move (.tmp 29)), none⟩, ⟨3, some 31, (.move (.tmp 5)), (some (30, true))⟩, ⟨4, some 32, (.binOp .gtr 3 (.tmp 31) (.const (Value.int .i64 0)) 3), (some (30, true))⟩, ⟨5, some 33, (.pick (.tmp 30) (.tmp 32) (.const (Value.bool false))), none⟩, ⟨6, some 27, (.assign (.tmp 33)), none⟩]) (.cond (.tmp 27) (.seq (.reg 9 [⟨0, some 2, (.assign (.const (Value.int .i64 0))), none⟩, ⟨1, some 3, (.assign (.const (Value.int .i64 0))), none⟩, ⟨2, some 4, (.assign (.const (Value.int .i64 8))), none⟩]) .ret) .skip))))) (.seq (.reg 10 [⟨0, some 34, (.move (.tmp 2)), none⟩, ⟨1, some 35, (.move (.tmp 5)), none⟩, ⟨2, some 36, (.binOp .add 3 (.tmp 35) (.const (Value.int .i64 1)) 3), none⟩, ⟨3, some 2, (.assign (.tmp 34)), none⟩, ⟨4, some 3, (.assign (.tmp 36)), none⟩, ⟨5, some 4, (.assign (.const (Value.int .i64 0))), none⟩]) .ret)))))) (.reg 11 [⟨0, some 37, (.binOp .add 3 (.tmp 9) (.const (Value.int .i64 1)) 3), none⟩, ⟨1, some 9, (.move (.tmp 37)), none⟩]))))))) (.seq (.seq (.reg 12 [⟨0, some 38, (.move (.tmp 0)), none⟩, ⟨1, some 39, (.call { callee := .builtin .len, args := #[.tmp 38], argTypes := #[22] }), none⟩, ⟨2, some 40, (.binOp .geq 3 (.tmp 39) (.const (Value.int .i64 4)) 3), none⟩]) (.cond (.tmp 40) (.seq (.reg 13 [⟨0, some 2, (.assign (.const (Value.int .i64 0))), none⟩, ⟨1, some 3, (.assign (.const (Value.int .i64 0))), none⟩, ⟨2, some 4, (.assign (.const (Value.int .i64 8))), none⟩]) .ret) .skip)) (.seq (.reg 14 [⟨0, some 2, (.assign (.const (Value.int .i64 0))), none⟩, ⟨1, some 3, (.assign (.const (Value.int .i64 0))), none⟩, ⟨2, some 4, (.assign (.const (Value.int .i64 7))), none⟩]) .ret))))
theorem comp58 : ∀ c, Tryd.f58.body = some c → comp c = cc58 := by
  intro c h
  have : c = Tryd.f58.body.get rfl := by rw [← Option.some_inj, ← h]; rfl
  rw [this]; rfl
def cc78 : CC := (.seq (.reg 0 [⟨0, some 2, (.assign (.const (Value.slice none 0 0))), none⟩, ⟨1, some 3, (.assign (.const (Value.int .i64 0))), none⟩]) (.seq (.seq (.reg 1 [⟨0, some 5, (.move (.tmp 0)), none⟩, ⟨1, some 6, (.binOp .lss 3 (.tmp 5) (.const (Value.int .i64 0)) 3), none⟩, ⟨2, some 7, (.move (.tmp 6)), none⟩, ⟨3, some 8, (.move (.tmp 0)), (some (7, false))⟩, ⟨4, some 9, (.binOp .gtr 3 (.tmp 8) (.const (Value.int .i64 268435455)) 3), (some (7, false))⟩, ⟨5, some 10, (.pick (.tmp 7) (.const (Value.bool true)) (.tmp 9)), none⟩]) (.cond (.tmp 10) (.seq (.reg 2 [⟨0, some 2, (.assign (.const (Value.slice none 0 0))), none⟩, ⟨1, some 3, (.assign (.const (Value.int .i64 2))), none⟩]) .ret) .skip)) (.seq (.reg 3 [⟨0, some 11, (.buildSlice 22 0 #[]), none⟩, ⟨1, some 4, (.assign (.tmp 11)), none⟩]) (.seq (.block 0 (.loop (.seq (.seq (.reg 4 [⟨0, some 12, (.move (.tmp 0)), none⟩, ⟨1, some 13, (.binOp .gtr 3 (.tmp 12) (.const (Value.int .i64 127)) 3), none⟩]) (.cond (.tmp 13) .skip (.exit 0))) (.block 1 (.seq (.reg 5 [⟨0, some 14, (.move (.tmp 4)), none⟩, ⟨1, some 15, (.move (.tmp 0)), none⟩, ⟨2, some 16, (.binOp .rem 3 (.tmp 15) (.const (Value.int .i64 128)) 3), none⟩, ⟨3, some 17, (.binOp .add 3 (.const (Value.int .i64 128)) (.tmp 16) 3), none⟩, ⟨4, some 18, (.convert 3 5 (.tmp 17)), none⟩, ⟨5, some 19, (.buildSlice 22 1 #[(0, .tmp 18)]), none⟩, ⟨6, some 20, (.call { callee := .builtin .append, args := #[.tmp 14, .tmp 19], argTypes := #[22, 22] }), none⟩, ⟨7, some 4, (.assign (.tmp 20)), none⟩]) (.reg 6 [⟨0, some 21, (.move (.tmp 0)), none⟩, ⟨1, some 22, (.binOp .quo 3 (.tmp 21) (.const (Value.int .i64 128)) 3), none⟩, ⟨2, some 0, (.assign (.tmp 22)), none⟩])))))) (.seq (.reg 7 [⟨0, some 23, (.move (.tmp 4)), none⟩, ⟨1, some 24, (.move (.tmp 0)), none⟩, ⟨2, some 25, (.convert 3 5 (.tmp 24)), none⟩, ⟨3, some 26, (.buildSlice 22 1 #[(0, .tmp 25)]), none⟩, ⟨4, some 27, (.call { callee := .builtin .append, args := #[.tmp 23, .tmp 26], argTypes := #[22, 22] }), none⟩, ⟨5, some 2, (.assign (.tmp 27)), none⟩, ⟨6, some 3, (.assign (.const (Value.int .i64 0))), none⟩]) .ret)))))
theorem comp78 : ∀ c, Tryd.f78.body = some c → comp c = cc78 := by
  intro c h
  have : c = Tryd.f78.body.get rfl := by rw [← Option.some_inj, ← h]; rfl
  rw [this]; rfl
def cc80 : CC := (.seq (.reg 0 [⟨0, some 2, (.assign (.const (Value.int .i64 0))), none⟩, ⟨1, some 3, (.assign (.const (Value.int .i64 0))), none⟩, ⟨2, some 4, (.assign (.const (Value.int .i64 0))), none⟩]) (.seq (.reg 1 [⟨0, some 5, (.assign (.const (Value.int .i64 0))), none⟩]) (.seq (.block 0 (.loop (.seq (.seq (.reg 2 [⟨0, some 8, (.move (.tmp 5)), none⟩, ⟨1, some 9, (.move (.tmp 0)), none⟩, ⟨2, some 10, (.call { callee := .builtin .len, args := #[.tmp 9], argTypes := #[22] }), none⟩, ⟨3, some 11, (.binOp .lss 3 (.tmp 8) (.tmp 10) 3), none⟩, ⟨4, some 12, (.move (.tmp 11)), none⟩, ⟨5, some 13, (.move (.tmp 5)), (some (12, true))⟩, ⟨6, some 14, (.binOp .lss 3 (.tmp 13) (.const (Value.int .i64 4)) 3), (some (12, true))⟩, ⟨7, some 15, (.pick (.tmp 12) (.tmp 14) (.const (Value.bool false))), none⟩, ⟨8, some 16, (.move (.tmp 15)), none⟩, ⟨9, some 17, (.move (.tmp 0)), (some (16, true))⟩, ⟨10, some 18, (.move (.tmp 5)), (some (16, true))⟩, ⟨11, some 19, (.indexAddr 22 (.tmp 17) (.tmp 18)), (some (16, true))⟩, ⟨12, some 20, (.load 5 (.tmp 19)), (some (16, true))⟩, ⟨13, some 21, (.binOp .gtr 5 (.tmp 20) (.const (Value.int .u8 127)) 5), (some (16, true))⟩, ⟨14, some 22, (.pick (.tmp 16) (.tmp 21) (.const (Value.bool false))), none⟩]) (.cond (.tmp 22) .skip (.exit 0))) (.block 1 (.reg 3 [⟨0, some 23, (.move (.tmp 5)), none⟩, ⟨1, some 24, (.binOp .add 3 (.tmp 23) (.const (Value.int .i64 1)) 3), none⟩, ⟨2, some 5, (.assign (.tmp 24)), none⟩]))))) (.seq (.seq (.reg 4 [⟨0, some 25, (.move (.tmp 5)), none⟩, ⟨1, some 26, (.binOp .eql 3 (.tmp 25) (.const (Value.int .i64 4)) 3), none⟩]) (.cond (.tmp 26) (.seq (.reg 5 [⟨0, some 2, (.assign (.const (Value.int .i64 0))), none⟩, ⟨1, some 3, (.assign (.const (Value.int .i64 0))), none⟩, ⟨2, some 4, (.assign (.const (Value.int .i64 8))), none⟩]) .ret) .skip)) (.seq (.seq (.reg 6 [⟨0, some 27, (.move (.tmp 5)), none⟩, ⟨1, some 28, (.move (.tmp 0)), none⟩, ⟨2, some 29, (.call { callee := .builtin .len, args := #[.tmp 28], argTypes := #[22] }), none⟩, ⟨3, some 30, (.binOp .eql 3 (.tmp 27) (.tmp 29) 3), none⟩]) (.cond (.tmp 30) (.seq (.reg 7 [⟨0, some 2, (.assign (.const (Value.int .i64 0))), none⟩, ⟨1, some 3, (.assign (.const (Value.int .i64 0))), none⟩, ⟨2, some 4, (.assign (.const (Value.int .i64 7))), none⟩]) .ret) .skip)) (.seq (.seq (.reg 8 [⟨0, some 31, (.move (.tmp 5)), none⟩, ⟨1, some 32, (.binOp .gtr 3 (.tmp 31) (.const (Value.int .i64 0)) 3), none⟩, ⟨2, some 33, (.move (.tmp 32)), none⟩, ⟨3, some 34, (.move (.tmp 0)), (some (33, true))⟩, ⟨4, some 35, (.move (.tmp 5)), (some (33, true))⟩, ⟨5, some 36, (.indexAddr 22 (.tmp 34) (.tmp 35)), (some (33, true))⟩, ⟨6, some 37, (.load 5 (.tmp 36)), (some (33, true))⟩, ⟨7, some 38, (.binOp .eql 5 (.tmp 37) (.const (Value.int .u8 0)) 5), (some (33, true))⟩, ⟨8, some 39, (.pick (.tmp 33) (.tmp 38) (.const (Value.bool false))), none⟩]) (.cond (.tmp 39) (.seq (.reg 9 [⟨0, some 2, (.assign (.const (Value.int .i64 0))), none⟩, ⟨1, some 3, (.assign (.const (Value.int .i64 0))), none⟩, ⟨2, some 4, (.assign (.const (Value.int .i64 8))), none⟩]) .ret) .skip)) (.seq (.reg 10 [⟨0, some 40, (.move (.tmp 0)), none⟩, ⟨1, some 41, (.move (.tmp 5)), none⟩, ⟨2, some 42, (.indexAddr 22 (.tmp 40) (.tmp 41)), none⟩, ⟨3, some 43, (.load 5 (.tmp 42)), none⟩, ⟨4, some 44, (.convert 5 3 (.tmp 43)), none⟩, ⟨5, some 6, (.assign (.tmp 44)), none⟩]) (.seq (.seq (.reg 11 [⟨0, some 45, (.move (.tmp 5)), none⟩, ⟨1, some 46, (.binOp .sub 3 (.tmp 45) (.const (Value.int .i64 1)) 3), none⟩, ⟨2, some 7, (.assign (.tmp 46)), none⟩]) (.block 2 (.loop (.seq (.seq (.reg 12 [⟨0, some 47, (.move (.tmp 7)), none⟩, ⟨1, some 48, (.binOp .geq 3 (.tmp 47) (.const (Value.int .i64 0)) 3), none⟩]) (.cond (.tmp 48) .skip (.exit 2))) (.seq (.block 3 (.reg 14 [⟨0, some 51, (.move (.tmp 6)), none⟩, ⟨1, some 52, (.binOp .mul 3 (.tmp 51) (.const (Value.int .i64 128)) 3), none⟩, ⟨2, some 53, (.move (.tmp 0)), none⟩, ⟨3, some 54, (.move (.tmp 7)), none⟩, ⟨4, some 55, (.indexAddr 22 (.tmp 53) (.tmp 54)), none⟩, ⟨5, some 56, (.load 5 (.tmp 55)), none⟩, ⟨6, some 57, (.convert 5 3 (.tmp 56)), none⟩, ⟨7, some 58, (.binOp .add 3 (.tmp 52) (.tmp 57) 3), none⟩, ⟨8, some 59, (.binOp .sub 3 (.tmp 58) (.const (Value.int .i64 128)) 3), none⟩, ⟨9, some 6, (.assign (.tmp 59)), none⟩])) (.reg 13 [⟨0, some 49, (.move (.tmp 7)), none⟩, ⟨1, some 50, (.binOp .sub 3 (.tmp 49) (.const (Value.int .i64 1)) 3), none⟩, ⟨2, some 7, (.assign (.tmp 50)), none⟩])))))) (.seq (.reg 15 [⟨0, some 60, (.move (.tmp 6)), none⟩, ⟨1, some 61, (.move (.tmp 5)), none⟩, ⟨2, some 62, (.binOp .add 3 (.tmp 61) (.const (Value.int .i64 1)) 3), none⟩, ⟨3, some 2, (.assign (.tmp 60)), none⟩, ⟨4, some 3, (.assign (.tmp 62)), none⟩, ⟨5, some 4, (.assign (.const (Value.int .i64 0))), none⟩]) .ret)))))))))
theorem comp80 : ∀ c, Tryd.f80.body = some c → comp c = cc80 := by
  intro c h
  have : c = Tryd.f80.body.get rfl := by rw [← Option.some_inj, ← h]; rfl
  rw [this]; rfl
def putA (n : Int) : AV := if n < 0 ∨ 268435455 < n then .tup [nilA, .v (.int .i64 2)] else .tup [.lst 1 (bts (putN n.toNat)), .v (.int .i64 0)]
theorem putA_bad {n : Int} (h : n < 0 ∨ 268435455 < n) : putA n = .tup [nilA, .v (.int .i64 2)] := if_pos h
theorem putA_ok {n : Int} (h : ¬ n < 0) (h' : ¬ 268435455 < n) : putA n = .tup [.lst 1 (bts (putN n.toNat)), .v (.int .i64 0)] := if_neg (by omega)
theorem fdiv7 (m : Nat) : (m : Int).fdiv (2 ^ min (Int.toNat 7) IntKind.i64.bits) = ((m / 128 : Nat) : Int) := by
  show (m : Int).fdiv 128 = _
  rw [Int.fdiv_eq_ediv_of_nonneg _ (by decide)]; omega
theorem or_row {m : Nat} (h : m < 268435456) : List.take 1 (List.drop 0 [[AV.v (.int .u8 (IntKind.u8.wrap (bitsOf .or .i64 m 128)))]]) = bts [UInt8.ofNat (128 + m % 128)] := by rw [u8_or m h]; rfl
theorem end_row {m : Nat} (h : m < 128) : List.take 1 (List.drop 0 [[AV.v (.int .u8 (IntKind.u8.wrap m))]]) = bts [UInt8.ofNat m] := by
  have : IntKind.u8.wrap m = ((UInt8.ofNat m).toNat : Int) := by rw [ofNat_toNat (by omega), Ev.wrap8]; omega
  rw [this]; rfl
theorem pow_le4 {f m : Nat} (hf : f ≤ 3) (h : m < 128 ^ (f + 1)) : m < 268435456 := by
  have : 128 ^ (f + 1) ≤ 128 ^ 4 := Nat.pow_le_pow_right (by decide) (by omega)
  omega
theorem nput_call (n : Int) : CallW env 62 [.v (.int .i64 n)] (fun r hs => r = putA n ∧ hs = []) := by
  refine Ev.func tabOK [0, 2, 3, 4, 10, 12] 0 Tryd.func62 rfl rfl (by simp [Tryd.ntmps62]) (by rfl) (comp62 _ rfl) (rs := [.tmp 2, .tmp 3]) rfl ?_; rw [cc62]; show Ev.Wp _ _ _ _ ⟨[(0, _)], [], 0⟩
  repeat' (first | ((with_reducible first | refine Ev.sided ?_ ?_ | refine Ev.w_put ?_ | refine Ev.w_step ?_ | refine Ev.w_opt ?_); (conv => whnf)) | ((with_reducible refine Ev.chk_k ?_ ?_); rotate_left; (focus first | rfl | (simp only [Ev.nbeq, Bool.and_true, Bool.true_and, Bool.not_false]; done) | ((repeat' (first | exact Ev.nbeq _ | rfl | refine Bool.and_eq_true_iff.2 ⟨?_, ?_⟩)); done)); conv => whnf) | (with_reducible first | refine Ev.c_dec (fun _ => ?_) (fun _ => ?_) | refine Ev.c_not ?_ | refine Ev.c_t ?_ | refine Ev.c_f ?_ | refine Ev.c_br (fun _ => ?_) (fun _ => ?_)) | ((with_reducible refine Ev.br_not ?_); conv => whnf) | (with_reducible first | refine Ev.br_dec (fun _ => ?_) (fun _ => ?_) | refine Ev.br (fun _ => ?_) (fun _ => ?_) | refine Ev.eo_ret ?_ | refine Ev.eo_norm ?_ | refine Ev.t_norm ?_ | refine Ev.k_seq ?_) | ((with_reducible refine Ev.k_reg (hs := []) (tabOK' _ _) (fun Q hQ => ?_)); (simp only [Ev.runE_cons, Ev.runE_nil]); conv => whnf) | (with_reducible refine hQ _ ?_; clear hQ Q) | (with_reducible first | refine Ev.k_cond rfl ?_ | refine Ev.k_skip ?_ | refine Ev.k_block ?_ | refine Ev.k_exit ?_ | refine Ev.k_ret ?_ | refine Ev.t_ret ?_ | refine Ev.t_exit ?_ | refine Ev.b_norm ?_ | refine Ev.b_ret ?_ | refine Ev.b_here ?_ | refine Ev.b_off rfl ?_ | refine Ev.k_label ?_ | refine Ev.k_goto ?_ | refine Ev.t_goto ?_ | refine Ev.b_goto ?_ | refine Ev.j_goto ?_ | refine Ev.j_norm ?_ | refine Ev.j_ret ?_ | refine Ev.j_exit ?_ | refine Ev.n_norm ?_ | refine Ev.n_ret ?_ | refine Ev.n_exit ?_) | ((with_reducible first | refine Ev.e_ret (fun F hF => ?_) | refine Ev.e_norm (fun F hF => ?_) | refine Ev.eh_ret (fun F hF => ?_) | refine Ev.eh_norm (fun F hF => ?_) | refine Ev.go_k (fun c' => ?_) | refine Ev.byt_cut ?_ | refine Ev.byt_all ?_ | refine Ev.run_cut ?_ | refine Ev.run_all ?_); conv => whnf) | (with_reducible refine hF _ ?_; clear hF F) | (with_reducible refine Ev.u_step ?_) | ((refine Ev.el_map0 ?_ (fun hi => ?_)); rotate_left; conv => whnf) | ((refine Ev.el_mapN ?_ (fun hi => ?_)); rotate_left; conv => whnf) | (refine Ev.Side.of ?_; exact Nat.le_of_ble_eq_true rfl) | (refine Ev.Side.of ?_; omega) | (refine Ev.Side.of ?_; simp only [Ev.wrap64]; omega) | (refine Ev.app_one ?_ rfl ?_ (by decide) <;> (first | omega | (simp; done) | (simp; omega))) | (refine Ev.app_nil1 rfl (by decide)) | (refine Ev.app_ys ?_ ?_ ?_ (by decide) <;> (first | omega | exact sps_all _ | exact bts_all _ | exact ints_all _ | exact spss_all _ | (simp; done) | (simp; omega))) | (refine Ev.app_nil ?_ ?_ (by decide) <;> (first | omega | exact sps_all _ | exact bts_all _ | exact ints_all _ | exact spss_all _ | (simp; done) | (simp; omega))) | (refine Ev.Side.of ?_; first | omega | (simp; done) | (simp; omega)))
  refine Ev.jumps (r := ?_) 0 (fun k s => ∃ (f c m v : Nat) (acc : List UInt8), s = ⟨[(0, .v (.int .i64 m)), (2, nilA), (3, .v (.int .i64 0)), (4, .own 2600 v 0 acc.length)], [(2600, ⟨1, 5, v, 0, false, bts acc⟩)], c⟩ ∧ k = f ∧ m < 128 ^ (f + 1) ∧ acc.length + f = 4 ∧ 1 ≤ acc.length ∧ 0 ≤ n ∧ n ≤ 268435455 ∧ putN n.toNat = acc ++ putG f m) (by rfl) ?_ ?_
  · repeat' (first | ((with_reducible first | refine Ev.sided ?_ ?_ | refine Ev.w_put ?_ | refine Ev.w_step ?_ | refine Ev.w_opt ?_); (conv => whnf)) | ((with_reducible refine Ev.chk_k ?_ ?_); rotate_left; (focus first | rfl | (simp only [Ev.nbeq, Bool.and_true, Bool.true_and, Bool.not_false]; done) | ((repeat' (first | exact Ev.nbeq _ | rfl | refine Bool.and_eq_true_iff.2 ⟨?_, ?_⟩)); done)); conv => whnf) | (with_reducible first | refine Ev.c_dec (fun _ => ?_) (fun _ => ?_) | refine Ev.c_not ?_ | refine Ev.c_t ?_ | refine Ev.c_f ?_ | refine Ev.c_br (fun _ => ?_) (fun _ => ?_)) | ((with_reducible refine Ev.br_not ?_); conv => whnf) | (with_reducible first | refine Ev.br_dec (fun _ => ?_) (fun _ => ?_) | refine Ev.br (fun _ => ?_) (fun _ => ?_) | refine Ev.eo_ret ?_ | refine Ev.eo_norm ?_ | refine Ev.t_norm ?_ | refine Ev.k_seq ?_) | ((with_reducible refine Ev.k_reg (hs := []) (tabOK' _ _) (fun Q hQ => ?_)); (simp only [Ev.runE_cons, Ev.runE_nil]); conv => whnf) | (with_reducible refine hQ _ ?_; clear hQ Q) | (with_reducible first | refine Ev.k_cond rfl ?_ | refine Ev.k_skip ?_ | refine Ev.k_block ?_ | refine Ev.k_exit ?_ | refine Ev.k_ret ?_ | refine Ev.t_ret ?_ | refine Ev.t_exit ?_ | refine Ev.b_norm ?_ | refine Ev.b_ret ?_ | refine Ev.b_here ?_ | refine Ev.b_off rfl ?_ | refine Ev.k_label ?_ | refine Ev.k_goto ?_ | refine Ev.t_goto ?_ | refine Ev.b_goto ?_ | refine Ev.j_goto ?_ | refine Ev.j_norm ?_ | refine Ev.j_ret ?_ | refine Ev.j_exit ?_ | refine Ev.n_norm ?_ | refine Ev.n_ret ?_ | refine Ev.n_exit ?_) | ((with_reducible first | refine Ev.e_ret (fun F hF => ?_) | refine Ev.e_norm (fun F hF => ?_) | refine Ev.eh_ret (fun F hF => ?_) | refine Ev.eh_norm (fun F hF => ?_) | refine Ev.go_k (fun c' => ?_) | refine Ev.byt_cut ?_ | refine Ev.byt_all ?_ | refine Ev.run_cut ?_ | refine Ev.run_all ?_); conv => whnf) | (with_reducible refine hF _ ?_; clear hF F) | (with_reducible refine Ev.u_step ?_) | ((refine Ev.el_map0 ?_ (fun hi => ?_)); rotate_left; conv => whnf) | ((refine Ev.el_mapN ?_ (fun hi => ?_)); rotate_left; conv => whnf) | (refine Ev.Side.of ?_; exact Nat.le_of_ble_eq_true rfl) | (refine Ev.Side.of ?_; omega) | (refine Ev.Side.of ?_; simp only [Ev.wrap64]; omega) | (refine Ev.app_one ?_ rfl ?_ (by decide) <;> (first | omega | (simp; done) | (simp; omega))) | (refine Ev.app_nil1 rfl (by decide)) | (refine Ev.app_ys ?_ ?_ ?_ (by decide) <;> (first | omega | exact sps_all _ | exact bts_all _ | exact ints_all _ | exact spss_all _ | (simp; done) | (simp; omega))) | (refine Ev.app_nil ?_ ?_ (by decide) <;> (first | omega | exact sps_all _ | exact bts_all _ | exact ints_all _ | exact spss_all _ | (simp; done) | (simp; omega))) | (refine Ev.Side.of ?_; first | omega | (simp; done) | (simp; omega)))
    · exact ⟨(putA_bad (.inl (by assumption))).symm, rfl⟩
    · exact ⟨(putA_bad (.inr (by assumption))).symm, rfl⟩
    · rename_i h1 h2 h3
      obtain ⟨m, rfl⟩ := Int.eq_ofNat_of_zero_le (show 0 ≤ n by omega)
      have hr := or_row (m := m) (by omega)
      (refine Ev.to _ ?hs1 ?hh1 ?hc1 ⟨3, 3, 16, m / 128, 8, [UInt8.ofNat (128 + m % 128)], rfl, ?hp1⟩; (case hs1 | hh1 => ((repeat' (first | exact trivial | refine And.intro ?_ ?_)) <;> (refine Ev.slot_eq rfl ?_; first | with_reducible rfl | (refine Ev.int_eq ?_; first | omega | (simp only [Ev.wrap64, Ev.wrap8, Ev.wrap32, Int.toNat_natCast] at *; omega)) | ((first | refine Ev.int_eq ?_ | refine Ev.own_eq ?_ | refine Ev.blk_eq ?_ | skip); first | with_reducible rfl | omega | (first | exact fdiv7 m | exact hr | rfl) | rfl) | (first | exact fdiv7 m | exact hr | rfl) | rfl))); (case hc1 => exact Nat.le_refl _))
      exact ⟨rfl, by simp; omega, rfl, by simp, by omega, by omega, by rw [Int.toNat_natCast]; unfold putN; rw [putG_step (by omega)]; rfl⟩
    · rename_i h1 h2 h3
      obtain ⟨m, rfl⟩ := Int.eq_ofNat_of_zero_le (show 0 ≤ n by omega)
      refine ⟨?_, rfl⟩
      rw [putA_ok h1 h2]
      unfold putN
      rw [putG_end 4 (by omega)]
      exact Ev.tup2_eq (Ev.lst_eq (Ev.take_all rfl (end_row (by omega)))) rfl
  · rintro k s1 ⟨f, c, m, v, acc, rfl, hk, hm, hl, hl1, h0, h1, hp⟩
    have hm4 := pow_le4 (by omega) hm
    repeat' (first | ((with_reducible first | refine Ev.sided ?_ ?_ | refine Ev.w_put ?_ | refine Ev.w_step ?_ | refine Ev.w_opt ?_); (conv => whnf)) | ((with_reducible refine Ev.chk_k ?_ ?_); rotate_left; (focus first | rfl | (simp only [Ev.nbeq, Bool.and_true, Bool.true_and, Bool.not_false]; done) | ((repeat' (first | exact Ev.nbeq _ | rfl | refine Bool.and_eq_true_iff.2 ⟨?_, ?_⟩)); done)); conv => whnf) | (with_reducible first | refine Ev.c_dec (fun _ => ?_) (fun _ => ?_) | refine Ev.c_not ?_ | refine Ev.c_t ?_ | refine Ev.c_f ?_ | refine Ev.c_br (fun _ => ?_) (fun _ => ?_)) | ((with_reducible refine Ev.br_not ?_); conv => whnf) | (with_reducible first | refine Ev.br_dec (fun _ => ?_) (fun _ => ?_) | refine Ev.br (fun _ => ?_) (fun _ => ?_) | refine Ev.eo_ret ?_ | refine Ev.eo_norm ?_ | refine Ev.t_norm ?_ | refine Ev.k_seq ?_) | ((with_reducible refine Ev.k_reg (hs := []) (tabOK' _ _) (fun Q hQ => ?_)); (simp only [Ev.runE_cons, Ev.runE_nil]); conv => whnf) | (with_reducible refine hQ _ ?_; clear hQ Q) | (with_reducible first | refine Ev.k_cond rfl ?_ | refine Ev.k_skip ?_ | refine Ev.k_block ?_ | refine Ev.k_exit ?_ | refine Ev.k_ret ?_ | refine Ev.t_ret ?_ | refine Ev.t_exit ?_ | refine Ev.b_norm ?_ | refine Ev.b_ret ?_ | refine Ev.b_here ?_ | refine Ev.b_off rfl ?_ | refine Ev.k_label ?_ | refine Ev.k_goto ?_ | refine Ev.t_goto ?_ | refine Ev.b_goto ?_ | refine Ev.j_goto ?_ | refine Ev.j_norm ?_ | refine Ev.j_ret ?_ | refine Ev.j_exit ?_ | refine Ev.n_norm ?_ | refine Ev.n_ret ?_ | refine Ev.n_exit ?_) | ((with_reducible first | refine Ev.e_ret (fun F hF => ?_) | refine Ev.e_norm (fun F hF => ?_) | refine Ev.eh_ret (fun F hF => ?_) | refine Ev.eh_norm (fun F hF => ?_) | refine Ev.go_k (fun c' => ?_) | refine Ev.byt_cut ?_ | refine Ev.byt_all ?_ | refine Ev.run_cut ?_ | refine Ev.run_all ?_); conv => whnf) | (with_reducible refine hF _ ?_; clear hF F) | (with_reducible refine Ev.u_step ?_) | ((refine Ev.el_map0 ?_ (fun hi => ?_)); rotate_left; conv => whnf) | ((refine Ev.el_mapN ?_ (fun hi => ?_)); rotate_left; conv => whnf) | (refine Ev.Side.of ?_; exact Nat.le_of_ble_eq_true rfl) | (refine Ev.Side.of ?_; omega) | (refine Ev.Side.of ?_; simp only [Ev.wrap64]; omega) | (refine Ev.app_one ?_ rfl ?_ (by decide) <;> (first | omega | (simp; done) | (simp; omega))) | (refine Ev.app_nil1 rfl (by decide)) | (refine Ev.app_ys ?_ ?_ ?_ (by decide) <;> (first | omega | exact sps_all _ | exact bts_all _ | exact ints_all _ | exact spss_all _ | (simp; done) | (simp; omega))) | (refine Ev.app_nil ?_ ?_ (by decide) <;> (first | omega | exact sps_all _ | exact bts_all _ | exact ints_all _ | exact spss_all _ | (simp; done) | (simp; omega))) | (refine Ev.Side.of ?_; first | omega | (simp; done) | (simp; omega)))
    · rename_i h3
      have hr := or_row (m := m) (by omega)
      cases f with
      | zero => omega
      | succ f =>
        (refine Ev.again (k - 1) _ ?hm2 ?hs2 ?hh2 ?hc2 ⟨f, c + 16, m / 128, c + 8, acc ++ [UInt8.ofNat (128 + m % 128)], rfl, ?hp2⟩; (case hs2 | hh2 => ((repeat' (first | exact trivial | refine And.intro ?_ ?_)) <;> (refine Ev.slot_eq rfl ?_; first | with_reducible rfl | (refine Ev.int_eq ?_; first | omega | (simp only [Ev.wrap64, Ev.wrap8, Ev.wrap32, Int.toNat_natCast] at *; omega)) | ((first | refine Ev.int_eq ?_ | refine Ev.own_eq ?_ | refine Ev.blk_eq ?_ | skip); first | with_reducible rfl | omega | (first | exact fdiv7 m | (rw [bts_app, hr]; done) | (simp; done) | rfl) | rfl) | (first | exact fdiv7 m | (rw [bts_app, hr]; done) | (simp; done) | rfl) | rfl))); (case hc2 => exact Nat.le_refl _); (case hm2 => omega))
        refine ⟨by omega, ?_, by simp; omega, by simp, h0, h1, by rw [hp, putG_step (by omega)]; simp⟩
        rw [Nat.pow_succ] at hm
        exact (Nat.div_lt_iff_lt_mul (by decide)).2 hm
    · rename_i h3
      refine ⟨?_, rfl⟩
      rw [putA_ok (by omega) (by omega), hp, putG_end f (by omega)]
      exact Ev.tup2_eq (Ev.lst_eq (Ev.take_all (by simp) (by rw [bts_app, end_row (by omega)]))) rfl
end Go.Proofs.YthdjbgbfboppcaaDoor.Abs

namespace Go.Proofs.YthdjbgbfboppcaaDoor.Abs
open Go
set_option maxRecDepth 100000
set_option linter.unusedSimpArgs false
set_option linter.unusedVariables false
attribute [local irreducible] Ev.Unr Ev.Go' Ev.bytK Ev.runK Ev.FinL Ev.brC Ev.Side Ev.Wp Ev.Again Ev.To Ev.Fin
open Go.Lib Go.RowKit
theorem rem_row {m : Nat} (h : m < 268435456) : List.take 1 (List.drop 0 [[AV.v (.int .u8 (IntKind.u8.wrap (IntKind.i64.wrap (128 + (m : Int).tmod 128))))]]) = bts [UInt8.ofNat (128 + m % 128)] := by
  have : IntKind.u8.wrap (IntKind.i64.wrap (128 + (m : Int).tmod 128)) = ((UInt8.ofNat (128 + m % 128)).toNat : Int) := by
    rw [ofNat_toNat (by omega), Ev.wrap8, Ev.wrap64, Int.tmod_eq_emod_of_nonneg (by omega)]; omega
  rw [this]; rfl
def PutR (n : Int) (r : AV) (hs : List Blk) : Prop :=
  if n < 0 ∨ 268435455 < n then r = .tup [nilA, .v (.int .i64 2)] ∧ hs = [] else r = .tup [.own 0 0 0 (putN n.toNat).length, .v (.int .i64 0)] ∧ hs = [⟨1, 5, 0, 0, false, bts (putN n.toNat)⟩]
theorem rput_call (n : Int) : CallW env 78 [.v (.int .i64 n)] (PutR n) := by
  refine Ev.funcO tabOK [0, 2, 3, 4, 10, 13] 0 Tryd.func78 rfl rfl (by simp [Tryd.ntmps78]) (by rfl) (comp78 _ rfl) (rs := [.tmp 2, .tmp 3]) rfl ?_; rw [cc78]; show Ev.Wp _ _ _ _ ⟨[(0, _)], [], 0⟩
  repeat' (first | ((with_reducible first | refine Ev.sided ?_ ?_ | refine Ev.w_put ?_ | refine Ev.w_step ?_ | refine Ev.w_opt ?_); (conv => whnf)) | ((with_reducible refine Ev.chk_k ?_ ?_); rotate_left; (focus first | rfl | (simp only [Ev.nbeq, Bool.and_true, Bool.true_and, Bool.not_false]; done) | ((repeat' (first | exact Ev.nbeq _ | rfl | refine Bool.and_eq_true_iff.2 ⟨?_, ?_⟩)); done)); conv => whnf) | (with_reducible first | refine Ev.c_dec (fun _ => ?_) (fun _ => ?_) | refine Ev.c_not ?_ | refine Ev.c_t ?_ | refine Ev.c_f ?_ | refine Ev.c_br (fun _ => ?_) (fun _ => ?_)) | ((with_reducible refine Ev.br_not ?_); conv => whnf) | (with_reducible first | refine Ev.br_dec (fun _ => ?_) (fun _ => ?_) | refine Ev.br (fun _ => ?_) (fun _ => ?_) | refine Ev.eo_ret ?_ | refine Ev.eo_norm ?_ | refine Ev.t_norm ?_ | refine Ev.k_seq ?_) | ((with_reducible refine Ev.k_reg (hs := []) (tabOK' _ _) (fun Q hQ => ?_)); (simp only [Ev.runE_cons, Ev.runE_nil]); conv => whnf) | (with_reducible refine hQ _ ?_; clear hQ Q) | (with_reducible first | refine Ev.k_cond rfl ?_ | refine Ev.k_skip ?_ | refine Ev.k_block ?_ | refine Ev.k_exit ?_ | refine Ev.k_ret ?_ | refine Ev.t_ret ?_ | refine Ev.t_exit ?_ | refine Ev.b_norm ?_ | refine Ev.b_ret ?_ | refine Ev.b_here ?_ | refine Ev.b_off rfl ?_) | ((with_reducible first | refine Ev.e_ret (fun F hF => ?_) | refine Ev.e_norm (fun F hF => ?_) | refine Ev.eh_ret (fun F hF => ?_) | refine Ev.eh_norm (fun F hF => ?_) | refine Ev.go_k (fun c' => ?_) | refine Ev.byt_cut ?_ | refine Ev.byt_all ?_ | refine Ev.run_cut ?_ | refine Ev.run_all ?_); conv => whnf) | (with_reducible refine hF _ ?_; clear hF F) | (with_reducible refine Ev.u_step ?_) | ((refine Ev.el_map0 ?_ (fun hi => ?_)); rotate_left; conv => whnf) | ((refine Ev.el_mapN ?_ (fun hi => ?_)); rotate_left; conv => whnf) | (refine Ev.Side.of ?_; exact Nat.le_of_ble_eq_true rfl) | (refine Ev.Side.of ?_; omega) | (refine Ev.Side.of ?_; simp only [Ev.wrap64]; omega) | (refine Ev.app_one ?_ rfl ?_ (by decide) <;> (first | omega | (simp; done) | (simp; omega))) | (refine Ev.app_nil1 rfl (by decide)) | (refine Ev.app_ys ?_ ?_ ?_ (by decide) <;> (first | omega | exact sps_all _ | exact bts_all _ | exact ints_all _ | exact spss_all _ | (simp; done) | (simp; omega))) | (refine Ev.app_nil ?_ ?_ (by decide) <;> (first | omega | exact sps_all _ | exact bts_all _ | exact ints_all _ | exact spss_all _ | (simp; done) | (simp; omega))) | (refine Ev.Side.of ?_; first | omega | (simp; done) | (simp; omega)))
  · refine Ev.finL [] (by simp) (fun F hF => ?_)
    conv => whnf
    refine hF _ ?_
    exact (if_pos (.inl (by assumption))).mpr ⟨rfl, rfl⟩
  · refine Ev.finL [] (by simp) (fun F hF => ?_)
    conv => whnf
    refine hF _ ?_
    exact (if_pos (.inr (by assumption))).mpr ⟨rfl, rfl⟩
  rename_i h1 h2
  obtain ⟨n, rfl⟩ := Int.eq_ofNat_of_zero_le (show 0 ≤ n by omega)
  refine Ev.loop (fun k s => ∃ (f c m v : Nat) (acc : List UInt8), s = ⟨[(0, .v (.int .i64 m)), (2, nilA), (3, .v (.int .i64 0)), (4, .own 1536 v 0 acc.length)], [(1536, ⟨1, 5, v, 0, false, bts acc⟩)], c⟩ ∧ k = f ∧ m < 128 ^ f ∧ m < 268435456 ∧ acc.length + f = 4 ∧ putN n = acc ++ putG f m) ?_ ?_
  · (refine Ev.to _ ?hs1 ?hh1 ?hc1 ⟨4, 4, 8, n, 0, [], rfl, ?hp1⟩; (case hs1 | hh1 => ((repeat' (first | exact trivial | refine And.intro ?_ ?_)) <;> (refine Ev.slot_eq rfl ?_; first | with_reducible rfl | (refine Ev.int_eq ?_; first | omega | (simp only [Ev.wrap64, Ev.wrap8, Ev.wrap32, Int.toNat_natCast] at *; omega)) | ((first | refine Ev.int_eq ?_ | refine Ev.own_eq ?_ | refine Ev.blk_eq ?_ | skip); first | with_reducible rfl | omega | (first | rfl | (simp; done)) | rfl) | (first | rfl | (simp; done)) | rfl))); (case hc1 => exact Nat.le_refl _))
    exact ⟨rfl, by simp; omega, by omega, by simp, rfl⟩
  rintro k s1 ⟨f, c, m, v, acc, rfl, hk, hm, hm4, hl, hp⟩
  repeat' (first | ((with_reducible first | refine Ev.sided ?_ ?_ | refine Ev.w_put ?_ | refine Ev.w_step ?_ | refine Ev.w_opt ?_); (conv => whnf)) | ((with_reducible refine Ev.chk_k ?_ ?_); rotate_left; (focus first | rfl | (simp only [Ev.nbeq, Bool.and_true, Bool.true_and, Bool.not_false]; done) | ((repeat' (first | exact Ev.nbeq _ | rfl | refine Bool.and_eq_true_iff.2 ⟨?_, ?_⟩)); done)); conv => whnf) | (with_reducible first | refine Ev.c_dec (fun _ => ?_) (fun _ => ?_) | refine Ev.c_not ?_ | refine Ev.c_t ?_ | refine Ev.c_f ?_ | refine Ev.c_br (fun _ => ?_) (fun _ => ?_)) | ((with_reducible refine Ev.br_not ?_); conv => whnf) | (with_reducible first | refine Ev.br_dec (fun _ => ?_) (fun _ => ?_) | refine Ev.br (fun _ => ?_) (fun _ => ?_) | refine Ev.eo_ret ?_ | refine Ev.eo_norm ?_ | refine Ev.t_norm ?_ | refine Ev.k_seq ?_) | ((with_reducible refine Ev.k_reg (hs := []) (tabOK' _ _) (fun Q hQ => ?_)); (simp only [Ev.runE_cons, Ev.runE_nil]); conv => whnf) | (with_reducible refine hQ _ ?_; clear hQ Q) | (with_reducible first | refine Ev.k_cond rfl ?_ | refine Ev.k_skip ?_ | refine Ev.k_block ?_ | refine Ev.k_exit ?_ | refine Ev.k_ret ?_ | refine Ev.t_ret ?_ | refine Ev.t_exit ?_ | refine Ev.b_norm ?_ | refine Ev.b_ret ?_ | refine Ev.b_here ?_ | refine Ev.b_off rfl ?_) | ((with_reducible first | refine Ev.e_ret (fun F hF => ?_) | refine Ev.e_norm (fun F hF => ?_) | refine Ev.eh_ret (fun F hF => ?_) | refine Ev.eh_norm (fun F hF => ?_) | refine Ev.go_k (fun c' => ?_) | refine Ev.byt_cut ?_ | refine Ev.byt_all ?_ | refine Ev.run_cut ?_ | refine Ev.run_all ?_); conv => whnf) | (with_reducible refine hF _ ?_; clear hF F) | (with_reducible refine Ev.u_step ?_) | ((refine Ev.el_map0 ?_ (fun hi => ?_)); rotate_left; conv => whnf) | ((refine Ev.el_mapN ?_ (fun hi => ?_)); rotate_left; conv => whnf) | (refine Ev.Side.of ?_; exact Nat.le_of_ble_eq_true rfl) | (refine Ev.Side.of ?_; omega) | (refine Ev.Side.of ?_; simp only [Ev.wrap64]; omega) | (refine Ev.app_one ?_ rfl ?_ (by decide) <;> (first | omega | (simp; done) | (simp; omega))) | (refine Ev.app_nil1 rfl (by decide)) | (refine Ev.app_ys ?_ ?_ ?_ (by decide) <;> (first | omega | exact sps_all _ | exact bts_all _ | exact ints_all _ | exact spss_all _ | (simp; done) | (simp; omega))) | (refine Ev.app_nil ?_ ?_ (by decide) <;> (first | omega | exact sps_all _ | exact bts_all _ | exact ints_all _ | exact spss_all _ | (simp; done) | (simp; omega))) | (refine Ev.Side.of ?_; first | omega | (simp; done) | (simp; omega)))
  · rename_i h3
    cases f with
    | zero => simp at hm; omega
    | succ f =>
      have hr := rem_row (m := m) (by omega)
      (refine Ev.again (k - 1) _ ?hm2 ?hs2 ?hh2 ?hc2 ⟨f, c + 16, m / 128, c + 8, acc ++ [UInt8.ofNat (128 + m % 128)], rfl, ?hp2⟩; (case hs2 | hh2 => ((repeat' (first | exact trivial | refine And.intro ?_ ?_)) <;> (refine Ev.slot_eq rfl ?_; first | with_reducible rfl | (refine Ev.int_eq ?_; first | omega | (simp only [Ev.wrap64, Ev.wrap8, Ev.wrap32, Int.toNat_natCast] at *; omega)) | ((first | refine Ev.int_eq ?_ | refine Ev.own_eq ?_ | refine Ev.blk_eq ?_ | skip); first | with_reducible rfl | omega | (first | (rw [bts_app, hr]; done) | (simp; done) | (simp only [Ev.wrap64]; rw [Int.tdiv_eq_ediv_of_nonneg (by omega)]; omega) | rfl) | rfl) | (first | (rw [bts_app, hr]; done) | (simp; done) | (simp only [Ev.wrap64]; rw [Int.tdiv_eq_ediv_of_nonneg (by omega)]; omega) | rfl) | rfl))); (case hc2 => exact Nat.le_refl _); (case hm2 => omega))
      refine ⟨by omega, ?_, by omega, by simp; omega, by rw [hp, putG_step (by omega)]; simp⟩
      rw [Nat.pow_succ] at hm
      exact (Nat.div_lt_iff_lt_mul (by decide)).2 hm
  · rename_i h3
    refine Ev.finL [(1536, c + 8)] (by simp) (fun F hF => ?_)
    simp only [Ev.FinP.resK, get_cons, get_nil, Nat.reduceEqDiff, if_false, if_true, handed, rens, ren, idx, and_self, Option.map_some, resOf, Nat.reduceMul, Nat.zero_add, Nat.reduceAdd]
    refine hF _ ?_
    have e := end_row (m := m) (by omega)
    unfold PutR
    rw [if_neg (by omega), Int.toNat_natCast, hp, putG_end f (by omega), e, bts_app]
    simp
end Go.Proofs.YthdjbgbfboppcaaDoor.Abs

namespace Go.Proofs.YthdjbgbfboppcaaDoor.Abs
open Go
set_option maxRecDepth 100000
set_option linter.unusedSimpArgs false
set_option linter.unusedVariables false
attribute [local irreducible] Ev.Unr Ev.Go' Ev.bytK Ev.runK Ev.FinL Ev.brC Ev.Side Ev.Wp Ev.Again Ev.To Ev.Fin
open Go.Lib Go.RowKit
def tup3 (x : Int × Int × Int) : AV := .tup [.v (.int .i64 x.1), .v (.int .i64 x.2.1), .v (.int .i64 x.2.2)]
theorem takeG_nil {i acc : Nat} : takeG i acc [] = if 4 ≤ i then (0, 0, 8) else (0, 0, 7) := rfl
theorem takeG_at {b : List UInt8} {i acc : Nat} (hi : i < b.length) : takeG i acc (b.drop i) = if i = 4 then (0, 0, 8) else if 128 ≤ b[i].toNat then takeG (i + 1) (acc + (b[i].toNat - 128) * 128 ^ i) (b.drop (i + 1)) else if b[i].toNat = 0 ∧ 0 < i then (0, 0, 8) else (((acc + b[i].toNat * 128 ^ i : Nat) : Int), ((i + 1 : Nat) : Int), 0) := by
  rw [List.drop_eq_getElem_cons hi]; rfl
theorem shl_or {acc x i : Nat} (hx : x < 128) (ha : acc < 128 ^ i) (hi : i ≤ 3) : bitsOf .or .i64 (acc : Int) (IntKind.i64.wrap ((x : Int) * 2 ^ min (IntKind.i64.wrap (7 * (i : Int))).toNat IntKind.i64.bits)) = ((acc + x * 128 ^ i : Nat) : Int) := by
  have e7 : (IntKind.i64.wrap (7 * (i : Int))).toNat = 7 * i := by clear ha; rw [wrap_id (by omega)]; omega
  have em : min (7 * i) IntKind.i64.bits = 7 * i := by simp only [IntKind.bits]; omega
  have ep : (2 : Int) ^ (7 * i) = ((128 ^ i : Nat) : Int) := by rw [show (128 : Nat) = 2 ^ 7 from rfl, ← Nat.pow_mul, Int.natCast_pow]; rfl
  have h3 : 128 ^ i ≤ 2097152 := by
    have : 128 ^ i ≤ 128 ^ 3 := Nat.pow_le_pow_right (by decide) hi
    omega
  have hb : x * 128 ^ i ≤ 128 * 2097152 := Nat.mul_le_mul (by omega) h3
  rw [e7, em, ep, ← Int.natCast_mul]
  have ew : IntKind.i64.wrap ((x * 128 ^ i : Nat) : Int) = ((x * 128 ^ i : Nat) : Int) := by rw [Ev.wrap64]; omega
  rw [ew, bits_or _ _ (by omega) (by omega)]
  have e2 : 128 ^ i = 2 ^ (7 * i) := by rw [Nat.pow_mul]
  rw [e2] at ha ⊢
  rw [or_add _ _ _ ha]
theorem acc_lt {acc x i : Nat} (hx : x < 128) (ha : acc < 128 ^ i) : acc + x * 128 ^ i < 128 ^ (i + 1) := by
  rw [Nat.pow_succ]
  have : x * 128 ^ i ≤ 127 * 128 ^ i := Nat.mul_le_mul_right _ (by omega)
  omega
theorem take_acc {acc i : Nat} (c : UInt8) (ha : acc < 128 ^ i) (hi : i ≤ 3) : bitsOf .or .i64 (acc : Int) (IntKind.i64.wrap (IntKind.i64.wrap (bitsOf .and .u8 (c.toNat : Int) 127) * 2 ^ min (IntKind.i64.wrap (7 * (i : Int))).toNat IntKind.i64.bits)) = ((acc + c.toNat % 128 * 128 ^ i : Nat) : Int) := by
  rw [and_u8]
  have : IntKind.i64.wrap ((c.toNat % 128 : Nat) : Int) = ((c.toNat % 128 : Nat) : Int) := by clear ha; rw [Ev.wrap64]; omega
  rw [this, shl_or (by omega) ha hi]
theorem wrap_succ {i : Nat} (h : i ≤ 1000000000) : IntKind.i64.wrap ((i : Int) + 1) = ((i + 1 : Nat) : Int) := by rw [wrap_id (by omega)]; omega
theorem ntake_call (b : List UInt8) (hb : b.length ≤ 1000000000) : CallW env 58 [.lst 1 (bts b)] (fun r hs => r = tup3 (takeN b) ∧ hs = []) := by
  refine Ev.func tabOK [0, 2, 3, 4, 5, 6, 7, 8, 9, 10, 15, 24, 27, 40] 0 Tryd.func58 rfl rfl (by simp [Tryd.ntmps58]) (by rfl) (comp58 _ rfl) (rs := [.tmp 2, .tmp 3, .tmp 4]) rfl ?_; rw [cc58]; show Ev.Wp _ _ _ _ ⟨[(0, _)], [], 0⟩
  repeat' (first | ((with_reducible first | refine Ev.sided ?_ ?_ | refine Ev.w_put ?_ | refine Ev.w_step ?_ | refine Ev.w_opt ?_); (conv => whnf)) | ((with_reducible refine Ev.chk_k ?_ ?_); rotate_left; (focus first | rfl | (simp only [Ev.nbeq, Bool.and_true, Bool.true_and, Bool.not_false]; done) | ((repeat' (first | exact Ev.nbeq _ | rfl | refine Bool.and_eq_true_iff.2 ⟨?_, ?_⟩)); done)); conv => whnf) | (with_reducible first | refine Ev.c_dec (fun _ => ?_) (fun _ => ?_) | refine Ev.c_not ?_ | refine Ev.c_t ?_ | refine Ev.c_f ?_ | refine Ev.c_br (fun _ => ?_) (fun _ => ?_)) | ((with_reducible refine Ev.br_not ?_); conv => whnf) | (with_reducible first | refine Ev.br_dec (fun _ => ?_) (fun _ => ?_) | refine Ev.br (fun _ => ?_) (fun _ => ?_) | refine Ev.eo_ret ?_ | refine Ev.eo_norm ?_ | refine Ev.t_norm ?_ | refine Ev.k_seq ?_) | ((with_reducible refine Ev.k_reg (hs := []) (tabOK' _ _) (fun Q hQ => ?_)); (simp only [Ev.runE_cons, Ev.runE_nil]); conv => whnf) | (with_reducible refine hQ _ ?_; clear hQ Q) | (with_reducible first | refine Ev.k_cond rfl ?_ | refine Ev.k_skip ?_ | refine Ev.k_block ?_ | refine Ev.k_exit ?_ | refine Ev.k_ret ?_ | refine Ev.t_ret ?_ | refine Ev.t_exit ?_ | refine Ev.b_norm ?_ | refine Ev.b_ret ?_ | refine Ev.b_here ?_ | refine Ev.b_off rfl ?_) | ((with_reducible first | refine Ev.e_ret (fun F hF => ?_) | refine Ev.e_norm (fun F hF => ?_) | refine Ev.eh_ret (fun F hF => ?_) | refine Ev.eh_norm (fun F hF => ?_) | refine Ev.go_k (fun c' => ?_) | refine Ev.byt_cut ?_ | refine Ev.byt_all ?_ | refine Ev.run_cut ?_ | refine Ev.run_all ?_); conv => whnf) | (with_reducible refine hF _ ?_; clear hF F) | (with_reducible refine Ev.u_step ?_) | ((refine Ev.el_map0 ?_ (fun hi => ?_)); rotate_left; conv => whnf) | ((refine Ev.el_mapN ?_ (fun hi => ?_)); rotate_left; conv => whnf) | (refine Ev.Side.of ?_; exact Nat.le_of_ble_eq_true rfl) | (refine Ev.Side.of ?_; omega) | (refine Ev.Side.of ?_; simp only [Ev.wrap64]; omega) | (refine Ev.app_one ?_ rfl ?_ (by decide) <;> (first | omega | (simp; done) | (simp; omega))) | (refine Ev.app_nil1 rfl (by decide)) | (refine Ev.app_ys ?_ ?_ ?_ (by decide) <;> (first | omega | exact sps_all _ | exact bts_all _ | exact ints_all _ | exact spss_all _ | (simp; done) | (simp; omega))) | (refine Ev.app_nil ?_ ?_ (by decide) <;> (first | omega | exact sps_all _ | exact bts_all _ | exact ints_all _ | exact spss_all _ | (simp; done) | (simp; omega))) | (refine Ev.Side.of ?_; first | omega | (simp; done) | (simp; omega)))
  refine Ev.loop (fun k s => ∃ i acc : Nat, s = ⟨[(0, .lst 1 (bts b)), (2, .v (.int .i64 acc)), (3, .v (.int .i64 0)), (4, .v (.int .i64 0)), (7, .lst 1 (bts b)), (8, .v (.int .i64 b.length)), (9, .v (.int .i64 i))], [], 0⟩ ∧ k + i = b.length ∧ i ≤ 4 ∧ acc < 128 ^ i ∧ takeN b = takeG i acc (b.drop i)) ?_ ?_
  · (refine Ev.to _ ?hs1 ?hh1 ?hc1 ⟨b.length, 0, 0, rfl, ?hp1⟩; (case hs1 | hh1 => ((repeat' (first | exact trivial | refine And.intro ?_ ?_)) <;> (refine Ev.slot_eq rfl ?_; first | with_reducible rfl | (refine Ev.int_eq ?_; first | omega | (simp only [Ev.wrap64, Ev.wrap8, Ev.wrap32, Int.toNat_natCast] at *; omega)) | ((first | refine Ev.int_eq ?_ | refine Ev.own_eq ?_ | refine Ev.blk_eq ?_ | skip); first | with_reducible rfl | omega | (first | rfl | (simp; done)) | rfl) | (first | rfl | (simp; done)) | rfl))); (case hc1 => exact Nat.le_refl _))
    exact ⟨by omega, by omega, by simp, by simp [takeN]⟩
  rintro k s1 ⟨i, acc, rfl, hk, hi4, ha, ht⟩
  repeat' (first | ((with_reducible first | refine Ev.sided ?_ ?_ | refine Ev.w_put ?_ | refine Ev.w_step ?_ | refine Ev.w_opt ?_); (conv => whnf)) | ((with_reducible refine Ev.chk_k ?_ ?_); rotate_left; (focus first | rfl | (simp only [Ev.nbeq, Bool.and_true, Bool.true_and, Bool.not_false]; done) | ((repeat' (first | exact Ev.nbeq _ | rfl | refine Bool.and_eq_true_iff.2 ⟨?_, ?_⟩)); done)); conv => whnf) | (with_reducible first | refine Ev.c_dec (fun _ => ?_) (fun _ => ?_) | refine Ev.c_not ?_ | refine Ev.c_t ?_ | refine Ev.c_f ?_ | refine Ev.c_br (fun _ => ?_) (fun _ => ?_)) | ((with_reducible refine Ev.br_not ?_); conv => whnf) | (with_reducible first | refine Ev.br_dec (fun _ => ?_) (fun _ => ?_) | refine Ev.br (fun _ => ?_) (fun _ => ?_) | refine Ev.eo_ret ?_ | refine Ev.eo_norm ?_ | refine Ev.t_norm ?_ | refine Ev.k_seq ?_) | ((with_reducible refine Ev.k_reg (hs := []) (tabOK' _ _) (fun Q hQ => ?_)); (simp only [Ev.runE_cons, Ev.runE_nil]); conv => whnf) | (with_reducible refine hQ _ ?_; clear hQ Q) | (with_reducible first | refine Ev.k_cond rfl ?_ | refine Ev.k_skip ?_ | refine Ev.k_block ?_ | refine Ev.k_exit ?_ | refine Ev.k_ret ?_ | refine Ev.t_ret ?_ | refine Ev.t_exit ?_ | refine Ev.b_norm ?_ | refine Ev.b_ret ?_ | refine Ev.b_here ?_ | refine Ev.b_off rfl ?_) | ((with_reducible first | refine Ev.e_ret (fun F hF => ?_) | refine Ev.e_norm (fun F hF => ?_) | refine Ev.eh_ret (fun F hF => ?_) | refine Ev.eh_norm (fun F hF => ?_) | refine Ev.go_k (fun c' => ?_) | refine Ev.byt_cut ?_ | refine Ev.byt_all ?_ | refine Ev.run_cut ?_ | refine Ev.run_all ?_); conv => whnf) | (with_reducible refine hF _ ?_; clear hF F) | (with_reducible refine Ev.u_step ?_) | ((refine Ev.el_map0 ?_ (fun hi => ?_)); rotate_left; conv => whnf) | ((refine Ev.el_mapN ?_ (fun hi => ?_)); rotate_left; conv => whnf) | (refine Ev.Side.of ?_; exact Nat.le_of_ble_eq_true rfl) | (refine Ev.Side.of ?_; omega) | (refine Ev.Side.of ?_; simp only [Ev.wrap64]; omega) | (refine Ev.app_one ?_ rfl ?_ (by decide) <;> (first | omega | (simp; done) | (simp; omega))) | (refine Ev.app_nil1 rfl (by decide)) | (refine Ev.app_ys ?_ ?_ ?_ (by decide) <;> (first | omega | exact sps_all _ | exact bts_all _ | exact ints_all _ | exact spss_all _ | (simp; done) | (simp; omega))) | (refine Ev.app_nil ?_ ?_ (by decide) <;> (first | omega | exact sps_all _ | exact bts_all _ | exact ints_all _ | exact spss_all _ | (simp; done) | (simp; omega))) | (refine Ev.Side.of ?_; first | omega | (simp; done) | (simp; omega)))
  · rename_i hi h4
    rw [takeG_at hi, if_pos (by omega)] at ht
    rw [ht]; exact ⟨rfl, rfl⟩
  · rename_i hi h4 h8
    rw [takeG_at hi, if_neg (by omega), if_pos (by omega)] at ht
    have e : b[i].toNat % 128 = b[i].toNat - 128 := by have := b[i].toNat_lt; omega
    have hta := take_acc b[i] ha (by omega)
    rw [e] at hta
    (refine Ev.again (k - 1) _ ?hm2 ?hs2 ?hh2 ?hc2 ⟨i + 1, acc + (b[i].toNat - 128) * 128 ^ i, rfl, ?hp2⟩; (case hs2 | hh2 => ((repeat' (first | exact trivial | refine And.intro ?_ ?_)) <;> (refine Ev.slot_eq rfl ?_; first | with_reducible rfl | (refine Ev.int_eq ?_; first | omega | (simp only [Ev.wrap64, Ev.wrap8, Ev.wrap32, Int.toNat_natCast] at *; omega)) | ((first | refine Ev.int_eq ?_ | refine Ev.own_eq ?_ | refine Ev.blk_eq ?_ | skip); first | with_reducible rfl | omega | (first | exact hta | (simp; done)) | rfl) | (first | exact hta | (simp; done)) | rfl))); (case hc2 => exact Nat.le_refl _); (case hm2 => omega))
    exact ⟨by omega, by omega, by rw [← e]; exact acc_lt (by omega) ha, ht⟩
  · rename_i hi h4 h8 h0 hp
    rw [takeG_at hi, if_neg (by omega), if_neg (by omega), if_pos (by omega)] at ht
    rw [ht]; exact ⟨rfl, rfl⟩
  · rename_i hi h4 h8 h0 hp
    rw [takeG_at hi, if_neg (by omega), if_neg (by omega), if_neg (by omega)] at ht
    have hta := take_acc b[i] ha (by omega)
    rw [show b[i].toNat % 128 = b[i].toNat by omega] at hta
    rw [ht]; exact ⟨Ev.tup3_eq (Ev.int_eq hta) (Ev.int_eq (wrap_succ (by omega))) rfl, rfl⟩
  · rename_i hi h4 h8 h0
    rw [takeG_at hi, if_neg (by omega), if_neg (by omega), if_neg (by omega)] at ht
    have hta := take_acc b[i] ha (by omega)
    rw [show b[i].toNat % 128 = b[i].toNat by omega] at hta
    rw [ht]; exact ⟨Ev.tup3_eq (Ev.int_eq hta) (Ev.int_eq (wrap_succ (by omega))) rfl, rfl⟩
  · refine Ev.Side.of ?_
    clear ha ht; rw [wrap_id (by omega)]; omega
  · rename_i h1 h4
    rw [bts_len] at h4
    rw [List.drop_of_length_le (by omega), takeG_nil, if_pos (by omega)] at ht
    rw [ht]; exact ⟨rfl, rfl⟩
  · rename_i h1 h4
    rw [bts_len] at h4
    rw [List.drop_of_length_le (by omega), takeG_nil, if_neg (by omega)] at ht
    rw [ht]; exact ⟨rfl, rfl⟩
end Go.Proofs.YthdjbgbfboppcaaDoor.Abs

namespace Go.Proofs.YthdjbgbfboppcaaDoor.Abs
open Go
set_option maxRecDepth 100000
set_option linter.unusedSimpArgs false
set_option linter.unusedVariables false
attribute [local irreducible] Ev.Unr Ev.Go' Ev.bytK Ev.runK Ev.FinL Ev.brC Ev.Side Ev.Wp Ev.Again Ev.To Ev.Fin
open Go.Lib Go.RowKit
def byN (b : List UInt8) (i : Nat) : Nat := (b.getD i 0).toNat
theorem byN_at {b : List UInt8} {i : Nat} (h : i < b.length) : b[i].toNat = byN b i := by simp [byN, List.getD_eq_getElem?_getD, h]
theorem byN_lt (b : List UInt8) (i : Nat) : byN b i < 256 := (b.getD i 0).toNat_lt
def lowN (b : List UInt8) : Nat → Nat
  | 0 => 0
  | k + 1 => lowN b k + (byN b k - 128) * 128 ^ k
theorem lowN_lt (b : List UInt8) : ∀ k, lowN b k < 128 ^ k
  | 0 => by simp [lowN]
  | k + 1 => by have := byN_lt b k; exact acc_lt (by omega) (lowN_lt b k)
theorem going (b : List UInt8) : ∀ k, k ≤ 4 → k ≤ b.length → (∀ j, j < k → 128 ≤ byN b j) → takeN b = takeG k (lowN b k) (b.drop k)
  | 0, _, _, _ => by simp [takeN, lowN]
  | k + 1, h4, hl, h => by
    rw [going b k (by omega) (by omega) (fun j hj => h j (by omega)), takeG_at (by omega), if_neg (by omega), byN_at (by omega), if_pos (h k (by omega))]; rfl
theorem going4 {b : List UInt8} (hl : 4 ≤ b.length) (h : ∀ j, j < 4 → 128 ≤ byN b j) : takeN b = (0, 0, 8) := by
  rw [going b 4 (by omega) hl h]
  cases b.drop 4 with
  | nil => rfl
  | cons c l => simp [takeG]
theorem goingS {b : List UInt8} {k : Nat} (hk : k < 4) (hl : k = b.length) (h : ∀ j, j < k → 128 ≤ byN b j) : takeN b = (0, 0, 7) := by
  rw [going b k (by omega) (by omega) h, List.drop_of_length_le (by omega), takeG_nil, if_neg (by omega)]
theorem going0 {b : List UInt8} {k : Nat} (hk : k < 4) (hl : k < b.length) (h : ∀ j, j < k → 128 ≤ byN b j) (h1 : ¬ 128 ≤ byN b k) : takeN b = if byN b k = 0 ∧ 0 < k then (0, 0, 8) else (((lowN b k + byN b k * 128 ^ k : Nat) : Int), ((k + 1 : Nat) : Int), 0) := by
  rw [going b k (by omega) (by omega) h, takeG_at hl, if_neg (by omega), byN_at hl, if_neg h1]
theorem back_step (b : List UInt8) {i n N : Nat} (h : n * 128 ^ (i + 1) + lowN b (i + 1) = N) (hN : N < 268435456) : (n * 128 + (byN b i - 128)) * 128 ^ i + lowN b i = N ∧ n < 268435456 := by
  rw [← h, lowN, Nat.pow_succ]
  refine ⟨?_, ?_⟩
  · rw [Nat.add_mul, Nat.mul_assoc n, Nat.mul_comm 128]; omega
  · have h0 : 0 < 128 ^ i * 128 := Nat.mul_pos (Nat.pow_pos (by decide)) (by decide)
    have : n * 1 ≤ n * (128 ^ i * 128) := Nat.mul_le_mul_left _ h0
    rw [Nat.pow_succ] at h
    omega
def predI : Nat → Int
  | 0 => -1
  | i + 1 => (i : Nat)
theorem predI_eq (i : Nat) : predI i = (i : Int) - 1 := by cases i <;> simp only [predI] <;> omega
theorem back_val {b : List UInt8} {n i : Nat} (hn : n < 268435456) (h : 128 ≤ byN b i) : IntKind.i64.wrap (IntKind.i64.wrap (IntKind.i64.wrap ((n : Int) * 128) + IntKind.i64.wrap (byN b i : Int)) - 128) = ((n * 128 + (byN b i - 128) : Nat) : Int) := by
  have := byN_lt b i
  rw [wrap_id (a := (n : Int) * 128) (by omega), wrap_id (a := (byN b i : Int)) (by omega), wrap_id (a := (n : Int) * 128 + (byN b i : Int)) (by omega), wrap_id (by omega)]; omega
theorem rtake_call (b : List UInt8) (hb : b.length ≤ 1000000000) : CallW env 80 [.lst 1 (bts b)] (fun r hs => r = tup3 (takeN b) ∧ hs = []) := by
  have hbl := bts_len b
  refine Ev.func tabOK [0, 2, 3, 4, 5, 6, 7, 22, 26, 30, 39, 48] 0 Tryd.func80 rfl rfl (by simp [Tryd.ntmps80]) (by rfl) (comp80 _ rfl) (rs := [.tmp 2, .tmp 3, .tmp 4]) rfl ?_; rw [cc80]; show Ev.Wp _ _ _ _ ⟨[(0, _)], [], 0⟩
  repeat' (first | (with_reducible refine Ev.join (a := .block 0 _) (fun s => ∃ k : Nat, s = ⟨[(0, .lst 1 (bts b)), (2, .v (.int .i64 0)), (3, .v (.int .i64 0)), (4, .v (.int .i64 0)), (5, .v (.int .i64 k))], [], 0⟩ ∧ k ≤ 4 ∧ k ≤ b.length ∧ (∀ j, j < k → 128 ≤ byN b j) ∧ (k = 4 ∨ k = b.length ∨ ¬ 128 ≤ byN b k)) ?_ ?_) | ((with_reducible first | refine Ev.sided ?_ ?_ | refine Ev.w_put ?_ | refine Ev.w_step ?_ | refine Ev.w_opt ?_); (conv => whnf)) | ((with_reducible refine Ev.chk_k ?_ ?_); rotate_left; (focus first | rfl | (simp only [Ev.nbeq, Bool.and_true, Bool.true_and, Bool.not_false]; done) | ((repeat' (first | exact Ev.nbeq _ | rfl | refine Bool.and_eq_true_iff.2 ⟨?_, ?_⟩)); done)); conv => whnf) | (with_reducible first | refine Ev.c_dec (fun _ => ?_) (fun _ => ?_) | refine Ev.c_not ?_ | refine Ev.c_t ?_ | refine Ev.c_f ?_ | refine Ev.c_br (fun _ => ?_) (fun _ => ?_)) | ((with_reducible refine Ev.br_not ?_); conv => whnf) | (with_reducible first | refine Ev.br_dec (fun _ => ?_) (fun _ => ?_) | refine Ev.br (fun _ => ?_) (fun _ => ?_) | refine Ev.eo_ret ?_ | refine Ev.eo_norm ?_ | refine Ev.t_norm ?_ | refine Ev.k_seq ?_) | ((with_reducible refine Ev.k_reg (hs := []) (tabOK' _ _) (fun Q hQ => ?_)); (simp only [Ev.runE_cons, Ev.runE_nil]); conv => whnf) | (with_reducible refine hQ _ ?_; clear hQ Q) | (with_reducible first | refine Ev.k_cond rfl ?_ | refine Ev.k_skip ?_ | refine Ev.k_block ?_ | refine Ev.k_exit ?_ | refine Ev.k_ret ?_ | refine Ev.t_ret ?_ | refine Ev.t_exit ?_ | refine Ev.b_norm ?_ | refine Ev.b_ret ?_ | refine Ev.b_here ?_ | refine Ev.b_off rfl ?_) | ((with_reducible first | refine Ev.e_ret (fun F hF => ?_) | refine Ev.e_norm (fun F hF => ?_) | refine Ev.eh_ret (fun F hF => ?_) | refine Ev.eh_norm (fun F hF => ?_) | refine Ev.go_k (fun c' => ?_) | refine Ev.byt_cut ?_ | refine Ev.byt_all ?_ | refine Ev.run_cut ?_ | refine Ev.run_all ?_); conv => whnf) | (with_reducible refine hF _ ?_; clear hF F) | (with_reducible refine Ev.u_step ?_) | ((refine Ev.el_map0 ?_ (fun hi => ?_)); rotate_left; conv => whnf) | ((refine Ev.el_mapN ?_ (fun hi => ?_)); rotate_left; conv => whnf) | (refine Ev.Side.of ?_; exact Nat.le_of_ble_eq_true rfl) | (refine Ev.Side.of ?_; omega) | (refine Ev.Side.of ?_; simp only [Ev.wrap64]; omega) | (refine Ev.app_one ?_ rfl ?_ (by decide) <;> (first | omega | (simp; done) | (simp; omega))) | (refine Ev.app_nil1 rfl (by decide)) | (refine Ev.app_ys ?_ ?_ ?_ (by decide) <;> (first | omega | exact sps_all _ | exact bts_all _ | exact ints_all _ | exact spss_all _ | (simp; done) | (simp; omega))) | (refine Ev.app_nil ?_ ?_ (by decide) <;> (first | omega | exact sps_all _ | exact bts_all _ | exact ints_all _ | exact spss_all _ | (simp; done) | (simp; omega))) | (refine Ev.Side.of ?_; first | omega | (simp; done) | (simp; omega)))
  · refine Ev.loop (fun m s => ∃ k : Nat, s = ⟨[(0, .lst 1 (bts b)), (2, .v (.int .i64 0)), (3, .v (.int .i64 0)), (4, .v (.int .i64 0)), (5, .v (.int .i64 k))], [], 0⟩ ∧ m + k = 4 ∧ k ≤ b.length ∧ ∀ j, j < k → 128 ≤ byN b j) ?_ ?_
    · (refine Ev.to _ ?hs1 ?hh1 ?hc1 ⟨4, 0, rfl, ?hp1⟩; (case hs1 | hh1 => ((repeat' (first | exact trivial | refine And.intro ?_ ?_)) <;> (refine Ev.slot_eq rfl ?_; first | with_reducible rfl | (refine Ev.int_eq ?_; first | omega | (simp only [Ev.wrap64, Ev.wrap8, Ev.wrap32, Int.toNat_natCast] at *; omega)) | ((first | refine Ev.int_eq ?_ | refine Ev.own_eq ?_ | refine Ev.blk_eq ?_ | skip); first | with_reducible rfl | omega | (first | rfl | (simp; done)) | rfl) | (first | rfl | (simp; done)) | rfl))); (case hc1 => exact Nat.le_refl _))
      exact ⟨by omega, by omega, by omega⟩
    rintro m s1 ⟨k, rfl, hm, hk, hg⟩
    repeat' (first | ((with_reducible first | refine Ev.sided ?_ ?_ | refine Ev.w_put ?_ | refine Ev.w_step ?_ | refine Ev.w_opt ?_); (conv => whnf)) | ((with_reducible refine Ev.chk_k ?_ ?_); rotate_left; (focus first | rfl | (simp only [Ev.nbeq, Bool.and_true, Bool.true_and, Bool.not_false]; done) | ((repeat' (first | exact Ev.nbeq _ | rfl | refine Bool.and_eq_true_iff.2 ⟨?_, ?_⟩)); done)); conv => whnf) | (with_reducible first | refine Ev.c_dec (fun _ => ?_) (fun _ => ?_) | refine Ev.c_not ?_ | refine Ev.c_t ?_ | refine Ev.c_f ?_ | refine Ev.c_br (fun _ => ?_) (fun _ => ?_)) | ((with_reducible refine Ev.br_not ?_); conv => whnf) | (with_reducible first | refine Ev.br_dec (fun _ => ?_) (fun _ => ?_) | refine Ev.br (fun _ => ?_) (fun _ => ?_) | refine Ev.eo_ret ?_ | refine Ev.eo_norm ?_ | refine Ev.t_norm ?_ | refine Ev.k_seq ?_) | ((with_reducible refine Ev.k_reg (hs := []) (tabOK' _ _) (fun Q hQ => ?_)); (simp only [Ev.runE_cons, Ev.runE_nil]); conv => whnf) | (with_reducible refine hQ _ ?_; clear hQ Q) | (with_reducible first | refine Ev.k_cond rfl ?_ | refine Ev.k_skip ?_ | refine Ev.k_block ?_ | refine Ev.k_exit ?_ | refine Ev.k_ret ?_ | refine Ev.t_ret ?_ | refine Ev.t_exit ?_ | refine Ev.b_norm ?_ | refine Ev.b_ret ?_ | refine Ev.b_here ?_ | refine Ev.b_off rfl ?_) | ((with_reducible first | refine Ev.e_ret (fun F hF => ?_) | refine Ev.e_norm (fun F hF => ?_) | refine Ev.eh_ret (fun F hF => ?_) | refine Ev.eh_norm (fun F hF => ?_) | refine Ev.go_k (fun c' => ?_) | refine Ev.byt_cut ?_ | refine Ev.byt_all ?_ | refine Ev.run_cut ?_ | refine Ev.run_all ?_); conv => whnf) | (with_reducible refine hF _ ?_; clear hF F) | (with_reducible refine Ev.u_step ?_) | ((refine Ev.el_map0 ?_ (fun hi => ?_)); rotate_left; conv => whnf) | ((refine Ev.el_mapN ?_ (fun hi => ?_)); rotate_left; conv => whnf) | (refine Ev.Side.of ?_; exact Nat.le_of_ble_eq_true rfl) | (refine Ev.Side.of ?_; omega) | (refine Ev.Side.of ?_; simp only [Ev.wrap64]; omega) | (refine Ev.app_one ?_ rfl ?_ (by decide) <;> (first | omega | (simp; done) | (simp; omega))) | (refine Ev.app_nil1 rfl (by decide)) | (refine Ev.app_ys ?_ ?_ ?_ (by decide) <;> (first | omega | exact sps_all _ | exact bts_all _ | exact ints_all _ | exact spss_all _ | (simp; done) | (simp; omega))) | (refine Ev.app_nil ?_ ?_ (by decide) <;> (first | omega | exact sps_all _ | exact bts_all _ | exact ints_all _ | exact spss_all _ | (simp; done) | (simp; omega))) | (refine Ev.Side.of ?_; first | omega | (simp; done) | (simp; omega)))
    · rename_i hi h8
      have := byN_at hi
      (refine Ev.again (m - 1) _ ?hm2 ?hs2 ?hh2 ?hc2 ⟨k + 1, rfl, ?hp2⟩; (case hs2 | hh2 => ((repeat' (first | exact trivial | refine And.intro ?_ ?_)) <;> (refine Ev.slot_eq rfl ?_; first | with_reducible rfl | (refine Ev.int_eq ?_; first | omega | (simp only [Ev.wrap64, Ev.wrap8, Ev.wrap32, Int.toNat_natCast] at *; omega)) | ((first | refine Ev.int_eq ?_ | refine Ev.own_eq ?_ | refine Ev.blk_eq ?_ | skip); first | with_reducible rfl | omega | ((simp; done)) | rfl) | ((simp; done)) | rfl))); (case hc2 => exact Nat.le_refl _); (case hm2 => omega))
      refine ⟨by omega, by omega, fun j hj => ?_⟩
      by_cases h : j = k
      · subst h; omega
      · exact hg j (by omega)
    · rename_i hi h8
      have := byN_at hi
      (refine Ev.to _ ?hs3 ?hh3 ?hc3 ⟨k, rfl, ?hp3⟩; (case hs3 | hh3 => ((repeat' (first | exact trivial | refine And.intro ?_ ?_)) <;> (refine Ev.slot_eq rfl ?_; first | with_reducible rfl | (refine Ev.int_eq ?_; first | omega | (simp only [Ev.wrap64, Ev.wrap8, Ev.wrap32, Int.toNat_natCast] at *; omega)) | ((first | refine Ev.int_eq ?_ | refine Ev.own_eq ?_ | refine Ev.blk_eq ?_ | skip); first | with_reducible rfl | omega | ((simp; done)) | rfl) | ((simp; done)) | rfl))); (case hc3 => exact Nat.le_refl _))
      exact ⟨by omega, hk, hg, by omega⟩
    · (refine Ev.to _ ?hs4 ?hh4 ?hc4 ⟨k, rfl, ?hp4⟩; (case hs4 | hh4 => ((repeat' (first | exact trivial | refine And.intro ?_ ?_)) <;> (refine Ev.slot_eq rfl ?_; first | with_reducible rfl | (refine Ev.int_eq ?_; first | omega | (simp only [Ev.wrap64, Ev.wrap8, Ev.wrap32, Int.toNat_natCast] at *; omega)) | ((first | refine Ev.int_eq ?_ | refine Ev.own_eq ?_ | refine Ev.blk_eq ?_ | skip); first | with_reducible rfl | omega | ((simp; done)) | rfl) | ((simp; done)) | rfl))); (case hc4 => exact Nat.le_refl _))
      exact ⟨by omega, hk, hg, by omega⟩
    · (refine Ev.to _ ?hs5 ?hh5 ?hc5 ⟨k, rfl, ?hp5⟩; (case hs5 | hh5 => ((repeat' (first | exact trivial | refine And.intro ?_ ?_)) <;> (refine Ev.slot_eq rfl ?_; first | with_reducible rfl | (refine Ev.int_eq ?_; first | omega | (simp only [Ev.wrap64, Ev.wrap8, Ev.wrap32, Int.toNat_natCast] at *; omega)) | ((first | refine Ev.int_eq ?_ | refine Ev.own_eq ?_ | refine Ev.blk_eq ?_ | skip); first | with_reducible rfl | omega | ((simp; done)) | rfl) | ((simp; done)) | rfl))); (case hc5 => exact Nat.le_refl _))
      exact ⟨by omega, hk, hg, by omega⟩
  rintro s1 ⟨k, rfl, hk, hl, hg, hx⟩
  repeat' (first | ((with_reducible first | refine Ev.sided ?_ ?_ | refine Ev.w_put ?_ | refine Ev.w_step ?_ | refine Ev.w_opt ?_); (conv => whnf)) | ((with_reducible refine Ev.chk_k ?_ ?_); rotate_left; (focus first | rfl | (simp only [Ev.nbeq, Bool.and_true, Bool.true_and, Bool.not_false]; done) | ((repeat' (first | exact Ev.nbeq _ | rfl | refine Bool.and_eq_true_iff.2 ⟨?_, ?_⟩)); done)); conv => whnf) | (with_reducible first | refine Ev.c_dec (fun _ => ?_) (fun _ => ?_) | refine Ev.c_not ?_ | refine Ev.c_t ?_ | refine Ev.c_f ?_ | refine Ev.c_br (fun _ => ?_) (fun _ => ?_)) | ((with_reducible refine Ev.br_not ?_); conv => whnf) | (with_reducible first | refine Ev.br_dec (fun _ => ?_) (fun _ => ?_) | refine Ev.br (fun _ => ?_) (fun _ => ?_) | refine Ev.eo_ret ?_ | refine Ev.eo_norm ?_ | refine Ev.t_norm ?_ | refine Ev.k_seq ?_) | ((with_reducible refine Ev.k_reg (hs := []) (tabOK' _ _) (fun Q hQ => ?_)); (simp only [Ev.runE_cons, Ev.runE_nil]); conv => whnf) | (with_reducible refine hQ _ ?_; clear hQ Q) | (with_reducible first | refine Ev.k_cond rfl ?_ | refine Ev.k_skip ?_ | refine Ev.k_block ?_ | refine Ev.k_exit ?_ | refine Ev.k_ret ?_ | refine Ev.t_ret ?_ | refine Ev.t_exit ?_ | refine Ev.b_norm ?_ | refine Ev.b_ret ?_ | refine Ev.b_here ?_ | refine Ev.b_off rfl ?_) | ((with_reducible first | refine Ev.e_ret (fun F hF => ?_) | refine Ev.e_norm (fun F hF => ?_) | refine Ev.eh_ret (fun F hF => ?_) | refine Ev.eh_norm (fun F hF => ?_) | refine Ev.go_k (fun c' => ?_) | refine Ev.byt_cut ?_ | refine Ev.byt_all ?_ | refine Ev.run_cut ?_ | refine Ev.run_all ?_); conv => whnf) | (with_reducible refine hF _ ?_; clear hF F) | (with_reducible refine Ev.u_step ?_) | ((refine Ev.el_map0 ?_ (fun hi => ?_)); rotate_left; conv => whnf) | ((refine Ev.el_mapN ?_ (fun hi => ?_)); rotate_left; conv => whnf) | (refine Ev.Side.of ?_; exact Nat.le_of_ble_eq_true rfl) | (refine Ev.Side.of ?_; omega) | (refine Ev.Side.of ?_; simp only [Ev.wrap64]; omega) | (refine Ev.app_one ?_ rfl ?_ (by decide) <;> (first | omega | (simp; done) | (simp; omega))) | (refine Ev.app_nil1 rfl (by decide)) | (refine Ev.app_ys ?_ ?_ ?_ (by decide) <;> (first | omega | exact sps_all _ | exact bts_all _ | exact ints_all _ | exact spss_all _ | (simp; done) | (simp; omega))) | (refine Ev.app_nil ?_ ?_ (by decide) <;> (first | omega | exact sps_all _ | exact bts_all _ | exact ints_all _ | exact spss_all _ | (simp; done) | (simp; omega))) | (refine Ev.Side.of ?_; first | omega | (simp; done) | (simp; omega)))
  · have : k = 4 := by omega
    subst this
    rw [going4 hl hg]; exact ⟨rfl, rfl⟩
  · rw [goingS (k := k) (by omega) (by omega) hg]; exact ⟨rfl, rfl⟩
  · rename_i h3 hi h0
    have hby := byN_at hi
    rw [going0 (k := k) (by omega) hi hg (by omega), if_pos (by omega)]; exact ⟨rfl, rfl⟩
  · have hi : k < b.length := by omega
    have hby := byN_at hi
    have ht := going0 (k := k) (by omega) hi hg (by omega)
    rw [if_neg (by omega)] at ht
    have hN : lowN b k + byN b k * 128 ^ k < 268435456 := by
      have h1 := lowN_lt b k
      have h2 : 128 ^ k ≤ 128 ^ 3 := Nat.pow_le_pow_right (by decide) (by omega)
      have h3 : byN b k * 128 ^ k ≤ 127 * 128 ^ k := Nat.mul_le_mul_right _ (by omega)
      omega
    refine Ev.loop (fun m s => ∃ i n : Nat, s = ⟨[(0, .lst 1 (bts b)), (2, .v (.int .i64 0)), (3, .v (.int .i64 0)), (4, .v (.int .i64 0)), (5, .v (.int .i64 k)), (6, .v (.int .i64 n)), (7, .v (.int .i64 (predI i)))], [], 0⟩ ∧ m = i ∧ i ≤ k ∧ n * 128 ^ i + lowN b i = lowN b k + byN b k * 128 ^ k) ?_ ?_
    · (refine Ev.to _ ?hs6 ?hh6 ?hc6 ⟨k, k, byN b k, rfl, ?hp6⟩; (case hs6 | hh6 => ((repeat' (first | exact trivial | refine And.intro ?_ ?_)) <;> (refine Ev.slot_eq rfl ?_; first | with_reducible rfl | (refine Ev.int_eq ?_; first | omega | (simp only [Ev.wrap64, Ev.wrap8, Ev.wrap32, Int.toNat_natCast] at *; omega)) | ((first | refine Ev.int_eq ?_ | refine Ev.own_eq ?_ | refine Ev.blk_eq ?_ | skip); first | with_reducible rfl | omega | (first | (rw [wrap_id (by omega)]; omega) | (rw [wrap_id (by omega), predI_eq]; done)) | rfl) | (first | (rw [wrap_id (by omega)]; omega) | (rw [wrap_id (by omega), predI_eq]; done)) | rfl))); (case hc6 => exact Nat.le_refl _))
      exact ⟨rfl, by omega, by omega⟩
    rintro m s1 ⟨i, n, rfl, hm, hik, hn⟩
    cases i with
    | zero =>
      repeat' (first | ((with_reducible first | refine Ev.sided ?_ ?_ | refine Ev.w_put ?_ | refine Ev.w_step ?_ | refine Ev.w_opt ?_); (conv => whnf)) | ((with_reducible refine Ev.chk_k ?_ ?_); rotate_left; (focus first | rfl | (simp only [Ev.nbeq, Bool.and_true, Bool.true_and, Bool.not_false]; done) | ((repeat' (first | exact Ev.nbeq _ | rfl | refine Bool.and_eq_true_iff.2 ⟨?_, ?_⟩)); done)); conv => whnf) | (with_reducible first | refine Ev.c_dec (fun _ => ?_) (fun _ => ?_) | refine Ev.c_not ?_ | refine Ev.c_t ?_ | refine Ev.c_f ?_ | refine Ev.c_br (fun _ => ?_) (fun _ => ?_)) | ((with_reducible refine Ev.br_not ?_); conv => whnf) | (with_reducible first | refine Ev.br_dec (fun _ => ?_) (fun _ => ?_) | refine Ev.br (fun _ => ?_) (fun _ => ?_) | refine Ev.eo_ret ?_ | refine Ev.eo_norm ?_ | refine Ev.t_norm ?_ | refine Ev.k_seq ?_) | ((with_reducible refine Ev.k_reg (hs := []) (tabOK' _ _) (fun Q hQ => ?_)); (simp only [Ev.runE_cons, Ev.runE_nil]); conv => whnf) | (with_reducible refine hQ _ ?_; clear hQ Q) | (with_reducible first | refine Ev.k_cond rfl ?_ | refine Ev.k_skip ?_ | refine Ev.k_block ?_ | refine Ev.k_exit ?_ | refine Ev.k_ret ?_ | refine Ev.t_ret ?_ | refine Ev.t_exit ?_ | refine Ev.b_norm ?_ | refine Ev.b_ret ?_ | refine Ev.b_here ?_ | refine Ev.b_off rfl ?_) | ((with_reducible first | refine Ev.e_ret (fun F hF => ?_) | refine Ev.e_norm (fun F hF => ?_) | refine Ev.eh_ret (fun F hF => ?_) | refine Ev.eh_norm (fun F hF => ?_) | refine Ev.go_k (fun c' => ?_) | refine Ev.byt_cut ?_ | refine Ev.byt_all ?_ | refine Ev.run_cut ?_ | refine Ev.run_all ?_); conv => whnf) | (with_reducible refine hF _ ?_; clear hF F) | (with_reducible refine Ev.u_step ?_) | ((refine Ev.el_map0 ?_ (fun hi => ?_)); rotate_left; conv => whnf) | ((refine Ev.el_mapN ?_ (fun hi => ?_)); rotate_left; conv => whnf) | (refine Ev.Side.of ?_; exact Nat.le_of_ble_eq_true rfl) | (refine Ev.Side.of ?_; omega) | (refine Ev.Side.of ?_; simp only [Ev.wrap64]; omega) | (refine Ev.app_one ?_ rfl ?_ (by decide) <;> (first | omega | (simp; done) | (simp; omega))) | (refine Ev.app_nil1 rfl (by decide)) | (refine Ev.app_ys ?_ ?_ ?_ (by decide) <;> (first | omega | exact sps_all _ | exact bts_all _ | exact ints_all _ | exact spss_all _ | (simp; done) | (simp; omega))) | (refine Ev.app_nil ?_ ?_ (by decide) <;> (first | omega | exact sps_all _ | exact bts_all _ | exact ints_all _ | exact spss_all _ | (simp; done) | (simp; omega))) | (refine Ev.Side.of ?_; first | omega | (simp; done) | (simp; omega)))
      · rename_i h; exact absurd h (by decide)
      · rename_i h; exact absurd h (by decide)
      · rw [ht]
        refine ⟨Ev.tup3_eq (Ev.int_eq ?_) (Ev.int_eq (wrap_succ (by omega))) rfl, rfl⟩
        simp [lowN] at hn; show (n : Int) = _; omega
    | succ i =>
      obtain ⟨b1, b2⟩ := back_step b hn hN
      have b3 := back_val b2 (hg i (by omega))
      have b4 := byN_at (b := b) (i := i) (by omega)
      have e1 := predI_eq i
      have e2 := predI_eq (i + 1)
      have b5 : IntKind.i64.wrap (predI (i + 1) - 1) = predI i := by rw [wrap_id (by omega)]; omega
      rw [← b4] at b3
      repeat' (first | ((with_reducible first | refine Ev.sided ?_ ?_ | refine Ev.w_put ?_ | refine Ev.w_step ?_ | refine Ev.w_opt ?_); (conv => whnf)) | ((with_reducible refine Ev.chk_k ?_ ?_); rotate_left; (focus first | rfl | (simp only [Ev.nbeq, Bool.and_true, Bool.true_and, Bool.not_false]; done) | ((repeat' (first | exact Ev.nbeq _ | rfl | refine Bool.and_eq_true_iff.2 ⟨?_, ?_⟩)); done)); conv => whnf) | (with_reducible first | refine Ev.c_dec (fun _ => ?_) (fun _ => ?_) | refine Ev.c_not ?_ | refine Ev.c_t ?_ | refine Ev.c_f ?_ | refine Ev.c_br (fun _ => ?_) (fun _ => ?_)) | ((with_reducible refine Ev.br_not ?_); conv => whnf) | (with_reducible first | refine Ev.br_dec (fun _ => ?_) (fun _ => ?_) | refine Ev.br (fun _ => ?_) (fun _ => ?_) | refine Ev.eo_ret ?_ | refine Ev.eo_norm ?_ | refine Ev.t_norm ?_ | refine Ev.k_seq ?_) | ((with_reducible refine Ev.k_reg (hs := []) (tabOK' _ _) (fun Q hQ => ?_)); (simp only [Ev.runE_cons, Ev.runE_nil]); conv => whnf) | (with_reducible refine hQ _ ?_; clear hQ Q) | (with_reducible first | refine Ev.k_cond rfl ?_ | refine Ev.k_skip ?_ | refine Ev.k_block ?_ | refine Ev.k_exit ?_ | refine Ev.k_ret ?_ | refine Ev.t_ret ?_ | refine Ev.t_exit ?_ | refine Ev.b_norm ?_ | refine Ev.b_ret ?_ | refine Ev.b_here ?_ | refine Ev.b_off rfl ?_) | ((with_reducible first | refine Ev.e_ret (fun F hF => ?_) | refine Ev.e_norm (fun F hF => ?_) | refine Ev.eh_ret (fun F hF => ?_) | refine Ev.eh_norm (fun F hF => ?_) | refine Ev.go_k (fun c' => ?_) | refine Ev.byt_cut ?_ | refine Ev.byt_all ?_ | refine Ev.run_cut ?_ | refine Ev.run_all ?_); conv => whnf) | (with_reducible refine hF _ ?_; clear hF F) | (with_reducible refine Ev.u_step ?_) | ((refine Ev.el_map0 ?_ (fun hi => ?_)); rotate_left; conv => whnf) | ((refine Ev.el_mapN ?_ (fun hi => ?_)); rotate_left; conv => whnf) | (refine Ev.Side.of ?_; exact Nat.le_of_ble_eq_true rfl) | (refine Ev.Side.of ?_; omega) | (refine Ev.Side.of ?_; simp only [Ev.wrap64]; omega) | (refine Ev.app_one ?_ rfl ?_ (by decide) <;> (first | omega | (simp; done) | (simp; omega))) | (refine Ev.app_nil1 rfl (by decide)) | (refine Ev.app_ys ?_ ?_ ?_ (by decide) <;> (first | omega | exact sps_all _ | exact bts_all _ | exact ints_all _ | exact spss_all _ | (simp; done) | (simp; omega))) | (refine Ev.app_nil ?_ ?_ (by decide) <;> (first | omega | exact sps_all _ | exact bts_all _ | exact ints_all _ | exact spss_all _ | (simp; done) | (simp; omega))) | (refine Ev.Side.of ?_; first | omega | (simp; done) | (simp; omega)))
      · (refine Ev.again (m - 1) _ ?hm7 ?hs7 ?hh7 ?hc7 ⟨i, n * 128 + (byN b i - 128), rfl, ?hp7⟩; (case hs7 | hh7 => ((repeat' (first | exact trivial | refine And.intro ?_ ?_)) <;> (refine Ev.slot_eq rfl ?_; first | with_reducible rfl | (refine Ev.int_eq ?_; first | omega | (simp only [Ev.wrap64, Ev.wrap8, Ev.wrap32, Int.toNat_natCast] at *; omega)) | ((first | refine Ev.int_eq ?_ | refine Ev.own_eq ?_ | refine Ev.blk_eq ?_ | skip); first | with_reducible rfl | omega | (first | exact b5 | exact b3) | rfl) | (first | exact b5 | exact b3) | rfl))); (case hc7 => exact Nat.le_refl _); (case hm7 => omega))
        exact ⟨by omega, by omega, b1⟩
      · rename_i h; exact absurd h (by omega)
  · have hi : k < b.length := by omega
    have hby := byN_at hi
    have ht := going0 (k := k) (by omega) hi hg (by omega)
    rw [if_neg (by omega)] at ht
    have hN : lowN b k + byN b k * 128 ^ k < 268435456 := by
      have h1 := lowN_lt b k
      have h2 : 128 ^ k ≤ 128 ^ 3 := Nat.pow_le_pow_right (by decide) (by omega)
      have h3 : byN b k * 128 ^ k ≤ 127 * 128 ^ k := Nat.mul_le_mul_right _ (by omega)
      omega
    refine Ev.loop (fun m s => ∃ i n : Nat, s = ⟨[(0, .lst 1 (bts b)), (2, .v (.int .i64 0)), (3, .v (.int .i64 0)), (4, .v (.int .i64 0)), (5, .v (.int .i64 k)), (6, .v (.int .i64 n)), (7, .v (.int .i64 (predI i)))], [], 0⟩ ∧ m = i ∧ i ≤ k ∧ n * 128 ^ i + lowN b i = lowN b k + byN b k * 128 ^ k) ?_ ?_
    · (refine Ev.to _ ?hs8 ?hh8 ?hc8 ⟨k, k, byN b k, rfl, ?hp8⟩; (case hs8 | hh8 => ((repeat' (first | exact trivial | refine And.intro ?_ ?_)) <;> (refine Ev.slot_eq rfl ?_; first | with_reducible rfl | (refine Ev.int_eq ?_; first | omega | (simp only [Ev.wrap64, Ev.wrap8, Ev.wrap32, Int.toNat_natCast] at *; omega)) | ((first | refine Ev.int_eq ?_ | refine Ev.own_eq ?_ | refine Ev.blk_eq ?_ | skip); first | with_reducible rfl | omega | (first | (rw [wrap_id (by omega)]; omega) | (rw [wrap_id (by omega), predI_eq]; done)) | rfl) | (first | (rw [wrap_id (by omega)]; omega) | (rw [wrap_id (by omega), predI_eq]; done)) | rfl))); (case hc8 => exact Nat.le_refl _))
      exact ⟨rfl, by omega, by omega⟩
    rintro m s1 ⟨i, n, rfl, hm, hik, hn⟩
    cases i with
    | zero =>
      repeat' (first | ((with_reducible first | refine Ev.sided ?_ ?_ | refine Ev.w_put ?_ | refine Ev.w_step ?_ | refine Ev.w_opt ?_); (conv => whnf)) | ((with_reducible refine Ev.chk_k ?_ ?_); rotate_left; (focus first | rfl | (simp only [Ev.nbeq, Bool.and_true, Bool.true_and, Bool.not_false]; done) | ((repeat' (first | exact Ev.nbeq _ | rfl | refine Bool.and_eq_true_iff.2 ⟨?_, ?_⟩)); done)); conv => whnf) | (with_reducible first | refine Ev.c_dec (fun _ => ?_) (fun _ => ?_) | refine Ev.c_not ?_ | refine Ev.c_t ?_ | refine Ev.c_f ?_ | refine Ev.c_br (fun _ => ?_) (fun _ => ?_)) | ((with_reducible refine Ev.br_not ?_); conv => whnf) | (with_reducible first | refine Ev.br_dec (fun _ => ?_) (fun _ => ?_) | refine Ev.br (fun _ => ?_) (fun _ => ?_) | refine Ev.eo_ret ?_ | refine Ev.eo_norm ?_ | refine Ev.t_norm ?_ | refine Ev.k_seq ?_) | ((with_reducible refine Ev.k_reg (hs := []) (tabOK' _ _) (fun Q hQ => ?_)); (simp only [Ev.runE_cons, Ev.runE_nil]); conv => whnf) | (with_reducible refine hQ _ ?_; clear hQ Q) | (with_reducible first | refine Ev.k_cond rfl ?_ | refine Ev.k_skip ?_ | refine Ev.k_block ?_ | refine Ev.k_exit ?_ | refine Ev.k_ret ?_ | refine Ev.t_ret ?_ | refine Ev.t_exit ?_ | refine Ev.b_norm ?_ | refine Ev.b_ret ?_ | refine Ev.b_here ?_ | refine Ev.b_off rfl ?_) | ((with_reducible first | refine Ev.e_ret (fun F hF => ?_) | refine Ev.e_norm (fun F hF => ?_) | refine Ev.eh_ret (fun F hF => ?_) | refine Ev.eh_norm (fun F hF => ?_) | refine Ev.go_k (fun c' => ?_) | refine Ev.byt_cut ?_ | refine Ev.byt_all ?_ | refine Ev.run_cut ?_ | refine Ev.run_all ?_); conv => whnf) | (with_reducible refine hF _ ?_; clear hF F) | (with_reducible refine Ev.u_step ?_) | ((refine Ev.el_map0 ?_ (fun hi => ?_)); rotate_left; conv => whnf) | ((refine Ev.el_mapN ?_ (fun hi => ?_)); rotate_left; conv => whnf) | (refine Ev.Side.of ?_; exact Nat.le_of_ble_eq_true rfl) | (refine Ev.Side.of ?_; omega) | (refine Ev.Side.of ?_; simp only [Ev.wrap64]; omega) | (refine Ev.app_one ?_ rfl ?_ (by decide) <;> (first | omega | (simp; done) | (simp; omega))) | (refine Ev.app_nil1 rfl (by decide)) | (refine Ev.app_ys ?_ ?_ ?_ (by decide) <;> (first | omega | exact sps_all _ | exact bts_all _ | exact ints_all _ | exact spss_all _ | (simp; done) | (simp; omega))) | (refine Ev.app_nil ?_ ?_ (by decide) <;> (first | omega | exact sps_all _ | exact bts_all _ | exact ints_all _ | exact spss_all _ | (simp; done) | (simp; omega))) | (refine Ev.Side.of ?_; first | omega | (simp; done) | (simp; omega)))
      · rename_i h; exact absurd h (by decide)
      · rename_i h; exact absurd h (by decide)
      · rw [ht]
        refine ⟨Ev.tup3_eq (Ev.int_eq ?_) (Ev.int_eq (wrap_succ (by omega))) rfl, rfl⟩
        simp [lowN] at hn; show (n : Int) = _; omega
    | succ i => exact absurd hik (by omega)
end Go.Proofs.YthdjbgbfboppcaaDoor.Abs

namespace Go.Proofs.YthdjbgbfboppcaaDoor.Abs
open Go
set_option maxRecDepth 100000
set_option linter.unusedSimpArgs false
set_option linter.unusedVariables false
attribute [local irreducible] Ev.Unr Ev.Go' Ev.bytK Ev.runK Ev.FinL Ev.brC Ev.Side Ev.Wp Ev.Again Ev.To Ev.Fin
open Go.Lib Go.RowKit
def cc63 : CC := (.seq (.reg 0 [⟨0, some 1, (.box 35 (.tmp 0)), none⟩, ⟨1, some 2, (.assign (.const (Value.bool false))), none⟩]) (.seq (.reg 1 [⟨0, some 3, (.fieldAddr 35 (.tmp 1) 1), none⟩, ⟨1, some 4, (.load 3 (.tmp 3)), none⟩, ⟨2, some 5, (.binOp .eql 3 (.tmp 4) (.const (Value.int .i64 0)) 3), none⟩, ⟨3, some 6, (.move (.tmp 5)), none⟩, ⟨4, some 7, (.fieldAddr 35 (.tmp 1) 2), (some (6, true))⟩, ⟨5, some 8, (.load 9 (.tmp 7)), (some (6, true))⟩, ⟨6, some 9, (.binOp .eql 9 (.tmp 8) (.const (Value.string { data := #[] })) 9), (some (6, true))⟩, ⟨7, some 10, (.pick (.tmp 6) (.tmp 9) (.const (Value.bool false))), none⟩, ⟨8, some 2, (.assign (.tmp 10)), none⟩]) .ret))
theorem comp63 : ∀ c, Tryd.f63.body = some c → comp c = cc63 := by
  intro c h
  have : c = Tryd.f63.body.get rfl := by rw [← Option.some_inj, ← h]; rfl
  rw [this]; rfl
def cc25 : CC := (.seq (.reg 0 [⟨0, some 2, (.assign (.const (Value.bool false))), none⟩]) (.seq (.seq (.reg 1 [⟨0, some 5, (.move (.tmp 0)), none⟩, ⟨1, some 6, (.call { callee := .builtin .len, args := #[.tmp 5], argTypes := #[25] }), none⟩, ⟨2, some 7, (.move (.const (Value.int .i64 0))), none⟩]) (.block 0 (.loop (.seq (.reg 2 [⟨0, some 8, (.binOp .lss 3 (.tmp 7) (.tmp 6) 3), none⟩]) (.seq (.cond (.tmp 8) .skip (.exit 0)) (.seq (.block 1 (.seq (.reg 3 [⟨0, some 9, (.move (.tmp 7)), none⟩, ⟨1, some 10, (.indexAddr 25 (.tmp 5) (.tmp 7)), none⟩, ⟨2, some 11, (.load 35 (.tmp 10)), none⟩, ⟨3, some 4, (.alloc 35), none⟩, ⟨4, some 3, (.assign (.tmp 9)), none⟩, ⟨5, none, (.store 35 (.tmp 4) (.tmp 11)), none⟩]) (.seq (.draw 4 [⟨0, some 12, (.load 35 (.tmp 4)), none⟩, ⟨1, some 13, (.call { callee := .value (.func 63), args := #[.tmp 12], argTypes := #[35] }), none⟩, ⟨2, some 14, (.move (.tmp 13)), none⟩, ⟨3, some 15, (.move (.tmp 3)), (some (14, false))⟩, ⟨4, some 16, (.binOp .gtr 3 (.tmp 15) (.const (Value.int .i64 0)) 3), (some (14, false))⟩, ⟨5, some 17, (.move (.tmp 16)), (some (14, false))⟩, ⟨6, some 18, (.fieldAddr 35 (.tmp 4) 0), (some (17, true))⟩, ⟨7, some 19, (.load 3 (.tmp 18)), (some (17, true))⟩, ⟨8, some 20, (.move (.tmp 0)), (some (17, true))⟩, ⟨9, some 21, (.move (.tmp 3)), (some (17, true))⟩, ⟨10, some 22, (.binOp .sub 3 (.tmp 21) (.const (Value.int .i64 1)) 3), (some (17, true))⟩, ⟨11, some 23, (.indexAddr 25 (.tmp 20) (.tmp 22)), (some (17, true))⟩, ⟨12, some 24, (.fieldAddr 35 (.tmp 23) 0), (some (17, true))⟩, ⟨13, some 25, (.load 3 (.tmp 24)), (some (17, true))⟩, ⟨14, some 26, (.binOp .eql 3 (.tmp 19) (.tmp 25) 3), (some (17, true))⟩, ⟨15, some 27, (.pick (.tmp 17) (.tmp 26) (.const (Value.bool false))), (some (14, false))⟩, ⟨16, some 28, (.pick (.tmp 14) (.const (Value.bool true)) (.tmp 27)), none⟩] [[], [0], [1, 1], [2], [3, 2], [4, 2, 2], [5], [6, 5], [5], [5], [9, 5], [8, 10, 5], [11, 5], [12, 5], [7, 13, 5], [5, 14, 2], [2, 15]]) (.cond (.tmp 28) (.seq (.reg 5 [⟨0, some 2, (.assign (.const (Value.bool false))), none⟩]) .ret) .skip)))) (.reg 6 [⟨0, some 29, (.binOp .add 3 (.tmp 7) (.const (Value.int .i64 1)) 3), none⟩, ⟨1, some 7, (.move (.tmp 29)), none⟩]))))))) (.seq (.reg 7 [⟨0, some 2, (.assign (.const (Value.bool true))), none⟩]) .ret)))
theorem comp25 : ∀ c, Tryd.f25.body = some c → comp c = cc25 := by
  intro c h
  have : c = Tryd.f25.body.get rfl := by rw [← Option.some_inj, ← h]; rfl
  rw [this]; rfl
def cc75 : CC := (.seq (.reg 0 [⟨0, some 2, (.assign (.const (Value.bool false))), none⟩]) (.seq (.seq (.reg 1 [⟨0, some 3, (.assign (.const (Value.int .i64 0))), none⟩]) (.block 0 (.loop (.seq (.seq (.reg 2 [⟨0, some 4, (.move (.tmp 3)), none⟩, ⟨1, some 5, (.move (.tmp 0)), none⟩, ⟨2, some 6, (.call { callee := .builtin .len, args := #[.tmp 5], argTypes := #[25] }), none⟩, ⟨3, some 7, (.binOp .lss 3 (.tmp 4) (.tmp 6) 3), none⟩]) (.cond (.tmp 7) .skip (.exit 0))) (.seq (.block 1 (.seq (.draw 4 [⟨0, some 10, (.move (.tmp 0)), none⟩, ⟨1, some 11, (.move (.tmp 3)), none⟩, ⟨2, some 12, (.indexAddr 25 (.tmp 10) (.tmp 11)), none⟩, ⟨3, some 13, (.fieldAddr 35 (.tmp 12) 1), none⟩, ⟨4, some 14, (.load 3 (.tmp 13)), none⟩, ⟨5, some 15, (.binOp .eql 3 (.tmp 14) (.const (Value.int .i64 0)) 3), none⟩, ⟨6, some 16, (.move (.tmp 15)), none⟩, ⟨7, some 17, (.move (.tmp 0)), (some (16, true))⟩, ⟨8, some 18, (.move (.tmp 3)), (some (16, true))⟩, ⟨9, some 19, (.indexAddr 25 (.tmp 17) (.tmp 18)), (some (16, true))⟩, ⟨10, some 20, (.fieldAddr 35 (.tmp 19) 2), (some (16, true))⟩, ⟨11, some 21, (.load 9 (.tmp 20)), (some (16, true))⟩, ⟨12, some 22, (.binOp .eql 9 (.tmp 21) (.const (Value.string { data := #[] })) 9), (some (16, true))⟩, ⟨13, some 23, (.pick (.tmp 16) (.tmp 22) (.const (Value.bool false))), none⟩, ⟨14, some 24, (.move (.tmp 23)), none⟩, ⟨15, some 25, (.move (.tmp 3)), (some (24, false))⟩, ⟨16, some 26, (.binOp .gtr 3 (.tmp 25) (.const (Value.int .i64 0)) 3), (some (24, false))⟩, ⟨17, some 27, (.move (.tmp 26)), (some (24, false))⟩, ⟨18, some 28, (.move (.tmp 0)), (some (27, true))⟩, ⟨19, some 29, (.move (.tmp 3)), (some (27, true))⟩, ⟨20, some 30, (.binOp .sub 3 (.tmp 29) (.const (Value.int .i64 1)) 3), (some (27, true))⟩, ⟨21, some 31, (.indexAddr 25 (.tmp 28) (.tmp 30)), (some (27, true))⟩, ⟨22, some 32, (.fieldAddr 35 (.tmp 31) 0), (some (27, true))⟩, ⟨23, some 33, (.load 3 (.tmp 32)), (some (27, true))⟩, ⟨24, some 34, (.move (.tmp 0)), (some (27, true))⟩, ⟨25, some 35, (.move (.tmp 3)), (some (27, true))⟩, ⟨26, some 36, (.indexAddr 25 (.tmp 34) (.tmp 35)), (some (27, true))⟩, ⟨27, some 37, (.fieldAddr 35 (.tmp 36) 0), (some (27, true))⟩, ⟨28, some 38, (.load 3 (.tmp 37)), (some (27, true))⟩, ⟨29, some 39, (.binOp .eql 3 (.tmp 33) (.tmp 38) 3), (some (27, true))⟩, ⟨30, some 40, (.pick (.tmp 27) (.tmp 39) (.const (Value.bool false))), (some (24, false))⟩, ⟨31, some 41, (.pick (.tmp 24) (.const (Value.bool true)) (.tmp 40)), none⟩] [[], [], [0, 1], [2], [3], [4], [5], [6], [6], [7, 8, 6], [9, 6], [10, 6], [11, 6], [6, 12], [13, 6], [14], [15, 14], [16, 14, 14], [17], [17], [19, 17], [18, 20, 17], [21, 17], [22, 17], [17], [17], [24, 25, 17], [26, 17], [27, 17], [23, 28, 17], [17, 29, 14], [14, 30]]) (.cond (.tmp 41) (.seq (.reg 5 [⟨0, some 2, (.assign (.const (Value.bool false))), none⟩]) .ret) .skip))) (.reg 3 [⟨0, some 8, (.move (.tmp 3)), none⟩, ⟨1, some 9, (.binOp .add 3 (.tmp 8) (.const (Value.int .i64 1)) 3), none⟩, ⟨2, some 3, (.assign (.tmp 9)), none⟩])))))) (.seq (.reg 6 [⟨0, some 2, (.assign (.const (Value.bool true))), none⟩]) .ret)))
theorem comp75 : ∀ c, Tryd.f75.body = some c → comp c = cc75 := by
  intro c h
  have : c = Tryd.f75.body.get rfl := by rw [← Option.some_inj, ← h]; rfl
  rw [this]; rfl
theorem empty_call (s : Sp) : CallW env 63 [spanA s.k s.n s.t] (fun r hs => r = .v (.bool (emptyS s)) ∧ hs = []) := by
  refine Ev.func tabOK [0, 1, 2] 0 Tryd.func63 rfl rfl (by simp [Tryd.ntmps63]) (by rfl) (comp63 _ rfl) (rs := [.tmp 2]) rfl ?_; rw [cc63]; show Ev.Wp _ _ _ _ ⟨[(0, _)], [], 0⟩
  repeat' (first | ((with_reducible first | refine Ev.sided ?_ ?_ | refine Ev.w_put ?_ | refine Ev.w_step ?_ | refine Ev.w_opt ?_); (conv => whnf)) | ((with_reducible refine Ev.chk_k ?_ ?_); rotate_left; (focus first | rfl | (simp only [Ev.nbeq, Bool.and_true, Bool.true_and, Bool.not_false]; done) | ((repeat' (first | exact Ev.nbeq _ | rfl | refine Bool.and_eq_true_iff.2 ⟨?_, ?_⟩)); done)); conv => whnf) | (with_reducible first | refine Ev.c_dec (fun _ => ?_) (fun _ => ?_) | refine Ev.c_not ?_ | refine Ev.c_t ?_ | refine Ev.c_f ?_ | refine Ev.c_br (fun _ => ?_) (fun _ => ?_)) | ((with_reducible refine Ev.br_not ?_); conv => whnf) | (with_reducible first | refine Ev.br_dec (fun _ => ?_) (fun _ => ?_) | refine Ev.br (fun _ => ?_) (fun _ => ?_) | refine Ev.eo_ret ?_ | refine Ev.eo_norm ?_ | refine Ev.t_norm ?_ | refine Ev.k_seq ?_) | ((with_reducible refine Ev.k_reg (hs := []) (tabOK' _ _) (fun Q hQ => ?_)); (simp only [Ev.runE_cons, Ev.runE_nil]); conv => whnf) | (with_reducible refine hQ _ ?_; clear hQ Q) | (with_reducible first | refine Ev.k_cond rfl ?_ | refine Ev.k_skip ?_ | refine Ev.k_block ?_ | refine Ev.k_exit ?_ | refine Ev.k_ret ?_ | refine Ev.t_ret ?_ | refine Ev.t_exit ?_ | refine Ev.b_norm ?_ | refine Ev.b_ret ?_ | refine Ev.b_here ?_ | refine Ev.b_off rfl ?_) | ((with_reducible first | refine Ev.e_ret (fun F hF => ?_) | refine Ev.e_norm (fun F hF => ?_) | refine Ev.eh_ret (fun F hF => ?_) | refine Ev.eh_norm (fun F hF => ?_) | refine Ev.go_k (fun c' => ?_) | refine Ev.byt_cut ?_ | refine Ev.byt_all ?_ | refine Ev.run_cut ?_ | refine Ev.run_all ?_); conv => whnf) | (with_reducible refine hF _ ?_; clear hF F) | (with_reducible refine Ev.u_step ?_) | ((refine Ev.el_map0 ?_ (fun hi => ?_)); rotate_left; conv => whnf) | ((refine Ev.el_mapN ?_ (fun hi => ?_)); rotate_left; conv => whnf) | (refine Ev.Side.of ?_; exact Nat.le_of_ble_eq_true rfl) | (refine Ev.Side.of ?_; omega) | (refine Ev.Side.of ?_; simp only [Ev.wrap64]; omega) | (refine Ev.app_one ?_ rfl ?_ (by decide) <;> (first | omega | (simp; done) | (simp; omega))) | (refine Ev.app_nil1 rfl (by decide)) | (refine Ev.app_ys ?_ ?_ ?_ (by decide) <;> (first | omega | exact sps_all _ | exact bts_all _ | exact ints_all _ | exact spss_all _ | (simp; done) | (simp; omega))) | (refine Ev.app_nil ?_ ?_ (by decide) <;> (first | omega | exact sps_all _ | exact bts_all _ | exact ints_all _ | exact spss_all _ | (simp; done) | (simp; omega))) | (refine Ev.Side.of ?_; first | omega | (simp; done) | (simp; omega)))
  · rename_i h
    exact ⟨Ev.bool_eq (by simp [emptyS, h]), rfl⟩
  · rename_i h
    exact ⟨Ev.bool_eq (by simp [emptyS, h]), rfl⟩
def prevK (l : List Sp) : Nat → Option Int
  | 0 => none
  | i + 1 => (l[i]?).map Sp.k
theorem isN_at {l : List Sp} {i : Nat} (hi : i < l.length) : isNG (prevK l i) (l.drop i) = (!emptyS l[i] && !decide (prevK l i = some l[i].k) && isNG (prevK l (i + 1)) (l.drop (i + 1))) := by
  rw [List.drop_eq_getElem_cons hi]
  simp only [isNG, prevK, List.getElem?_eq_getElem hi, Option.map_some]
theorem prev_at {l : List Sp} {i : Nat} (h0 : 0 < i) (hi : i - 1 < l.length) : prevK l i = some (l[i - 1]).k := by
  cases i with
  | zero => omega
  | succ i => simp only [Nat.add_sub_cancel] at hi ⊢; simp only [prevK, List.getElem?_eq_getElem hi, Option.map_some]
theorem pred_nat {i : Nat} (h0 : (0 : Int) < i) (hi : i ≤ 1000000000) : (IntKind.i64.wrap ((i : Int) - 1)).toNat = i - 1 := by rw [wrap_id (by omega)]; omega
theorem pred_side {l : List Sp} {i : Nat} (h0 : (0 : Int) < i) (hi : i ≤ 1000000000) (hl : i < l.length) : Ev.Side ((IntKind.i64.wrap ((i : Int) - 1)).toNat < l.length) := by
  refine Ev.Side.of ?_; rw [pred_nat h0 hi]; omega
theorem pred_at {l : List Sp} {i : Nat} (h0 : (0 : Int) < i) (hi : i ≤ 1000000000) (h' : (IntKind.i64.wrap ((i : Int) - 1)).toNat < l.length) : prevK l i = some (l[(IntKind.i64.wrap ((i : Int) - 1)).toNat]'h').k := by
  have e := pred_nat h0 hi
  rw [e] at h'
  simp only [e]
  exact prev_at (by omega) h'
theorem isN_false {l : List Sp} {i : Nat} (hi : i < l.length) (ht : isN l = isNG (prevK l i) (l.drop i)) (h : emptyS l[i] = true ∨ prevK l i = some l[i].k) : AV.v (Value.bool false) = AV.v (Value.bool (isN l)) := by
  refine Ev.bool_eq ?_
  rw [ht, isN_at hi]
  rcases h with h | h <;> rw [h] <;> simp
theorem isN_next {l : List Sp} {i : Nat} (hi : i < l.length) (ht : isN l = isNG (prevK l i) (l.drop i)) (h : emptyS l[i] = false) (h2 : ¬ prevK l i = some l[i].k) : isN l = isNG (prevK l (i + 1)) (l.drop (i + 1)) := by
  rw [ht, isN_at hi, h, decide_eq_false h2]; simp
theorem empty_f {s : Sp} (h : ¬ s.n = 0 ∨ ¬ s.t = ⟨#[]⟩) : emptyS s = false := by rcases h with h | h <;> simp [emptyS, h]
theorem empty_t {s : Sp} (h : s.n = 0) (h' : s.t = ⟨#[]⟩) : emptyS s = true := by simp [emptyS, h, h']
theorem prev_ne {l : List Sp} {i : Nat} (h : ¬ (0 : Int) < i) (hi : i < l.length) : ¬ prevK l i = some l[i].k := by
  have : i = 0 := by omega
  subst this; simp [prevK]
theorem is_call (l : List Sp) (hl : l.length ≤ 1000000000) : CallW env 25 [.lst 3 (sps l)] (fun r hs => r = .v (.bool (isN l)) ∧ hs = []) := by
  have hsl := sps_len l
  refine Ev.func tabOK [0, 2, 3, 4, 5, 6, 7, 8, 28] 0 Tryd.func25 rfl rfl (by simp [Tryd.ntmps25]) (by rfl) (comp25 _ rfl) (rs := [.tmp 2]) rfl ?_; rw [cc25]; show Ev.Wp _ _ _ _ ⟨[(0, _)], [], 0⟩
  repeat' (first | ((with_reducible first | refine Ev.sided ?_ ?_ | refine Ev.w_put ?_ | refine Ev.w_step ?_ | refine Ev.w_opt ?_); (conv => whnf)) | ((with_reducible refine Ev.chk_k ?_ ?_); rotate_left; (focus first | rfl | (simp only [Ev.nbeq, Bool.and_true, Bool.true_and, Bool.not_false]; done) | ((repeat' (first | exact Ev.nbeq _ | rfl | refine Bool.and_eq_true_iff.2 ⟨?_, ?_⟩)); done)); conv => whnf) | (with_reducible first | refine Ev.c_dec (fun _ => ?_) (fun _ => ?_) | refine Ev.c_not ?_ | refine Ev.c_t ?_ | refine Ev.c_f ?_ | refine Ev.c_br (fun _ => ?_) (fun _ => ?_)) | ((with_reducible refine Ev.br_not ?_); conv => whnf) | (with_reducible first | refine Ev.br_dec (fun _ => ?_) (fun _ => ?_) | refine Ev.br (fun _ => ?_) (fun _ => ?_) | refine Ev.eo_ret ?_ | refine Ev.eo_norm ?_ | refine Ev.t_norm ?_ | refine Ev.k_seq ?_) | ((with_reducible refine Ev.k_reg (hs := []) (tabOK' _ _) (fun Q hQ => ?_)); (simp only [Ev.runE_cons, Ev.runE_nil]); conv => whnf) | (with_reducible refine hQ _ ?_; clear hQ Q) | (with_reducible first | refine Ev.k_cond rfl ?_ | refine Ev.k_skip ?_ | refine Ev.k_block ?_ | refine Ev.k_exit ?_ | refine Ev.k_ret ?_ | refine Ev.t_ret ?_ | refine Ev.t_exit ?_ | refine Ev.b_norm ?_ | refine Ev.b_ret ?_ | refine Ev.b_here ?_ | refine Ev.b_off rfl ?_) | ((with_reducible first | refine Ev.e_ret (fun F hF => ?_) | refine Ev.e_norm (fun F hF => ?_) | refine Ev.eh_ret (fun F hF => ?_) | refine Ev.eh_norm (fun F hF => ?_) | refine Ev.go_k (fun c' => ?_) | refine Ev.byt_cut ?_ | refine Ev.byt_all ?_ | refine Ev.run_cut ?_ | refine Ev.run_all ?_); conv => whnf) | (with_reducible refine hF _ ?_; clear hF F) | (with_reducible refine Ev.u_step ?_) | ((refine Ev.k_draw (id := 4) (hs := []) (tabOK' _ _) (mixed' _ _) [0, 1, 2, 3, 4, 5, 6, 7, 8, 9, 10, 11, 12, 13, 14, 15, 16] (by decide) rfl rfl (fun Q hQ => ?_)); (simp only [Ev.runE_cons, Ev.runE_nil]); conv => whnf) | ((refine Ev.el_map0 ?_ (fun hi => ?_)); rotate_left; conv => whnf) | ((refine Ev.el_mapN ?_ (fun hi => ?_)); rotate_left; conv => whnf) | (refine Ev.Side.of ?_; exact Nat.le_of_ble_eq_true rfl) | (refine Ev.Side.of ?_; omega) | (refine Ev.Side.of ?_; simp only [Ev.wrap64]; omega) | (refine Ev.app_one ?_ rfl ?_ (by decide) <;> (first | omega | (simp; done) | (simp; omega))) | (refine Ev.app_nil1 rfl (by decide)) | (refine Ev.app_ys ?_ ?_ ?_ (by decide) <;> (first | omega | exact sps_all _ | exact bts_all _ | exact ints_all _ | exact spss_all _ | (simp; done) | (simp; omega))) | (refine Ev.app_nil ?_ ?_ (by decide) <;> (first | omega | exact sps_all _ | exact bts_all _ | exact ints_all _ | exact spss_all _ | (simp; done) | (simp; omega))) | (refine Ev.Side.of ?_; first | omega | (simp; done) | (simp; omega)))
  refine Ev.loop (fun k s => ∃ i c : Nat, s = ⟨[(0, .lst 3 (sps l)), (2, .v (.bool false)), (5, .lst 3 (sps l)), (6, .v (.int .i64 l.length)), (7, .v (.int .i64 i))], [], c⟩ ∧ k + i = l.length ∧ isN l = isNG (prevK l i) (l.drop i)) ?_ ?_
  · (refine Ev.to _ ?hs1 ?hh1 ?hc1 ⟨l.length, 0, 0, rfl, ?hp1⟩; (case hs1 | hh1 => ((repeat' (first | exact trivial | refine And.intro ?_ ?_)) <;> (refine Ev.slot_eq rfl ?_; first | with_reducible rfl | (refine Ev.int_eq ?_; first | omega | (simp only [Ev.wrap64, Ev.wrap8, Ev.wrap32, Int.toNat_natCast] at *; omega)) | ((first | refine Ev.int_eq ?_ | refine Ev.own_eq ?_ | refine Ev.blk_eq ?_ | skip); first | with_reducible rfl | omega | (first | rfl | (simp; done)) | rfl) | (first | rfl | (simp; done)) | rfl))); (case hc1 => exact Nat.le_refl _))
    exact ⟨by omega, rfl⟩
  rintro k s1 ⟨i, c, rfl, hk, ht⟩
  repeat' (first | ((with_reducible first | refine Ev.sided ?_ ?_ | refine Ev.w_put ?_ | refine Ev.w_step ?_ | refine Ev.w_opt ?_); (conv => whnf)) | ((with_reducible refine Ev.chk_k ?_ ?_); rotate_left; (focus first | rfl | (simp only [Ev.nbeq, Bool.and_true, Bool.true_and, Bool.not_false]; done) | ((repeat' (first | exact Ev.nbeq _ | rfl | refine Bool.and_eq_true_iff.2 ⟨?_, ?_⟩)); done)); conv => whnf) | (with_reducible first | refine Ev.c_dec (fun _ => ?_) (fun _ => ?_) | refine Ev.c_not ?_ | refine Ev.c_t ?_ | refine Ev.c_f ?_ | refine Ev.c_br (fun _ => ?_) (fun _ => ?_)) | ((with_reducible refine Ev.br_not ?_); conv => whnf) | (with_reducible first | refine Ev.br_dec (fun _ => ?_) (fun _ => ?_) | refine Ev.br (fun _ => ?_) (fun _ => ?_) | refine Ev.eo_ret ?_ | refine Ev.eo_norm ?_ | refine Ev.t_norm ?_ | refine Ev.k_seq ?_) | ((with_reducible refine Ev.k_reg (hs := []) (tabOK' _ _) (fun Q hQ => ?_)); (simp only [Ev.runE_cons, Ev.runE_nil]); conv => whnf) | (with_reducible refine hQ _ ?_; clear hQ Q) | (with_reducible first | refine Ev.k_cond rfl ?_ | refine Ev.k_skip ?_ | refine Ev.k_block ?_ | refine Ev.k_exit ?_ | refine Ev.k_ret ?_ | refine Ev.t_ret ?_ | refine Ev.t_exit ?_ | refine Ev.b_norm ?_ | refine Ev.b_ret ?_ | refine Ev.b_here ?_ | refine Ev.b_off rfl ?_) | ((with_reducible first | refine Ev.e_ret (fun F hF => ?_) | refine Ev.e_norm (fun F hF => ?_) | refine Ev.eh_ret (fun F hF => ?_) | refine Ev.eh_norm (fun F hF => ?_) | refine Ev.go_k (fun c' => ?_) | refine Ev.byt_cut ?_ | refine Ev.byt_all ?_ | refine Ev.run_cut ?_ | refine Ev.run_all ?_); conv => whnf) | (with_reducible refine hF _ ?_; clear hF F) | (with_reducible refine Ev.u_step ?_) | ((first | refine Ev.call_det (empty_call _) rfl rfl ?_); conv => whnf) | ((first | refine Ev.call_det (empty_call _) ?_ rfl ?_); (focus (repeat' (first | with_reducible rfl | refine Ev.cons_eq ?_ ?_)) <;> (first | rfl | (refine Ev.lst_eq (Ev.take_all ?_ rfl); first | omega | (simp; done) | (simp; omega)) | (refine Ev.int_eq ?_; omega) | (simp; done))); conv => whnf) | ((refine Ev.k_draw (id := 4) (hs := []) (tabOK' _ _) (mixed' _ _) [0, 1, 2, 3, 4, 5, 6, 7, 8, 9, 10, 11, 12, 13, 14, 15, 16] (by decide) rfl rfl (fun Q hQ => ?_)); (simp only [Ev.runE_cons, Ev.runE_nil]); conv => whnf) | ((refine Ev.el_map0 ?_ (fun hi => ?_)); rotate_left; conv => whnf) | ((refine Ev.el_mapN ?_ (fun hi => ?_)); rotate_left; conv => whnf) | (refine Ev.Side.of ?_; exact Nat.le_of_ble_eq_true rfl) | (refine Ev.Side.of ?_; omega) | (refine Ev.Side.of ?_; simp only [Ev.wrap64]; omega) | (refine Ev.app_one ?_ rfl ?_ (by decide) <;> (first | omega | (simp; done) | (simp; omega))) | (refine Ev.app_nil1 rfl (by decide)) | (refine Ev.app_ys ?_ ?_ ?_ (by decide) <;> (first | omega | exact sps_all _ | exact bts_all _ | exact ints_all _ | exact spss_all _ | (simp; done) | (simp; omega))) | (refine Ev.app_nil ?_ ?_ (by decide) <;> (first | omega | exact sps_all _ | exact bts_all _ | exact ints_all _ | exact spss_all _ | (simp; done) | (simp; omega))) | (refine Ev.Side.of ?_; first | omega | (simp; done) | (simp; omega)))
  · rename_i h
    exact ⟨isN_false hi ht (.inl h), rfl⟩
  · rename_i hi' h h0 hq
    exact ⟨isN_false hi' ht (.inr ((pred_at h0 (by omega) hi).trans (congrArg some hq.symm))), rfl⟩
  · rename_i hi' h h0 hq
    (refine Ev.again (k - 1) _ ?hm2 ?hs2 ?hh2 ?hc2 ⟨i + 1, c + 8, rfl, ?hp2⟩; (case hs2 | hh2 => ((repeat' (first | exact trivial | refine And.intro ?_ ?_)) <;> (refine Ev.slot_eq rfl ?_; first | with_reducible rfl | (refine Ev.int_eq ?_; first | omega | (simp only [Ev.wrap64, Ev.wrap8, Ev.wrap32, Int.toNat_natCast] at *; omega)) | ((first | refine Ev.int_eq ?_ | refine Ev.own_eq ?_ | refine Ev.blk_eq ?_ | skip); first | with_reducible rfl | omega | (first | exact wrap_succ (by omega) | rfl) | rfl) | (first | exact wrap_succ (by omega) | rfl) | rfl))); (case hc2 => exact Nat.le_refl _); (case hm2 => omega))
    exact ⟨by omega, isN_next hi' ht h (fun e => hq (Option.some.inj (e.symm.trans (pred_at h0 (by omega) hi))))⟩
  · exact pred_side (by assumption) (by omega) (by omega)
  · rename_i h h0
    (refine Ev.again (k - 1) _ ?hm3 ?hs3 ?hh3 ?hc3 ⟨i + 1, c + 8, rfl, ?hp3⟩; (case hs3 | hh3 => ((repeat' (first | exact trivial | refine And.intro ?_ ?_)) <;> (refine Ev.slot_eq rfl ?_; first | with_reducible rfl | (refine Ev.int_eq ?_; first | omega | (simp only [Ev.wrap64, Ev.wrap8, Ev.wrap32, Int.toNat_natCast] at *; omega)) | ((first | refine Ev.int_eq ?_ | refine Ev.own_eq ?_ | refine Ev.blk_eq ?_ | skip); first | with_reducible rfl | omega | (first | exact wrap_succ (by omega) | rfl) | rfl) | (first | exact wrap_succ (by omega) | rfl) | rfl))); (case hc3 => exact Nat.le_refl _); (case hm3 => omega))
    exact ⟨by omega, isN_next hi ht h (prev_ne h0 hi)⟩
  · rw [List.drop_of_length_le (by omega)] at ht
    exact ⟨Ev.bool_eq ht.symm, rfl⟩
theorem ris_call (l : List Sp) (hl : l.length ≤ 1000000000) : CallW env 75 [.lst 3 (sps l)] (fun r hs => r = .v (.bool (isN l)) ∧ hs = []) := by
  have hsl := sps_len l
  refine Ev.func tabOK [0, 2, 3, 7, 41] 0 Tryd.func75 rfl rfl (by simp [Tryd.ntmps75]) (by rfl) (comp75 _ rfl) (rs := [.tmp 2]) rfl ?_; rw [cc75]; show Ev.Wp _ _ _ _ ⟨[(0, _)], [], 0⟩
  repeat' (first | ((with_reducible first | refine Ev.sided ?_ ?_ | refine Ev.w_put ?_ | refine Ev.w_step ?_ | refine Ev.w_opt ?_); (conv => whnf)) | ((with_reducible refine Ev.chk_k ?_ ?_); rotate_left; (focus first | rfl | (simp only [Ev.nbeq, Bool.and_true, Bool.true_and, Bool.not_false]; done) | ((repeat' (first | exact Ev.nbeq _ | rfl | refine Bool.and_eq_true_iff.2 ⟨?_, ?_⟩)); done)); conv => whnf) | (with_reducible first | refine Ev.c_dec (fun _ => ?_) (fun _ => ?_) | refine Ev.c_not ?_ | refine Ev.c_t ?_ | refine Ev.c_f ?_ | refine Ev.c_br (fun _ => ?_) (fun _ => ?_)) | ((with_reducible refine Ev.br_not ?_); conv => whnf) | (with_reducible first | refine Ev.br_dec (fun _ => ?_) (fun _ => ?_) | refine Ev.br (fun _ => ?_) (fun _ => ?_) | refine Ev.eo_ret ?_ | refine Ev.eo_norm ?_ | refine Ev.t_norm ?_ | refine Ev.k_seq ?_) | ((with_reducible refine Ev.k_reg (hs := []) (tabOK' _ _) (fun Q hQ => ?_)); (simp only [Ev.runE_cons, Ev.runE_nil]); conv => whnf) | (with_reducible refine hQ _ ?_; clear hQ Q) | (with_reducible first | refine Ev.k_cond rfl ?_ | refine Ev.k_skip ?_ | refine Ev.k_block ?_ | refine Ev.k_exit ?_ | refine Ev.k_ret ?_ | refine Ev.t_ret ?_ | refine Ev.t_exit ?_ | refine Ev.b_norm ?_ | refine Ev.b_ret ?_ | refine Ev.b_here ?_ | refine Ev.b_off rfl ?_) | ((with_reducible first | refine Ev.e_ret (fun F hF => ?_) | refine Ev.e_norm (fun F hF => ?_) | refine Ev.eh_ret (fun F hF => ?_) | refine Ev.eh_norm (fun F hF => ?_) | refine Ev.go_k (fun c' => ?_) | refine Ev.byt_cut ?_ | refine Ev.byt_all ?_ | refine Ev.run_cut ?_ | refine Ev.run_all ?_); conv => whnf) | (with_reducible refine hF _ ?_; clear hF F) | (with_reducible refine Ev.u_step ?_) | ((refine Ev.k_draw (id := 4) (hs := []) (tabOK' _ _) (mixed' _ _) [0, 1, 2, 3, 4, 5, 6, 7, 8, 9, 10, 11, 12, 13, 14, 15, 16, 17, 18, 19, 24, 25, 26, 27, 28, 20, 21, 22, 23, 29, 30, 31] (by decide) rfl rfl (fun Q hQ => ?_)); (simp only [Ev.runE_cons, Ev.runE_nil]); conv => whnf) | ((refine Ev.el_map0 ?_ (fun hi => ?_)); rotate_left; conv => whnf) | ((refine Ev.el_mapN ?_ (fun hi => ?_)); rotate_left; conv => whnf) | (refine Ev.Side.of ?_; exact Nat.le_of_ble_eq_true rfl) | (refine Ev.Side.of ?_; omega) | (refine Ev.Side.of ?_; simp only [Ev.wrap64]; omega) | (refine Ev.app_one ?_ rfl ?_ (by decide) <;> (first | omega | (simp; done) | (simp; omega))) | (refine Ev.app_nil1 rfl (by decide)) | (refine Ev.app_ys ?_ ?_ ?_ (by decide) <;> (first | omega | exact sps_all _ | exact bts_all _ | exact ints_all _ | exact spss_all _ | (simp; done) | (simp; omega))) | (refine Ev.app_nil ?_ ?_ (by decide) <;> (first | omega | exact sps_all _ | exact bts_all _ | exact ints_all _ | exact spss_all _ | (simp; done) | (simp; omega))) | (refine Ev.Side.of ?_; first | omega | (simp; done) | (simp; omega)))
  refine Ev.loop (fun k s => ∃ i c : Nat, s = ⟨[(0, .lst 3 (sps l)), (2, .v (.bool false)), (3, .v (.int .i64 i))], [], c⟩ ∧ k + i = l.length ∧ isN l = isNG (prevK l i) (l.drop i)) ?_ ?_
  · (refine Ev.to _ ?hs4 ?hh4 ?hc4 ⟨l.length, 0, 0, rfl, ?hp4⟩; (case hs4 | hh4 => ((repeat' (first | exact trivial | refine And.intro ?_ ?_)) <;> (refine Ev.slot_eq rfl ?_; first | with_reducible rfl | (refine Ev.int_eq ?_; first | omega | (simp only [Ev.wrap64, Ev.wrap8, Ev.wrap32, Int.toNat_natCast] at *; omega)) | ((first | refine Ev.int_eq ?_ | refine Ev.own_eq ?_ | refine Ev.blk_eq ?_ | skip); first | with_reducible rfl | omega | (first | rfl | (simp; done)) | rfl) | (first | rfl | (simp; done)) | rfl))); (case hc4 => exact Nat.le_refl _))
    exact ⟨by omega, rfl⟩
  rintro k s1 ⟨i, c, rfl, hk, ht⟩
  repeat' (first | ((with_reducible first | refine Ev.sided ?_ ?_ | refine Ev.w_put ?_ | refine Ev.w_step ?_ | refine Ev.w_opt ?_); (conv => whnf)) | ((with_reducible refine Ev.chk_k ?_ ?_); rotate_left; (focus first | rfl | (simp only [Ev.nbeq, Bool.and_true, Bool.true_and, Bool.not_false]; done) | ((repeat' (first | exact Ev.nbeq _ | rfl | refine Bool.and_eq_true_iff.2 ⟨?_, ?_⟩)); done)); conv => whnf) | (with_reducible first | refine Ev.c_dec (fun _ => ?_) (fun _ => ?_) | refine Ev.c_not ?_ | refine Ev.c_t ?_ | refine Ev.c_f ?_ | refine Ev.c_br (fun _ => ?_) (fun _ => ?_)) | ((with_reducible refine Ev.br_not ?_); conv => whnf) | (with_reducible first | refine Ev.br_dec (fun _ => ?_) (fun _ => ?_) | refine Ev.br (fun _ => ?_) (fun _ => ?_) | refine Ev.eo_ret ?_ | refine Ev.eo_norm ?_ | refine Ev.t_norm ?_ | refine Ev.k_seq ?_) | ((with_reducible refine Ev.k_reg (hs := []) (tabOK' _ _) (fun Q hQ => ?_)); (simp only [Ev.runE_cons, Ev.runE_nil]); conv => whnf) | (with_reducible refine hQ _ ?_; clear hQ Q) | (with_reducible first | refine Ev.k_cond rfl ?_ | refine Ev.k_skip ?_ | refine Ev.k_block ?_ | refine Ev.k_exit ?_ | refine Ev.k_ret ?_ | refine Ev.t_ret ?_ | refine Ev.t_exit ?_ | refine Ev.b_norm ?_ | refine Ev.b_ret ?_ | refine Ev.b_here ?_ | refine Ev.b_off rfl ?_) | ((with_reducible first | refine Ev.e_ret (fun F hF => ?_) | refine Ev.e_norm (fun F hF => ?_) | refine Ev.eh_ret (fun F hF => ?_) | refine Ev.eh_norm (fun F hF => ?_) | refine Ev.go_k (fun c' => ?_) | refine Ev.byt_cut ?_ | refine Ev.byt_all ?_ | refine Ev.run_cut ?_ | refine Ev.run_all ?_); conv => whnf) | (with_reducible refine hF _ ?_; clear hF F) | (with_reducible refine Ev.u_step ?_) | ((refine Ev.k_draw (id := 4) (hs := []) (tabOK' _ _) (mixed' _ _) [0, 1, 2, 3, 4, 5, 6, 7, 8, 9, 10, 11, 12, 13, 14, 15, 16, 17, 18, 19, 24, 25, 26, 27, 28, 20, 21, 22, 23, 29, 30, 31] (by decide) rfl rfl (fun Q hQ => ?_)); (simp only [Ev.runE_cons, Ev.runE_nil]); conv => whnf) | ((refine Ev.el_map0 ?_ (fun hi => ?_)); rotate_left; conv => whnf) | ((refine Ev.el_mapN ?_ (fun hi => ?_)); rotate_left; conv => whnf) | (refine Ev.Side.of ?_; exact Nat.le_of_ble_eq_true rfl) | (refine Ev.Side.of ?_; omega) | (refine Ev.Side.of ?_; simp only [Ev.wrap64]; omega) | (refine Ev.app_one ?_ rfl ?_ (by decide) <;> (first | omega | (simp; done) | (simp; omega))) | (refine Ev.app_nil1 rfl (by decide)) | (refine Ev.app_ys ?_ ?_ ?_ (by decide) <;> (first | omega | exact sps_all _ | exact bts_all _ | exact ints_all _ | exact spss_all _ | (simp; done) | (simp; omega))) | (refine Ev.app_nil ?_ ?_ (by decide) <;> (first | omega | exact sps_all _ | exact bts_all _ | exact ints_all _ | exact spss_all _ | (simp; done) | (simp; omega))) | (refine Ev.Side.of ?_; first | omega | (simp; done) | (simp; omega)))
  · rename_i hn h
    exact ⟨isN_false hi ht (.inl (empty_t (by assumption) h)), rfl⟩
  · rename_i hi2 hn hi3 h h0 hi4 hq
    exact ⟨isN_false hi4 ht (.inr ((pred_at h0 (by omega) hi).trans (congrArg some hq))), rfl⟩
  · rename_i hi2 hn hi3 h h0 hi4 hq
    (refine Ev.again (k - 1) _ ?hm5 ?hs5 ?hh5 ?hc5 ⟨i + 1, c, rfl, ?hp5⟩; (case hs5 | hh5 => ((repeat' (first | exact trivial | refine And.intro ?_ ?_)) <;> (refine Ev.slot_eq rfl ?_; first | with_reducible rfl | (refine Ev.int_eq ?_; first | omega | (simp only [Ev.wrap64, Ev.wrap8, Ev.wrap32, Int.toNat_natCast] at *; omega)) | ((first | refine Ev.int_eq ?_ | refine Ev.own_eq ?_ | refine Ev.blk_eq ?_ | skip); first | with_reducible rfl | omega | (first | exact wrap_succ (by omega) | rfl) | rfl) | (first | exact wrap_succ (by omega) | rfl) | rfl))); (case hc5 => exact Nat.le_refl _); (case hm5 => omega))
    exact ⟨by omega, isN_next hi4 ht (empty_f (.inr h)) (fun e => hq (Option.some.inj ((pred_at h0 (by omega) hi).symm.trans e)))⟩
  · exact pred_side (by assumption) (by omega) (by omega)
  · rename_i h h0
    (refine Ev.again (k - 1) _ ?hm6 ?hs6 ?hh6 ?hc6 ⟨i + 1, c, rfl, ?hp6⟩; (case hs6 | hh6 => ((repeat' (first | exact trivial | refine And.intro ?_ ?_)) <;> (refine Ev.slot_eq rfl ?_; first | with_reducible rfl | (refine Ev.int_eq ?_; first | omega | (simp only [Ev.wrap64, Ev.wrap8, Ev.wrap32, Int.toNat_natCast] at *; omega)) | ((first | refine Ev.int_eq ?_ | refine Ev.own_eq ?_ | refine Ev.blk_eq ?_ | skip); first | with_reducible rfl | omega | (first | exact wrap_succ (by omega) | rfl) | rfl) | (first | exact wrap_succ (by omega) | rfl) | rfl))); (case hc6 => exact Nat.le_refl _); (case hm6 => omega))
    exact ⟨by omega, isN_next hi ht (empty_f (.inr h)) (prev_ne h0 hi)⟩
  · rename_i hi2 hn h0 hi4 hq
    exact ⟨isN_false hi4 ht (.inr ((pred_at h0 (by omega) hi).trans (congrArg some hq))), rfl⟩
  · rename_i hi2 hn h0 hi4 hq
    (refine Ev.again (k - 1) _ ?hm7 ?hs7 ?hh7 ?hc7 ⟨i + 1, c, rfl, ?hp7⟩; (case hs7 | hh7 => ((repeat' (first | exact trivial | refine And.intro ?_ ?_)) <;> (refine Ev.slot_eq rfl ?_; first | with_reducible rfl | (refine Ev.int_eq ?_; first | omega | (simp only [Ev.wrap64, Ev.wrap8, Ev.wrap32, Int.toNat_natCast] at *; omega)) | ((first | refine Ev.int_eq ?_ | refine Ev.own_eq ?_ | refine Ev.blk_eq ?_ | skip); first | with_reducible rfl | omega | (first | exact wrap_succ (by omega) | rfl) | rfl) | (first | exact wrap_succ (by omega) | rfl) | rfl))); (case hc7 => exact Nat.le_refl _); (case hm7 => omega))
    exact ⟨by omega, isN_next hi4 ht (empty_f (.inl hn)) (fun e => hq (Option.some.inj ((pred_at h0 (by omega) hi).symm.trans e)))⟩
  · exact pred_side (by assumption) (by omega) (by omega)
  · rename_i h h0
    (refine Ev.again (k - 1) _ ?hm8 ?hs8 ?hh8 ?hc8 ⟨i + 1, c, rfl, ?hp8⟩; (case hs8 | hh8 => ((repeat' (first | exact trivial | refine And.intro ?_ ?_)) <;> (refine Ev.slot_eq rfl ?_; first | with_reducible rfl | (refine Ev.int_eq ?_; first | omega | (simp only [Ev.wrap64, Ev.wrap8, Ev.wrap32, Int.toNat_natCast] at *; omega)) | ((first | refine Ev.int_eq ?_ | refine Ev.own_eq ?_ | refine Ev.blk_eq ?_ | skip); first | with_reducible rfl | omega | (first | exact wrap_succ (by omega) | rfl) | rfl) | (first | exact wrap_succ (by omega) | rfl) | rfl))); (case hc8 => exact Nat.le_refl _); (case hm8 => omega))
    exact ⟨by omega, isN_next hi ht (empty_f (.inl h)) (prev_ne h0 hi)⟩
  · rw [List.drop_of_length_le (by omega)] at ht
    exact ⟨Ev.bool_eq ht.symm, rfl⟩
end Go.Proofs.YthdjbgbfboppcaaDoor.Abs
