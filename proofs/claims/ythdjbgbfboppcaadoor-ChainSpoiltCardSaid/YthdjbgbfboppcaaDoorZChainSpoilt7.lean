/- A part of the proof: a calculus over values, and contracts of functions. No condition. -/
import Derived.Test.YthdjbgbfboppcaaDoorZD6
namespace Go.Proofs.YthdjbgbfboppcaaDoor.Abs
open Go Go.RowKit
set_option linter.unusedSimpArgs false
set_option linter.unusedVariables false
namespace Ev
inductive Pl where
  | fin
  | one (i : Nat) (pu : Bool) (k : Pl)
  | two (i : Nat) (k : Pl) (j : Nat) (m : Pl)
def Pl.depth : Pl → Nat
  | .fin => 0
  | .one _ _ k => k.depth + 1
  | .two _ k _ _ => k.depth + 1
structure Both (A B : Prop) : Prop where
  l : A
  r : B
theorem both {A B : Prop} (a : A) (b : B) : Both A B := ⟨a, b⟩
section
variable {E : Env} {T : Tab} {hs : List FuncId} {base : Nat} {l : List Ins} {deps : List (List Nat)} {Q : St → Prop}
end
end Ev
end Go.Proofs.YthdjbgbfboppcaaDoor.Abs

namespace Go.Proofs.YthdjbgbfboppcaaDoor.Abs
open Go
set_option maxRecDepth 100000
set_option linter.unusedSimpArgs false
set_option linter.unusedVariables false
attribute [local irreducible] Ev.Unr Ev.Go' Ev.bytK Ev.runK Ev.FinL Ev.brC Ev.Side Ev.Wp Ev.Again Ev.To Ev.Fin
open Go.Lib Go.RowKit
set_option maxHeartbeats 4000000 in
theorem fit16_own (t : ByteArray) (l : List (List Sp)) (hne : (fitL' t l).segs ≠ []) : CallW env 27 [.v (.string t), .lst 1 (rowsA l)] (fun r hs => r = .agg [.v (.string (fitL' t l).base), .own 0 0 0 ((fitL' t l).segs.length + 1), .own 1 1 0 (fitL' t l).segs.length] ∧ hs = [⟨1, 3, 0, 0, false, ints (fitL' t l).revs⟩, ⟨1, 25, 1, 0, false, rowsA (fitL' t l).segs⟩]) := by
  have hrl := rowsA_len l
  have hs20 : (t.extract 0 (min t.size 20)).size ≤ 20 := by rw [ByteArray.size_extract]; omega
  have hx : (min (t.size : Int) 20).toNat = min t.size 20 := by omega
  have hF : CallW env 64 [.v (.string (t.extract 0 (min (t.size : Int) 20).toNat))] (fun r hs => r = .v (.string (fitS (t.extract 0 (min t.size 20)))) ∧ hs = []) := by rw [hx]; exact fit_call _ (by omega)
  have hC := rcount_call (fitS (t.extract 0 (min t.size 20))) (by have := fit_size (t.extract 0 (min t.size 20)) (by omega); omega)
  have hcc := fit_count (t.extract 0 (min t.size 20))
  have hW := chain4_call l (countD (fitS (t.extract 0 (min t.size 20))).data.toList) (by omega)
  have hL : (fitL' t l).base = fitS (t.extract 0 (min t.size 20)) ∧ (fitL' t l).revs = ((List.range ((chO l (countD (fitS (t.extract 0 (min t.size 20))).data.toList)).length + 1)).map fun (i : Nat) => (i : Int)) ∧ (fitL' t l).segs = (chO l (countD (fitS (t.extract 0 (min t.size 20))).data.toList)).map norm := ⟨rfl, rfl, rfl⟩
  have hLx : lgA (fitL' t l) = .agg [.v (.string (fitS (t.extract 0 (min t.size 20)))), .lst 1 (ints ((List.range ((chO l (countD (fitS (t.extract 0 (min t.size 20))).data.toList)).length + 1)).map fun (i : Nat) => (i : Int))), .lst 1 (rowsA ((chO l (countD (fitS (t.extract 0 (min t.size 20))).data.toList)).map norm))] := rfl
  rw [hL.2.2] at hne
  rw [hL.1, hL.2.1, hL.2.2]
  clear hL hLx
  have hcw := chO_chn l (n := countD (fitS (t.extract 0 (min t.size 20))).data.toList) (by omega)
  have hN : ∀ x ∈ chO l (countD (fitS (t.extract 0 (min t.size 20))).data.toList), x.length ≤ 13 ∧ tbs x ≤ 312 := by
    intro x hx
    obtain ⟨y, m, rfl, m1, m2⟩ := chn_mem hcw.1 x hx
    exact fit_tbs y (by omega)
  obtain ⟨_, h20⟩ := hcw
  generalize fitS (t.extract 0 (min t.size 20)) = b at *
  generalize chO l (countD b.data.toList) = W at *
  have hwl := rowsA_len W
  refine Ev.funcO tabOK [0, 1, 4, 5, 6, 7, 24] 0 Tryd.func27 rfl rfl (by simp [Tryd.ntmps27]) (by rfl) (comp27 _ rfl) (rs := [.cell 4 42]) rfl ?_; rw [cc27]; show Ev.Wp _ _ _ _ ⟨[(0, _), (1, _)], [], 0⟩
  repeat' (first | (((with_reducible refine Ev.br_pos ?_ ?_); focus (decide)); conv => whnf) | (((with_reducible refine Ev.br_neg ?_ ?_); focus (decide)); conv => whnf) | (((with_reducible refine Ev.c_pos ?_ ?_); focus (decide))) | (((with_reducible refine Ev.c_neg ?_ ?_); focus (decide))) | ((with_reducible first | refine Ev.sided ?_ ?_ | refine Ev.w_put ?_ | refine Ev.w_step ?_ | refine Ev.w_opt ?_); (conv => whnf)) | ((with_reducible refine Ev.chk_k ?_ ?_); rotate_left; (focus first | rfl | (simp only [Ev.nbeq, Bool.and_true, Bool.true_and, Bool.not_false]; done) | ((repeat' (first | exact Ev.nbeq _ | rfl | refine Bool.and_eq_true_iff.2 ⟨?_, ?_⟩)); done)); conv => whnf) | (with_reducible first | refine Ev.c_dec (fun _ => ?_) (fun _ => ?_) | refine Ev.c_not ?_ | refine Ev.c_t ?_ | refine Ev.c_f ?_ | refine Ev.c_br (fun _ => ?_) (fun _ => ?_)) | ((with_reducible refine Ev.br_not ?_); conv => whnf) | (with_reducible first | refine Ev.br_dec (fun _ => ?_) (fun _ => ?_) | refine Ev.br (fun _ => ?_) (fun _ => ?_) | refine Ev.eo_ret ?_ | refine Ev.eo_norm ?_ | refine Ev.t_norm ?_ | refine Ev.k_seq ?_) | ((with_reducible refine Ev.k_reg (hs := []) (tabOK' _ _) (fun Q hQ => ?_)); (simp only [Ev.runE_cons, Ev.runE_nil]); conv => whnf) | (with_reducible refine hQ _ ?_; clear hQ Q) | (with_reducible first | refine Ev.k_cond rfl ?_ | refine Ev.k_skip ?_ | refine Ev.k_block ?_ | refine Ev.k_exit ?_ | refine Ev.k_ret ?_ | refine Ev.t_ret ?_ | refine Ev.t_exit ?_ | refine Ev.b_norm ?_ | refine Ev.b_ret ?_ | refine Ev.b_here ?_ | refine Ev.b_off rfl ?_) | ((with_reducible first | refine Ev.e_ret (fun F hF => ?_) | refine Ev.e_norm (fun F hF => ?_) | refine Ev.eh_ret (fun F hF => ?_) | refine Ev.eh_norm (fun F hF => ?_) | refine Ev.go_k (fun c' => ?_) | refine Ev.byt_cut ?_ | refine Ev.byt_all ?_ | refine Ev.run_cut ?_ | refine Ev.run_all ?_); conv => whnf) | (with_reducible refine hF _ ?_; clear hF F) | (with_reducible refine Ev.u_step ?_) | ((first | refine Ev.call_det (hF) rfl rfl ?_ | refine Ev.call_det (hC) rfl rfl ?_ | refine Ev.call_det (hW) rfl rfl ?_); conv => whnf) | ((first | refine Ev.call_det (hF) ?_ rfl ?_ | refine Ev.call_det (hC) ?_ rfl ?_ | refine Ev.call_det (hW) ?_ rfl ?_); (focus (repeat' (first | with_reducible rfl | refine Ev.cons_eq ?_ ?_)) <;> (first | rfl | (refine Ev.lst_eq (Ev.take_all ?_ rfl); first | omega | (simp; done) | (simp; omega)) | (refine Ev.int_eq ?_; omega) | (simp; done))); conv => whnf) | ((refine Ev.k_draw (id := 7) (hs := []) (tabOK' _ _) (mixed' _ _) [0, 1, 2, 3, 4, 5, 6, 7, 8, 9, 10] (by decide) rfl rfl (fun Q hQ => ?_)); (simp only [Ev.runE_cons, Ev.runE_nil]); conv => whnf) | ((refine Ev.el_map0 ?_ (fun hi => ?_)); rotate_left; conv => whnf) | ((refine Ev.el_mapN ?_ (fun hi => ?_)); rotate_left; conv => whnf) | (refine Ev.Side.of ?_; exact Nat.le_of_ble_eq_true rfl) | (refine Ev.Side.of ?_; omega) | (refine Ev.Side.of ?_; simp only [Ev.wrap64]; omega) | (refine Ev.app_one ?_ rfl ?_ (by decide) <;> (first | omega | (simp; done) | (simp; omega))) | (refine Ev.app_nil1 rfl (by decide)) | (refine Ev.app_ys ?_ ?_ ?_ (by decide) <;> (first | omega | exact sps_all _ | exact bts_all _ | exact ints_all _ | exact spss_all _ | (simp; done) | (simp; omega))) | (refine Ev.app_nil ?_ ?_ (by decide) <;> (first | omega | exact sps_all _ | exact bts_all _ | exact ints_all _ | exact spss_all _ | (simp; done) | (simp; omega))) | (refine Ev.Side.of ?_; first | omega | (simp; done) | (simp; omega)))
  have hrg : ∀ i : Nat, ((List.range (i + 1)).map fun (i : Nat) => (i : Int)) = ((List.range i).map fun (i : Nat) => (i : Int)) ++ [(i : Int)] := fun i => by rw [List.range_succ, List.map_append]; rfl
  refine Ev.loop (fun k s => ∃ (i c v w : Nat) (sg : AV) (hx : List (Nat × Blk)), s = ⟨[(4, .ptr 0 0 0 0), (5, .ptr 576 w 0 0), (6, .lst 1 (rowsA W)), (7, .v (.int .i64 i))],
      (576, ⟨3, 42, w, 0, true, [[.v (.string b), .own 560 v 0 (i + 1), sg]]⟩) :: (560, ⟨1, 3, v, 0, false, ints ((List.range (i + 1)).map fun (i : Nat) => (i : Int))⟩) :: (0, ⟨3, 42, 0, 0, true, [[.v (.string ⟨#[]⟩), nilA, nilA]]⟩) :: hx, c⟩ ∧
      ((i = 0 ∧ sg = nilA ∧ hx = []) ∨ (0 < i ∧ ∃ u, sg = .own 3648 u 0 i ∧ hx = [(3648, ⟨1, 25, u, 0, false, rowsA ((W.take i).map norm)⟩)])) ∧ k + i = W.length) ?_ ?_
  · (refine Ev.to _ ?hs1 ?hh1 ?hc1 ⟨W.length, 0, ?_, ?_, ?_, nilA, [], rfl, ?hp1⟩; (case hs1 | hh1 => ((repeat' (first | exact trivial | refine And.intro ?_ ?_)) <;> (refine Ev.slot_eq rfl ?_; first | with_reducible rfl | (refine Ev.int_eq ?_; first | omega | (simp only [Ev.wrap64, Ev.wrap8, Ev.wrap32, Int.toNat_natCast] at *; omega)) | ((first | refine Ev.int_eq ?_ | refine Ev.own_eq ?_ | refine Ev.blk_eq ?_ | skip); first | with_reducible rfl | omega | (first | rfl | (simp; done)) | rfl) | (first | rfl | (simp; done)) | rfl))); (case hc1 => exact Nat.le_refl _))
    exact ⟨.inl ⟨rfl, rfl, rfl⟩, by omega⟩
  rintro k s1 ⟨i, c, v, w, sg, hx, rfl, hsg, hk⟩
  have hlr := ints_len ((List.range (i + 1)).map fun (i : Nat) => (i : Int))
  rw [List.length_map, List.length_range] at hlr
  have hO : ∀ (hi : i < W.length), CallW env 66 [.lst 3 (sps W[i])] (fun r hs => r = .lst 3 (sps (norm W[i])) ∧ hs = []) := fun hi => by
    have := hN _ (List.getElem_mem hi); exact rnof_call _ (by omega) (by omega)
  by_cases hi : i < W.length
  · have hi2 : (i : Int) < ((rowsA W).length : Int) := by omega
    rcases hsg with ⟨rfl, rfl, rfl⟩ | ⟨h0, u, rfl, rfl⟩
    · repeat' (first | (((with_reducible refine Ev.br_pos ?_ ?_); focus (decide)); conv => whnf) | (((with_reducible refine Ev.br_neg ?_ ?_); focus (decide)); conv => whnf) | (((with_reducible refine Ev.c_pos ?_ ?_); focus (decide))) | (((with_reducible refine Ev.c_neg ?_ ?_); focus (decide))) | (with_reducible refine Ev.c_pos hi2 ?_) | ((with_reducible first | refine Ev.sided ?_ ?_ | refine Ev.w_put ?_ | refine Ev.w_step ?_ | refine Ev.w_opt ?_); (conv => whnf)) | ((with_reducible refine Ev.chk_k ?_ ?_); rotate_left; (focus first | rfl | (simp only [Ev.nbeq, Bool.and_true, Bool.true_and, Bool.not_false]; done) | ((repeat' (first | exact Ev.nbeq _ | rfl | refine Bool.and_eq_true_iff.2 ⟨?_, ?_⟩)); done)); conv => whnf) | (with_reducible first | refine Ev.c_dec (fun _ => ?_) (fun _ => ?_) | refine Ev.c_not ?_ | refine Ev.c_t ?_ | refine Ev.c_f ?_ | refine Ev.c_br (fun _ => ?_) (fun _ => ?_)) | ((with_reducible refine Ev.br_not ?_); conv => whnf) | (with_reducible first | refine Ev.br_dec (fun _ => ?_) (fun _ => ?_) | refine Ev.br (fun _ => ?_) (fun _ => ?_) | refine Ev.eo_ret ?_ | refine Ev.eo_norm ?_ | refine Ev.t_norm ?_ | refine Ev.k_seq ?_) | ((with_reducible refine Ev.k_reg (hs := []) (tabOK' _ _) (fun Q hQ => ?_)); (simp only [Ev.runE_cons, Ev.runE_nil]); conv => whnf) | (with_reducible refine hQ _ ?_; clear hQ Q) | (with_reducible first | refine Ev.k_cond rfl ?_ | refine Ev.k_skip ?_ | refine Ev.k_block ?_ | refine Ev.k_exit ?_ | refine Ev.k_ret ?_ | refine Ev.t_ret ?_ | refine Ev.t_exit ?_ | refine Ev.b_norm ?_ | refine Ev.b_ret ?_ | refine Ev.b_here ?_ | refine Ev.b_off rfl ?_) | ((with_reducible first | refine Ev.e_ret (fun F hF => ?_) | refine Ev.e_norm (fun F hF => ?_) | refine Ev.eh_ret (fun F hF => ?_) | refine Ev.eh_norm (fun F hF => ?_) | refine Ev.go_k (fun c' => ?_) | refine Ev.byt_cut ?_ | refine Ev.byt_all ?_ | refine Ev.run_cut ?_ | refine Ev.run_all ?_); conv => whnf) | (with_reducible refine hF _ ?_; clear hF F) | (with_reducible refine Ev.u_step ?_) | ((first | refine Ev.call_det (hO hi) rfl rfl ?_); conv => whnf) | ((first | refine Ev.call_det (hO hi) ?_ rfl ?_); (focus (repeat' (first | with_reducible rfl | refine Ev.cons_eq ?_ ?_)) <;> (first | rfl | (refine Ev.lst_eq (Ev.take_all ?_ rfl); first | omega | (simp; done) | (simp; omega)) | (refine Ev.int_eq ?_; omega) | (simp; done))); conv => whnf) | ((refine Ev.k_draw (id := 7) (hs := []) (tabOK' _ _) (mixed' _ _) [0, 1, 2, 3, 4, 5, 6, 7, 8, 9, 10] (by decide) rfl rfl (fun Q hQ => ?_)); (simp only [Ev.runE_cons, Ev.runE_nil]); conv => whnf) | ((refine Ev.el_map0 ?_ (fun hi => ?_)); rotate_left; conv => whnf) | ((refine Ev.el_mapN ?_ (fun hi => ?_)); rotate_left; conv => whnf) | (refine Ev.Side.of ?_; exact Nat.le_of_ble_eq_true rfl) | (refine Ev.Side.of ?_; omega) | (refine Ev.Side.of ?_; simp only [Ev.wrap64]; omega) | (refine Ev.app_one ?_ rfl ?_ (by decide) <;> (first | omega | (simp; done) | (simp; omega))) | (refine Ev.app_nil1 rfl (by decide)) | (refine Ev.app_ys ?_ ?_ ?_ (by decide) <;> (first | omega | exact sps_all _ | exact bts_all _ | exact ints_all _ | exact spss_all _ | (simp; done) | (simp; omega))) | (refine Ev.app_nil ?_ ?_ (by decide) <;> (first | omega | exact sps_all _ | exact bts_all _ | exact ints_all _ | exact spss_all _ | (simp; done) | (simp; omega))) | (refine Ev.Side.of ?_; first | omega | (simp; done) | (simp; omega)))
      have hw1 : IntKind.i64.wrap (((0 : Nat) : Int) + 1) = ((0 + 1 : Nat) : Int) := by rw [wrap_id (by omega)]; rfl
      have hr1 : ints ((List.range (0 + 1)).map fun (i : Nat) => (i : Int)) ++ List.take 1 (List.drop 0 [[AV.v (.int .i64 (IntKind.i64.wrap (((0 : Nat) : Int) + 1)))]]) = ints ((List.range (0 + 1 + 1)).map fun (i : Nat) => (i : Int)) := by rw [hrg (0 + 1), ints_app, hw1]; rfl
      have hr2 : List.take 1 (List.drop 0 [[AV.lst 3 (sps (norm W[0]))]]) = rowsA ((W.take (0 + 1)).map norm) := by rw [List.take_succ_eq_append_getElem hi]; rfl
      (refine Ev.again (k - 1) _ ?hm2 ?hs2 ?hh2 ?hc2 ⟨0 + 1, ?_, c + 8, w, .own 3648 (c + 8 + 8 + 8) 0 (0 + 1), [(3648, ⟨1, 25, c + 8 + 8 + 8, 0, false, rowsA ((W.take (0 + 1)).map norm)⟩)], rfl, ?hp2⟩; (case hs2 | hh2 => ((repeat' (first | exact trivial | refine And.intro ?_ ?_)) <;> (refine Ev.slot_eq rfl ?_; first | with_reducible rfl | (refine Ev.int_eq ?_; first | omega | (simp only [Ev.wrap64, Ev.wrap8, Ev.wrap32, Int.toNat_natCast] at *; omega)) | ((first | refine Ev.int_eq ?_ | refine Ev.own_eq ?_ | refine Ev.blk_eq ?_ | skip); first | with_reducible rfl | omega | (first | exact wrap_succ (by omega) | exact congrArg (fun n => Blk.mk 1 3 _ 0 false n) hr1 | exact congrArg (fun n => Blk.mk 1 25 _ 0 false n) hr2 | rfl) | rfl) | (first | exact wrap_succ (by omega) | exact congrArg (fun n => Blk.mk 1 3 _ 0 false n) hr1 | exact congrArg (fun n => Blk.mk 1 25 _ 0 false n) hr2 | rfl) | rfl))); (case hc2 => exact Nat.le_refl _); (case hm2 => omega))
      exact ⟨.inr ⟨by omega, _, rfl, rfl⟩, by omega⟩
    · have hml := rowsA_len ((W.take i).map norm)
      rw [List.length_map, List.length_take] at hml
      repeat' (first | (((with_reducible refine Ev.br_pos ?_ ?_); focus (decide)); conv => whnf) | (((with_reducible refine Ev.br_neg ?_ ?_); focus (decide)); conv => whnf) | (((with_reducible refine Ev.c_pos ?_ ?_); focus (decide))) | (((with_reducible refine Ev.c_neg ?_ ?_); focus (decide))) | (with_reducible refine Ev.c_pos hi2 ?_) | ((with_reducible first | refine Ev.sided ?_ ?_ | refine Ev.w_put ?_ | refine Ev.w_step ?_ | refine Ev.w_opt ?_); (conv => whnf)) | ((with_reducible refine Ev.chk_k ?_ ?_); rotate_left; (focus first | rfl | (simp only [Ev.nbeq, Bool.and_true, Bool.true_and, Bool.not_false]; done) | ((repeat' (first | exact Ev.nbeq _ | rfl | refine Bool.and_eq_true_iff.2 ⟨?_, ?_⟩)); done)); conv => whnf) | (with_reducible first | refine Ev.c_dec (fun _ => ?_) (fun _ => ?_) | refine Ev.c_not ?_ | refine Ev.c_t ?_ | refine Ev.c_f ?_ | refine Ev.c_br (fun _ => ?_) (fun _ => ?_)) | ((with_reducible refine Ev.br_not ?_); conv => whnf) | (with_reducible first | refine Ev.br_dec (fun _ => ?_) (fun _ => ?_) | refine Ev.br (fun _ => ?_) (fun _ => ?_) | refine Ev.eo_ret ?_ | refine Ev.eo_norm ?_ | refine Ev.t_norm ?_ | refine Ev.k_seq ?_) | ((with_reducible refine Ev.k_reg (hs := []) (tabOK' _ _) (fun Q hQ => ?_)); (simp only [Ev.runE_cons, Ev.runE_nil]); conv => whnf) | (with_reducible refine hQ _ ?_; clear hQ Q) | (with_reducible first | refine Ev.k_cond rfl ?_ | refine Ev.k_skip ?_ | refine Ev.k_block ?_ | refine Ev.k_exit ?_ | refine Ev.k_ret ?_ | refine Ev.t_ret ?_ | refine Ev.t_exit ?_ | refine Ev.b_norm ?_ | refine Ev.b_ret ?_ | refine Ev.b_here ?_ | refine Ev.b_off rfl ?_) | ((with_reducible first | refine Ev.e_ret (fun F hF => ?_) | refine Ev.e_norm (fun F hF => ?_) | refine Ev.eh_ret (fun F hF => ?_) | refine Ev.eh_norm (fun F hF => ?_) | refine Ev.go_k (fun c' => ?_) | refine Ev.byt_cut ?_ | refine Ev.byt_all ?_ | refine Ev.run_cut ?_ | refine Ev.run_all ?_); conv => whnf) | (with_reducible refine hF _ ?_; clear hF F) | (with_reducible refine Ev.u_step ?_) | ((first | refine Ev.call_det (hO hi) rfl rfl ?_); conv => whnf) | ((first | refine Ev.call_det (hO hi) ?_ rfl ?_); (focus (repeat' (first | with_reducible rfl | refine Ev.cons_eq ?_ ?_)) <;> (first | rfl | (refine Ev.lst_eq (Ev.take_all ?_ rfl); first | omega | (simp; done) | (simp; omega)) | (refine Ev.int_eq ?_; omega) | (simp; done))); conv => whnf) | ((refine Ev.k_draw (id := 7) (hs := []) (tabOK' _ _) (mixed' _ _) [0, 1, 2, 3, 4, 5, 6, 7, 8, 9, 10] (by decide) rfl rfl (fun Q hQ => ?_)); (simp only [Ev.runE_cons, Ev.runE_nil]); conv => whnf) | ((refine Ev.el_map0 ?_ (fun hi => ?_)); rotate_left; conv => whnf) | ((refine Ev.el_mapN ?_ (fun hi => ?_)); rotate_left; conv => whnf) | (refine Ev.Side.of ?_; exact Nat.le_of_ble_eq_true rfl) | (refine Ev.Side.of ?_; omega) | (refine Ev.Side.of ?_; simp only [Ev.wrap64]; omega) | (refine Ev.app_one ?_ rfl ?_ (by decide) <;> (first | omega | (simp; done) | (simp; omega))) | (refine Ev.app_nil1 rfl (by decide)) | (refine Ev.app_ys ?_ ?_ ?_ (by decide) <;> (first | omega | exact sps_all _ | exact bts_all _ | exact ints_all _ | exact spss_all _ | (simp; done) | (simp; omega))) | (refine Ev.app_nil ?_ ?_ (by decide) <;> (first | omega | exact sps_all _ | exact bts_all _ | exact ints_all _ | exact spss_all _ | (simp; done) | (simp; omega))) | (refine Ev.Side.of ?_; first | omega | (simp; done) | (simp; omega)))
      have hw1 : IntKind.i64.wrap ((i : Int) + 1) = ((i + 1 : Nat) : Int) := by rw [wrap_id (by omega)]; simp
      have hr1 : ints ((List.range (i + 1)).map fun (i : Nat) => (i : Int)) ++ List.take 1 (List.drop 0 [[AV.v (.int .i64 (IntKind.i64.wrap ((i : Int) + 1)))]]) = ints ((List.range (i + 1 + 1)).map fun (i : Nat) => (i : Int)) := by rw [hrg (i + 1), ints_app, hw1]; rfl
      have hr2 : rowsA ((W.take i).map norm) ++ List.take 1 (List.drop 0 [[AV.lst 3 (sps (norm W[i]))]]) = rowsA ((W.take (i + 1)).map norm) := by rw [List.take_succ_eq_append_getElem hi, List.map_append, rowsA_app]; rfl
      (refine Ev.again (k - 1) _ ?hm3 ?hs3 ?hh3 ?hc3 ⟨i + 1, ?_, c + 8, w, .own 3648 (c + 8 + 8 + 8) 0 (i + 1), [(3648, ⟨1, 25, c + 8 + 8 + 8, 0, false, rowsA ((W.take (i + 1)).map norm)⟩)], rfl, ?hp3⟩; (case hs3 | hh3 => ((repeat' (first | exact trivial | refine And.intro ?_ ?_)) <;> (refine Ev.slot_eq rfl ?_; first | with_reducible rfl | (refine Ev.int_eq ?_; first | omega | (simp only [Ev.wrap64, Ev.wrap8, Ev.wrap32, Int.toNat_natCast] at *; omega)) | ((first | refine Ev.int_eq ?_ | refine Ev.own_eq ?_ | refine Ev.blk_eq ?_ | skip); first | with_reducible rfl | omega | (first | exact wrap_succ (by omega) | exact congrArg (fun n => Blk.mk 1 3 _ 0 false n) hr1 | exact congrArg (fun n => Blk.mk 1 25 _ 0 false n) hr2 | rfl) | rfl) | (first | exact wrap_succ (by omega) | exact congrArg (fun n => Blk.mk 1 3 _ 0 false n) hr1 | exact congrArg (fun n => Blk.mk 1 25 _ 0 false n) hr2 | rfl) | rfl))); (case hc3 => exact Nat.le_refl _); (case hm3 => omega))
      exact ⟨.inr ⟨by omega, _, rfl, rfl⟩, by omega⟩
  · have hi2 : ¬ (i : Int) < ((rowsA W).length : Int) := by omega
    rcases hsg with ⟨rfl, rfl, rfl⟩ | ⟨h0, u, rfl, rfl⟩
    · exfalso
      apply hne
      rw [List.eq_nil_of_length_eq_zero (show W.length = 0 by omega)]; rfl
    · have hiW : i = W.length := by omega
      subst hiW
      repeat' (first | (((with_reducible refine Ev.br_pos ?_ ?_); focus (decide)); conv => whnf) | (((with_reducible refine Ev.br_neg ?_ ?_); focus (decide)); conv => whnf) | (((with_reducible refine Ev.c_pos ?_ ?_); focus (decide))) | (((with_reducible refine Ev.c_neg ?_ ?_); focus (decide))) | (with_reducible refine Ev.c_neg hi2 ?_) | ((with_reducible first | refine Ev.sided ?_ ?_ | refine Ev.w_put ?_ | refine Ev.w_step ?_ | refine Ev.w_opt ?_); (conv => whnf)) | ((with_reducible refine Ev.chk_k ?_ ?_); rotate_left; (focus first | rfl | (simp only [Ev.nbeq, Bool.and_true, Bool.true_and, Bool.not_false]; done) | ((repeat' (first | exact Ev.nbeq _ | rfl | refine Bool.and_eq_true_iff.2 ⟨?_, ?_⟩)); done)); conv => whnf) | (with_reducible first | refine Ev.c_dec (fun _ => ?_) (fun _ => ?_) | refine Ev.c_not ?_ | refine Ev.c_t ?_ | refine Ev.c_f ?_ | refine Ev.c_br (fun _ => ?_) (fun _ => ?_)) | ((with_reducible refine Ev.br_not ?_); conv => whnf) | (with_reducible first | refine Ev.br_dec (fun _ => ?_) (fun _ => ?_) | refine Ev.br (fun _ => ?_) (fun _ => ?_) | refine Ev.eo_ret ?_ | refine Ev.eo_norm ?_ | refine Ev.t_norm ?_ | refine Ev.k_seq ?_) | ((with_reducible refine Ev.k_reg (hs := []) (tabOK' _ _) (fun Q hQ => ?_)); (simp only [Ev.runE_cons, Ev.runE_nil]); conv => whnf) | (with_reducible refine hQ _ ?_; clear hQ Q) | (with_reducible first | refine Ev.k_cond rfl ?_ | refine Ev.k_skip ?_ | refine Ev.k_block ?_ | refine Ev.k_exit ?_ | refine Ev.k_ret ?_ | refine Ev.t_ret ?_ | refine Ev.t_exit ?_ | refine Ev.b_norm ?_ | refine Ev.b_ret ?_ | refine Ev.b_here ?_ | refine Ev.b_off rfl ?_) | ((with_reducible first | refine Ev.e_ret (fun F hF => ?_) | refine Ev.e_norm (fun F hF => ?_) | refine Ev.eh_ret (fun F hF => ?_) | refine Ev.eh_norm (fun F hF => ?_) | refine Ev.go_k (fun c' => ?_) | refine Ev.byt_cut ?_ | refine Ev.byt_all ?_ | refine Ev.run_cut ?_ | refine Ev.run_all ?_); conv => whnf) | (with_reducible refine hF _ ?_; clear hF F) | (with_reducible refine Ev.u_step ?_) | ((refine Ev.k_draw (id := 7) (hs := []) (tabOK' _ _) (mixed' _ _) [0, 1, 2, 3, 4, 5, 6, 7, 8, 9, 10] (by decide) rfl rfl (fun Q hQ => ?_)); (simp only [Ev.runE_cons, Ev.runE_nil]); conv => whnf) | ((refine Ev.el_map0 ?_ (fun hi => ?_)); rotate_left; conv => whnf) | ((refine Ev.el_mapN ?_ (fun hi => ?_)); rotate_left; conv => whnf) | (refine Ev.Side.of ?_; exact Nat.le_of_ble_eq_true rfl) | (refine Ev.Side.of ?_; omega) | (refine Ev.Side.of ?_; simp only [Ev.wrap64]; omega) | (refine Ev.app_one ?_ rfl ?_ (by decide) <;> (first | omega | (simp; done) | (simp; omega))) | (refine Ev.app_nil1 rfl (by decide)) | (refine Ev.app_ys ?_ ?_ ?_ (by decide) <;> (first | omega | exact sps_all _ | exact bts_all _ | exact ints_all _ | exact spss_all _ | (simp; done) | (simp; omega))) | (refine Ev.app_nil ?_ ?_ (by decide) <;> (first | omega | exact sps_all _ | exact bts_all _ | exact ints_all _ | exact spss_all _ | (simp; done) | (simp; omega))) | (refine Ev.Side.of ?_; first | omega | (simp; done) | (simp; omega)))
      refine Ev.finL [(560, v), (3648, u)] (by simp) (fun F hF => ?_)
      conv => whnf
      repeat' (first | (((with_reducible refine Ev.br_pos ?_ ?_); focus (decide)); conv => whnf) | (((with_reducible refine Ev.br_neg ?_ ?_); focus (decide)); conv => whnf) | (((with_reducible refine Ev.c_pos ?_ ?_); focus (decide))) | (((with_reducible refine Ev.c_neg ?_ ?_); focus (decide))) | ((with_reducible first | refine Ev.sided ?_ ?_ | refine Ev.w_put ?_ | refine Ev.w_step ?_ | refine Ev.w_opt ?_); (conv => whnf)) | ((with_reducible refine Ev.chk_k ?_ ?_); rotate_left; (focus first | rfl | (simp only [Ev.nbeq, Bool.and_true, Bool.true_and, Bool.not_false]; done) | ((repeat' (first | exact Ev.nbeq _ | rfl | refine Bool.and_eq_true_iff.2 ⟨?_, ?_⟩)); done)); conv => whnf) | (with_reducible first | refine Ev.c_dec (fun _ => ?_) (fun _ => ?_) | refine Ev.c_not ?_ | refine Ev.c_t ?_ | refine Ev.c_f ?_ | refine Ev.c_br (fun _ => ?_) (fun _ => ?_)) | ((with_reducible refine Ev.br_not ?_); conv => whnf) | (with_reducible first | refine Ev.br_dec (fun _ => ?_) (fun _ => ?_) | refine Ev.br (fun _ => ?_) (fun _ => ?_) | refine Ev.eo_ret ?_ | refine Ev.eo_norm ?_ | refine Ev.t_norm ?_ | refine Ev.k_seq ?_) | ((with_reducible refine Ev.k_reg (hs := []) (tabOK' _ _) (fun Q hQ => ?_)); (simp only [Ev.runE_cons, Ev.runE_nil]); conv => whnf) | (with_reducible refine hQ _ ?_; clear hQ Q) | (with_reducible first | refine Ev.k_cond rfl ?_ | refine Ev.k_skip ?_ | refine Ev.k_block ?_ | refine Ev.k_exit ?_ | refine Ev.k_ret ?_ | refine Ev.t_ret ?_ | refine Ev.t_exit ?_ | refine Ev.b_norm ?_ | refine Ev.b_ret ?_ | refine Ev.b_here ?_ | refine Ev.b_off rfl ?_) | ((with_reducible first | refine Ev.e_ret (fun F hF => ?_) | refine Ev.e_norm (fun F hF => ?_) | refine Ev.eh_ret (fun F hF => ?_) | refine Ev.eh_norm (fun F hF => ?_) | refine Ev.go_k (fun c' => ?_) | refine Ev.byt_cut ?_ | refine Ev.byt_all ?_ | refine Ev.run_cut ?_ | refine Ev.run_all ?_); conv => whnf) | (with_reducible refine hF _ ?_; clear hF F) | (with_reducible refine Ev.u_step ?_) | ((refine Ev.k_draw (id := 7) (hs := []) (tabOK' _ _) (mixed' _ _) [0, 1, 2, 3, 4, 5, 6, 7, 8, 9, 10] (by decide) rfl rfl (fun Q hQ => ?_)); (simp only [Ev.runE_cons, Ev.runE_nil]); conv => whnf) | ((refine Ev.el_map0 ?_ (fun hi => ?_)); rotate_left; conv => whnf) | ((refine Ev.el_mapN ?_ (fun hi => ?_)); rotate_left; conv => whnf) | (refine Ev.Side.of ?_; exact Nat.le_of_ble_eq_true rfl) | (refine Ev.Side.of ?_; omega) | (refine Ev.Side.of ?_; simp only [Ev.wrap64]; omega) | (refine Ev.app_one ?_ rfl ?_ (by decide) <;> (first | omega | (simp; done) | (simp; omega))) | (refine Ev.app_nil1 rfl (by decide)) | (refine Ev.app_ys ?_ ?_ ?_ (by decide) <;> (first | omega | exact sps_all _ | exact bts_all _ | exact ints_all _ | exact spss_all _ | (simp; done) | (simp; omega))) | (refine Ev.app_nil ?_ ?_ (by decide) <;> (first | omega | exact sps_all _ | exact bts_all _ | exact ints_all _ | exact spss_all _ | (simp; done) | (simp; omega))) | (refine Ev.Side.of ?_; first | omega | (simp; done) | (simp; omega)))
      have ex : List.take 3 (List.drop 0 (withCells [AV.v (.string ⟨#[]⟩), nilA, nilA] 0 (List.take 3 (List.drop 0 [AV.v (.string b), AV.own 560 v 0 (W.length + 1), AV.own 3648 u 0 W.length])))) = [AV.v (.string b), AV.own 560 v 0 (W.length + 1), AV.own 3648 u 0 W.length] := rfl
      rw [ex]
      simp only [handed, rens, ren, get_cons, get_nil, idx, Nat.reduceEqDiff, if_false, if_true, and_self, Option.map_some, resOf, Nat.zero_add, Nat.reduceAdd, Bool.false_eq_true, false_and]
      refine hF _ ?_
      rw [List.take_length, List.length_map]; exact ⟨rfl, rfl⟩
end Go.Proofs.YthdjbgbfboppcaaDoor.Abs

namespace Go.Proofs.YthdjbgbfboppcaaDoor.Abs
open Go
set_option maxRecDepth 100000
set_option linter.unusedSimpArgs false
set_option linter.unusedVariables false
attribute [local irreducible] Ev.Unr Ev.Go' Ev.bytK Ev.runK Ev.FinL Ev.brC Ev.Side Ev.Wp Ev.Again Ev.To Ev.Fin
open Go.Lib Go.RowKit
theorem lgS_cut {c : Lg} (h : LgS c) (k : Nat) {t : ByteArray} (ht : t.size ≤ 1000000000) : LgS ⟨c.base, c.revs.take (k + 1), c.segs.take k⟩ ∧ LgS ⟨t, c.revs.drop k, c.segs.drop k⟩ := by
  obtain ⟨h1, h2, h3, h4⟩ := h
  refine ⟨⟨h1, by simp only [List.length_take]; omega, by simp only [List.length_take]; omega, fun x hx => h4 x (List.mem_of_mem_take hx)⟩, ⟨ht, by simp only [List.length_drop]; omega, by simp only [List.length_drop]; omega, fun x hx => h4 x (List.mem_of_mem_drop hx)⟩⟩
end Go.Proofs.YthdjbgbfboppcaaDoor.Abs

namespace Go.Proofs.YthdjbgbfboppcaaDoor.Abs
open Go Go.Lib Go.RowKit
set_option linter.unusedVariables false
theorem Inv.over_call {E : Env} {M0 : Bas} {w0 : World} {c : Nat} {M : Mem} {J : Locs} {s : St} {tm : Array Value} {w w' : World} (inv : Inv E M0 w0 c M J s tm w) (hb : Below w.heap.size w w') : Inv E M0 w0 c M J s tm w' := by
  refine ⟨inv.below.trans (hb.mono inv.below.size), fun b o u h => ?_, inv.newM, inv.oldM, inv.glob, inv.slot, ?_, inv.apart, inv.owns, inv.vers, inv.oldJ⟩
  · obtain ⟨h1, h2⟩ := inv.mem b o u h
    refine ⟨?_, h2⟩
    have hlt : b < w.heap.size := by
      rcases Nat.lt_or_ge b w.heap.size with h' | h'
      · exact h'
      · have : w.heap[b]? = none := Array.getElem?_eq_none h'
        simp [World.cell?, this] at h1
    rw [World.cell?_of_block (a := ⟨b, o, none⟩) (hb.block b hlt)]; exact h1
  · intro r k hk
    obtain ⟨L, C, hL, h1, ok⟩ := inv.heap r k hk
    exact ⟨L, C, hL, h1, ok.world fun hn => hb.block _ (lt_of_blk ok hn)⟩
theorem hcall_scalar {E : Env} {N : Nat} {f : FuncId} {args ys : List AV} {hp : List (Nat × Blk)} {X : Value} (hc : CallW E f ys fun r hs => r = .v X ∧ hs = [])
    (hpu : ∀ K : List AV → List (Nat × Blk) → Prop, (∀ l hp', l = ys → K l hp') → Ev.pursK [] hp args K) : HCallW E N f args hp fun r hp1 => r = .v X ∧ hp1 = hp := by
  intro M0 w0 c M J w vs inv hn hr
  have hps := Ev.pursK_sound (ct := 0) args (hpu (fun l _ => l = ys) (fun l hp' e => e)) (K' := fun l _ => l = ys) (fun _ _ h => h)
  obtain ⟨l', s', M', hl', hsub, i1, hlen, hrel⟩ := Inv.pures args (vs := vs.toList) inv (by simpa using hn) (fun i x v hx hv => hr i x v hx (by rw [← Array.getElem?_toList]; exact hv)) hps
  subst hl'
  obtain ⟨a, b⟩ := hc M' w vs i1.mem i1.glob (by omega) (fun i x v hx hv => hrel i x v hx (by rw [Array.getElem?_toList]; exact hv))
  refine ⟨a, b.mono ?_⟩
  rintro e w' ⟨v, r, hs, M2, J2, rfl, ⟨rfl, rfl⟩, cal, hv⟩
  have := hv.v_inv
  subst this
  exact ⟨_, _, hp, c, M, J, rfl, ⟨rfl, rfl⟩, inv.over_call cal.below, .pure (.v _), Sub.refl M, SubJ.refl J⟩
end Go.Proofs.YthdjbgbfboppcaaDoor.Abs

namespace Go.Proofs.YthdjbgbfboppcaaDoor.Abs
open Go Go.RowKit
set_option linter.unusedSimpArgs false
set_option linter.unusedVariables false
namespace Ev
def transOK (dd deps : List (List Nat)) : Bool := dd.length == deps.length && (List.range dd.length).all fun i => match dd[i]?, deps[i]? with
  | some a, some b => a.all (fun x => b.contains x) && b.all (fun x => a.contains x || a.any fun m => match deps[m]? with | some c => c.contains x | none => false)
  | _, _ => false
theorem transOK_len {dd deps : List (List Nat)} (h : transOK dd deps = true) : deps.length = dd.length := by
  unfold transOK at h; rw [Bool.and_eq_true] at h; exact (by simpa using h.1 : dd.length = deps.length).symm
def Closed (deps : List (List Nat)) (L : List Nat) : Prop := ∀ m c x, L.contains m = true → deps[m]? = some c → c.contains x = true → L.contains x = true
theorem Closed.nil (deps : List (List Nat)) : Closed deps [] := fun m c x h => by simp at h
theorem Closed.cons {deps : List (List Nat)} {L : List Nat} (h : Closed deps L) {i : Nat} (hr : rdy deps L i = true) : Closed deps (i :: L) := by
  intro m c x hm hc hx
  rw [List.contains_cons, Bool.or_eq_true] at hm ⊢
  rcases hm with hm | hm
  · have : m = i := by simpa using hm
    subst this
    unfold rdy at hr
    rw [hc, Bool.and_eq_true] at hr
    exact .inr (List.all_eq_true.1 hr.2 x (by simpa using hx))
  · exact .inr (h m c x hm hc hx)
theorem rdy_trans {dd deps : List (List Nat)} (ht : transOK dd deps = true) {L : List Nat} (hc : Closed deps L) (i : Nat) : rdy dd L i = rdy deps L i := by
  have hlen := transOK_len ht
  unfold transOK at ht
  rw [Bool.and_eq_true] at ht
  unfold rdy
  congr 1
  cases h1 : dd[i]? with
  | none =>
    have : deps[i]? = none := List.getElem?_eq_none (by have := List.getElem?_eq_none_iff.1 h1; omega)
    rw [this]
  | some a =>
    have hi := (List.getElem?_eq_some_iff.1 h1).1
    have h2 := List.all_eq_true.1 ht.2 i (by rw [List.mem_range]; exact hi)
    rw [h1] at h2
    cases h3 : deps[i]? with
    | none => rw [h3] at h2; cases h2
    | some b =>
      rw [h3] at h2
      simp only [Bool.and_eq_true, List.all_eq_true] at h2
      simp only
      rw [Bool.eq_iff_iff, List.all_eq_true, List.all_eq_true]
      constructor
      · intro h x hx
        have := h2.2 x hx
        rw [Bool.or_eq_true] at this
        rcases this with h4 | h4
        · exact h x (by simpa using h4)
        · rw [List.any_eq_true] at h4
          obtain ⟨m, hm, h5⟩ := h4
          split at h5
          · rename_i c hcm; exact hc m c x (h m hm) hcm h5
          · cases h5
      · intro h x hx
        exact h x (by simpa using h2.1 x hx)
def stillW : Op → Bool
  | .slice _ _ _ _ _ => true
  | .build _ _ => true
  | .call cl => minC cl || lenC cl
  | op => stillO op
def loadsW : Op → Bool
  | .slice _ _ _ _ _ => true
  | op => loadsO op
section
variable {E : Env} {T : Tab} {hs : List FuncId} {sl sl' : List (Nat × AV)} {hp hp' : List (Nat × Blk)} {ct nm base : Nat}
theorem sliceE_ext {t : TypeId} {a : AV} {lo hi mx : Option Int} {K : AV → Prop} (h : sliceE T t hp a lo hi mx K) : ∃ x, K x ∧ ∀ (hp' : List (Nat × Blk)) (K' : AV → Prop), Ext hp hp' → K' x → sliceE T t hp' a lo hi mx K' := by
  cases a with
  | lst s xs => obtain ⟨x, h1, h2⟩ := sliceE_pure (.inl ⟨_, _, rfl⟩) h; exact ⟨x, h1, fun hp' K' _ h' => h2 hp' K' h'⟩
  | v v => obtain ⟨x, h1, h2⟩ := sliceE_pure (.inr ⟨_, rfl⟩) h; exact ⟨x, h1, fun hp' K' _ h' => h2 hp' K' h'⟩
  | own r ver off len =>
    simp only [sliceE] at h
    split at h
    · rename_i sz' q k h1 h2
      obtain ⟨hb, h3⟩ := brK_tt h
      obtain ⟨p, q', h4, h5⟩ := cutE_still h3
      refine ⟨_, h4, fun hp' K' he h' => ?_⟩
      obtain ⟨k2, g, e1, e2, e3, e4, e5⟩ := he r k h2
      simp only [sliceE, h1, g]
      exact chk_k (h5 _ h') (by rw [e2, e3]; exact hb)
    · exact h.elim
  | _ => simp only [sliceE] at h
theorem step_stillW {op : Op} {R : AV → List (Nat × Blk) → Nat → Prop} (hs' : stillW op = true) (h : stepE E T hs nm op sl hp ct R) :
    ∃ x, R x hp ct ∧ ∀ (sl' : List (Nat × AV)) (hp' : List (Nat × Blk)) (ct' : Nat) (R' : AV → List (Nat × Blk) → Nat → Prop), (∀ t ∈ uses op, get sl' t = get sl t) → (loadsW op = true → Ext hp hp') → R' x hp' ct' → stepE E T hs nm op sl' hp' ct' R' := by
  have old : stillO op = true → (loadsO op = true → loadsW op = true) → ∃ x, R x hp ct ∧ ∀ (sl' : List (Nat × AV)) (hp' : List (Nat × Blk)) (ct' : Nat) (R' : AV → List (Nat × Blk) → Nat → Prop), (∀ t ∈ uses op, get sl' t = get sl t) → (loadsW op = true → Ext hp hp') → R' x hp' ct' → stepE E T hs nm op sl' hp' ct' R' := fun ho hl => by
    obtain ⟨x, h1, h2⟩ := step_still ho h
    exact ⟨x, h1, fun sl' hp' ct' R' hu he h' => h2 sl' hp' ct' R' hu (fun h3 => he (hl h3)) h'⟩
  have new : stillV op = true → pureB E sl op = true → ∃ x, R x hp ct ∧ ∀ (sl' : List (Nat × AV)) (hp' : List (Nat × Blk)) (ct' : Nat) (R' : AV → List (Nat × Blk) → Nat → Prop), (∀ t ∈ uses op, get sl' t = get sl t) → (loadsW op = true → Ext hp hp') → R' x hp' ct' → stepE E T hs nm op sl' hp' ct' R' := fun hv hp0 => by
    obtain ⟨x, h1, h2⟩ := step_pure hv hp0 h
    exact ⟨x, h1, fun sl' hp' ct' R' hu _ h' => h2 sl' hp' ct' R' hu h'⟩
  cases op
  case slice t x lo hi mx =>
    simp only [stepE] at h
    split at h
    · rename_i a l h0 m h1 h2 h3 h4
      obtain ⟨z, h5, h6⟩ := sliceE_ext h
      refine ⟨z, h5, fun sl' hp' ct' R' hu he h' => ?_⟩
      rw [← stepE_congr (sl := sl) (sl' := sl') (fun t ht => (hu t ht).symm)]
      simp only [stepE, h1, h2, h3, h4]
      exact h6 hp' _ (he rfl) h'
    · exact h.elim
  case build t parts => exact new rfl rfl
  case call cl =>
    simp only [stillW, Bool.or_eq_true] at hs'
    rcases hs' with hs' | hs'
    · exact new (by simp only [stillV, hs', Bool.true_or]) (by simp only [pureB, hs'])
    · exact old hs' (fun h => h)
  all_goals exact old hs' (fun h => h)
theorem ins_stillW {a : Ins} {d : Nat} {R : List (Nat × AV) → List (Nat × Blk) → Nat → Prop} (hd : a.dst = some d) (hs' : stillW a.op = true) (h : insE E T hs base a sl hp ct R) :
    ∃ x sl1, SlEq sl1 ((d, x) :: sl) ∧ R sl1 hp ct ∧ ∀ (sl' : List (Nat × AV)) (hp' : List (Nat × Blk)), (∀ t ∈ usesI a, get sl' t = get sl t) → (loadsW a.op = true → Ext hp hp') → Stays E T hs base a d x sl' hp' := by
  obtain ⟨i, d0, op, g⟩ := a
  simp only at hd hs'; subst hd
  cases g with
  | none =>
    simp only [insE] at h
    obtain ⟨x, h1, h2⟩ := step_stillW hs' h
    refine ⟨x, _, SlEq.refl _, h1, fun sl' hp' hu he ct' R' h' => ?_⟩
    simp only [insE]
    exact h2 sl' hp' ct' _ (fun t ht => hu t (by simp only [usesI]; exact List.mem_append_right _ ht)) he (h' _ (SlEq.refl _))
  | some g =>
    obtain ⟨t, want⟩ := g
    have gu : ∀ {sl' : List (Nat × AV)}, (∀ t' ∈ usesI ⟨i, some d, op, some (t, want)⟩, get sl' t' = get sl t') → get sl' t = get sl t := fun hu => hu t (by simp [usesI, gOf])
    have un : ∀ {sl' : List (Nat × AV)} {b : AV}, (∀ t' ∈ usesI ⟨i, some d, op, some (t, want)⟩, get sl' t' = get sl t') → ∀ t' ∈ uses op, get ((t, b) :: sl') t' = get ((t, b) :: sl) t' := fun hu t' ht' => by
      rw [get_cons, get_cons]; split; rfl; exact hu t' (by simp only [usesI]; exact List.mem_append_right _ ht')
    simp only [insE] at h
    split at h
    · rename_i b hb
      have skip : ∀ c, b = c → (R ((d, .v (.tuple #[])) :: (t, .v (.bool c)) :: sl) hp ct) → (want = !c) → ∃ x sl1, SlEq sl1 ((d, x) :: sl) ∧ R sl1 hp ct ∧ ∀ (sl' : List (Nat × AV)) (hp' : List (Nat × Blk)), (∀ t' ∈ usesI ⟨i, some d, op, some (t, want)⟩, get sl' t' = get sl t') → (loadsW op = true → Ext hp hp') → Stays E T hs base ⟨i, some d, op, some (t, want)⟩ d x sl' hp' := by
        rintro c rfl h hw
        refine ⟨_, _, (SlEq.over hb).cons _ _, h, fun sl' hp' hu he ct' R' h' => ?_⟩
        have hb' : get sl' t = some (.v (.bool b)) := by rw [gu hu]; exact hb
        have := h' _ ((SlEq.over hb').cons _ _)
        simp only [insE, hb']
        cases b <;> subst hw <;> exact this
      have go : ∀ c, b = c → (stepE E T hs (base + i * 8) op ((t, .v (.bool c)) :: sl) hp ct fun x hp' ct' => R ((d, x) :: (t, .v (.bool c)) :: sl) hp' ct') → (want = c) → ∃ x sl1, SlEq sl1 ((d, x) :: sl) ∧ R sl1 hp ct ∧ ∀ (sl' : List (Nat × AV)) (hp' : List (Nat × Blk)), (∀ t' ∈ usesI ⟨i, some d, op, some (t, want)⟩, get sl' t' = get sl t') → (loadsW op = true → Ext hp hp') → Stays E T hs base ⟨i, some d, op, some (t, want)⟩ d x sl' hp' := by
        rintro c rfl h hw
        obtain ⟨x, h1, h2⟩ := step_stillW hs' h
        refine ⟨x, _, (SlEq.over hb).cons _ _, h1, fun sl' hp' hu he ct' R' h' => ?_⟩
        have hb' : get sl' t = some (.v (.bool b)) := by rw [gu hu]; exact hb
        have := h2 ((t, .v (.bool b)) :: sl') hp' ct' (fun x hp' ct' => R' ((d, x) :: (t, .v (.bool b)) :: sl') hp' ct') (un hu) he (h' _ ((SlEq.over hb').cons _ _))
        simp only [insE, hb']
        cases b <;> subst hw <;> exact this
      split at h
      · cases b
        · exact skip false rfl h rfl
        · exact go true rfl h rfl
      · cases b
        · exact go false rfl h rfl
        · exact skip true rfl h rfl
    · rename_i vs hb
      refine ⟨_, _, SlEq.refl _, h, fun sl' hp' hu he ct' R' h' => ?_⟩
      have hb' : get sl' t = some (.v (.tuple vs)) := by rw [gu hu]; exact hb
      simp only [insE, hb']
      exact h' _ (SlEq.refl _)
    · exact h.elim
end
def freeW (pu : Bool) (hs : List FuncId) (l : List Ins) (deps : List (List Nat)) (L : List Nat) (i : Nat) (a : Ins) : Bool :=
  (List.range l.length).all fun j => j == i || L.contains j || (match l[j]? with
    | some b => (match deps[j]? with | some ds => ds.contains i | none => false) || (indep a b && (!(loadsW a.op && !pu) || !mutO hs b.op))
    | none => true)
inductive Tr where
  | fin
  | stop
  | one (i : Nat) (pu : Bool) (k : Tr)
  | any (r : Tr)
  | alt (i : Nat) (k : Tr) (r : Tr)
def Tr.depth : Tr → Nat
  | .fin => 0
  | .stop => 0
  | .one _ _ k => k.depth + 1
  | .any r => r.depth
  | .alt _ k _ => k.depth + 1
def Tr.opts : Tr → List Nat
  | .alt i _ r => i :: r.opts
  | _ => []
def Tr.isAlt : Tr → Bool
  | .alt _ _ _ => true
  | _ => false
def Tr.isEnd : Tr → Bool
  | .alt _ _ _ | .stop => true
  | _ => false
def Tr.same (n : Nat) : Tr → Bool
  | .alt _ k r => k.depth + 1 == n && r.same n
  | _ => true
def planU (hs : List FuncId) (l : List Ins) (deps : List (List Nat)) : Tr → List Nat → Bool
  | .fin, L => (List.range deps.length).all fun j => L.contains j
  | .stop, L => true
  | .one i pu k, L => rdy deps L i && (onlyB deps L i || (match l[i]? with | some a => (match pu with | true => stillV a.op | false => stillW a.op) && a.dst.isSome && freeW pu hs l deps L i a | none => false)) && (!k.isEnd && planU hs l deps k (i :: L))
  | .any r, L => r.isAlt && r.same r.depth && (r.opts.any fun i => rdy deps L i) && ((List.range deps.length).all fun x => r.opts.contains x || !rdy deps L x) && planU hs l deps r L
  | .alt i k r, L => r.isEnd && (!k.isEnd && planU hs l deps k (i :: L)) && planU hs l deps r L
inductive TrI where
  | fin
  | stop
  | one (a : Ins) (pu : Bool) (k : TrI)
  | any (r : TrI)
  | alt (a : Ins) (k : TrI) (r : TrI)
def pickU (l : List Ins) : Tr → Option TrI
  | .fin => some .fin
  | .stop => some .stop
  | .one i pu k => match l[i]?, pickU l k with | some a, some q => some (.one a pu q) | _, _ => none
  | .any r => match pickU l r with | some q => some (.any q) | none => none
  | .alt i k r => match l[i]?, pickU l k, pickU l r with | some a, some q, some p => some (.alt a q p) | _, _, _ => none
def runU (E : Env) (T : Tab) (hs : List FuncId) (base : Nat) : TrI → List (Nat × AV) → List (Nat × Blk) → Nat → (St → Prop) → Prop
  | .fin, sl, hp, ct, Q => onlyK sl E.keep [] fun sl' => Q ⟨sl', hp, ct⟩
  | .stop, _, _, _, _ => True
  | .one i false k, sl, hp, ct, Q => insE E T hs base i sl hp ct fun sl' hp' ct' => runU E T hs base k sl' hp' ct' Q
  | .one i true k, sl, hp, ct, Q => chkS (pureI E sl i) (insE E T hs base i sl hp ct fun sl' hp' ct' => runU E T hs base k sl' hp' ct' Q)
  | .any r, sl, hp, ct, Q => runU E T hs base r sl hp ct Q
  | .alt a k r, sl, hp, ct, Q => Both (insE E T hs base a sl hp ct fun sl' hp' ct' => runU E T hs base k sl' hp' ct' Q) (runU E T hs base r sl hp ct Q)
def ualt (E : Env) (T : Tab) (hs : List FuncId) (base : Nat) (a : Ins) (r : List (Nat × AV) → List (Nat × Blk) → Nat → (St → Prop) → Prop) (s : List (Nat × AV) → List (Nat × Blk) → Nat → (St → Prop) → Prop) : List (Nat × AV) → List (Nat × Blk) → Nat → (St → Prop) → Prop :=
  fun sl hp ct Q => Both (insE E T hs base a sl hp ct fun sl' hp' ct' => r sl' hp' ct' Q) (s sl hp ct Q)
def ustop : List (Nat × AV) → List (Nat × Blk) → Nat → (St → Prop) → Prop := fun _ _ _ _ => True
theorem runU_fin {E : Env} {T : Tab} {hs : List FuncId} {base : Nat} : runU E T hs base .fin = rnil E := by funext sl hp ct Q; simp only [runU]; rfl
theorem runU_stop {E : Env} {T : Tab} {hs : List FuncId} {base : Nat} : runU E T hs base .stop = ustop := by funext sl hp ct Q; simp only [runU]; rfl
theorem runU_oneF {E : Env} {T : Tab} {hs : List FuncId} {base : Nat} {a : Ins} {k : TrI} : runU E T hs base (.one a false k) = rcons E T hs base a (runU E T hs base k) := by funext sl hp ct Q; simp only [runU]; rfl
theorem runU_oneT {E : Env} {T : Tab} {hs : List FuncId} {base : Nat} {a : Ins} {k : TrI} : runU E T hs base (.one a true k) = vcons E T hs base a (runU E T hs base k) := by funext sl hp ct Q; simp only [runU]; rfl
theorem runU_any {E : Env} {T : Tab} {hs : List FuncId} {base : Nat} {r : TrI} : runU E T hs base (.any r) = runU E T hs base r := by funext sl hp ct Q; simp only [runU]
theorem runU_alt {E : Env} {T : Tab} {hs : List FuncId} {base : Nat} {a : Ins} {k r : TrI} : runU E T hs base (.alt a k r) = ualt E T hs base a (runU E T hs base k) (runU E T hs base r) := by funext sl hp ct Q; simp only [runU]; rfl
section
variable {E : Env} {T : Tab} {hs : List FuncId} {base nt : Nat} {l : List Ins} {deps : List (List Nat)} {Q : St → Prop}
theorem planUS : ∀ (p : Tr) {L : List Nat} {q : TrI} {sl : List (Nat × AV)} {hp : List (Nat × Blk)} {ct : Nat}, planU hs l deps p L = true → pickU l p = some q → runU E T hs base q sl hp ct Q →
    (p.isEnd = false → AnyS E T hs base l deps p.depth L sl hp ct Q) ∧ (∀ n, p.same (n + 1) = true → ∀ x c, p.opts.contains x = true → l[x]? = some c → insE E T hs base c sl hp ct fun sl' hp' ct' => AnyS E T hs base l deps n (x :: L) sl' hp' ct' Q)
  | .fin, L, q, sl, hp, ct, hp', hl, h => by
    simp only [pickU, Option.some.injEq] at hl; subst hl
    simp only [runU, onlyK_eq] at h
    simp only [planU, List.all_eq_true, List.mem_range] at hp'
    exact ⟨fun _ => ⟨hp', h⟩, fun n _ x c hx => by simp [Tr.opts] at hx⟩
  | .stop, L, q, sl, hp, ct, hp', hl, h => ⟨fun e => by simp [Tr.isEnd] at e, fun n _ x c hx => by simp [Tr.opts] at hx⟩
  | .any r, L, q, sl, hp, ct, hpl, hl, h => by
    refine ⟨fun _ => ?_, fun n _ x c hx => by simp [Tr.opts] at hx⟩
    simp only [pickU] at hl
    split at hl
    · rename_i q' hq
      obtain rfl := Option.some.inj hl
      simp only [runU] at h
      simp only [planU, Bool.and_eq_true] at hpl
      obtain ⟨⟨⟨⟨ha, hsm⟩, hex⟩, hall⟩, hr⟩ := hpl
      obtain ⟨m, hm⟩ : ∃ m, r.depth = m + 1 := by
        cases r <;> simp [Tr.isAlt] at ha
        exact ⟨_, rfl⟩
      rw [show (Tr.any r).depth = r.depth from rfl]
      rw [hm] at hsm ⊢
      obtain ⟨i, hi, hri⟩ := List.any_eq_true.1 hex
      refine ⟨⟨i, hri⟩, fun x c hx hc => ?_⟩
      have := List.all_eq_true.1 hall x (by rw [List.mem_range]; exact rdy_lt hx)
      rw [hx] at this
      simp only [Bool.not_true, Bool.or_false] at this
      exact (planUS r hr hq h).2 m hsm x c this hc
    · cases hl
  | .alt i k r, L, q, sl, hp, ct, hpl, hl, h => by
    refine ⟨fun e => by simp [Tr.isEnd] at e, fun n hn x c hx hc => ?_⟩
    simp only [pickU] at hl
    split at hl
    · rename_i a q1 q2 ha hq1 hq2
      obtain rfl := Option.some.inj hl
      simp only [runU] at h
      simp only [planU, Bool.and_eq_true] at hpl
      obtain ⟨⟨hend, hke, hk⟩, hr⟩ := hpl
      simp only [Tr.same, Bool.and_eq_true, beq_iff_eq] at hn
      obtain ⟨hn1, hn2⟩ := hn
      have hn1 : k.depth = n := by omega
      simp only [Tr.opts, List.contains_cons, Bool.or_eq_true, beq_iff_eq] at hx
      by_cases e : x = i
      · subst e
        rw [ha] at hc; obtain rfl := Option.some.inj hc
        have hke : k.isEnd = false := by simpa using hke
        refine insE_move h.l (fun _ _ => rfl) (fun u hp' ct' _ _ h' => ?_)
        rw [← hn1]; exact (planUS k hk hq1 h').1 hke
      · exact (planUS r hr hq2 h.r).2 n hn2 x c (hx.resolve_left e) hc
    · cases hl
  | .one i pu rest, L, q, sl, hp, ct, hpl, hl, h => by
    refine ⟨fun _ => ?_, fun n _ x c hx => by simp [Tr.opts] at hx⟩
    simp only [pickU] at hl
    split at hl
    · rename_i a q' ha hq
      obtain rfl := Option.some.inj hl
      have hpu : pu = true → pureI E sl a = true := by
        rintro rfl
        simp only [runU] at h
        exact (chkS_tt h).1
      have hI : insE E T hs base a sl hp ct fun sl' hp' ct' => runU E T hs base q' sl' hp' ct' Q := by
        cases pu with
        | false => simp only [runU] at h; exact h
        | true => simp only [runU] at h; exact (chkS_tt h).2
      simp only [planU, Bool.and_eq_true, Bool.or_eq_true] at hpl
      obtain ⟨⟨hr, hc⟩, hrest⟩ := hpl
      obtain ⟨hne, hrest⟩ := hrest
      have hne : rest.isEnd = false := by simpa using hne
      have goK : ∀ {L' : List Nat} {sl : List (Nat × AV)} {hp : List (Nat × Blk)} {ct : Nat}, L' = i :: L → runU E T hs base q' sl hp ct Q → AnyS E T hs base l deps rest.depth L' sl hp ct Q := fun e h' => by subst e; exact (planUS rest hrest hq h').1 hne
      rcases hc with hc | hc
      · refine ⟨⟨i, hr⟩, fun j b hj hb => ?_⟩
        have : j = i := by
          have := List.all_eq_true.1 hc j (by rw [List.mem_range]; exact rdy_lt hj)
          rw [hj] at this; simpa using this
        subst this
        rw [ha] at hb; obtain rfl := Option.some.inj hb
        exact insE_move hI (fun _ _ => rfl) (fun u hp' ct' _ _ h' => goK rfl h')
      · rw [ha] at hc
        simp only [Bool.and_eq_true] at hc
        obtain ⟨⟨hs', hd⟩, hf⟩ := hc
        obtain ⟨d, hd⟩ := Option.isSome_iff_exists.1 hd
        have hF : freeG (loadsW a.op && !pu) hs l deps L i a := by
          refine fun j b hj hjL hb hcd => ?_
          have := List.all_eq_true.1 hf j (by rw [List.mem_range]; exact (List.getElem?_eq_some_iff.1 hb).1)
          rw [hb, hjL] at this
          simp only [Bool.or_eq_true, beq_iff_eq, hj, Bool.false_eq_true, false_or, or_false, Bool.and_eq_true, Bool.not_eq_true'] at this
          rcases this with this | this
          · split at this
            · rename_i ds hds; rw [hcd ds hds] at this; cases this
            · cases this
          · refine ⟨this.1, fun hl => ?_⟩
            rcases this.2 with h3 | h3
            · rw [hl] at h3; cases h3
            · exact h3
        cases pu with
        | false =>
          obtain ⟨x, sl1, e1, h1, hst⟩ := ins_stillW hd hs' hI
          have h2 := AnyS_congr rest.depth (fun _ => rfl) e1 (goK rfl h1)
          exact any_stillG (loadsW a.op && !false) ha hd rest.depth hF hr (fun sl' hp' hu he => hst sl' hp' hu (fun hl => he (by rw [hl]; rfl))) h2
        | true =>
          obtain ⟨x, sl1, e1, h1, hst⟩ := ins_pure hd hs' (hpu rfl) hI
          have h2 := AnyS_congr rest.depth (fun _ => rfl) e1 (goK rfl h1)
          exact any_stillG (loadsW a.op && !true) ha hd rest.depth hF hr (fun sl' hp' hu he => hst sl' hp' hu) h2
    · cases hl
section
variable {M0 : Bas} {w0 : World} {M : Mem} {J : Locs} {tm : Array Value} {w : World} {ops : Array Oper}
theorem AnyS_wpU (hT : TabOK E.P T) (hl : insL ops (numbered ops) = some l) {dd : List (List Nat)} (hdep : dd = ops.toList.map direct) (htr : transOK dd deps = true) {K : Exit → St → Prop} (hK : ∀ s, Q s → K .normal s) :
    ∀ (n : Nat) {L : List Nat} {listed : Array Bool} {sl : List (Nat × AV)} {hp : List (Nat × Blk)} {ct : Nat} {M : Mem} {J : Locs} {tm : Array Value} {w : World}, opsOK tm.size ops = true → tm.size = nt → AnyS E T hs base l deps n L sl hp ct Q → Inv E M0 w0 ct M J ⟨sl, hp, ct⟩ tm w →
      listed.size = ops.size → (∀ i, i < ops.size → listed.getD i true = L.contains i) → (∀ i, L.contains i = true → i < ops.size) → Closed deps L → wpAny E.P .any ops (Post E M0 w0 nt K) n listed ⟨tm, []⟩ w := by
  have hdl : dd.length = ops.size := by rw [hdep]; simp
  have hlen : deps.length = ops.size := by rw [← hdl]; exact transOK_len htr
  have key : ∀ {L : List Nat} {listed : Array Bool}, listed.size = ops.size → (∀ i, i < ops.size → listed.getD i true = L.contains i) → (∀ i, L.contains i = true → i < ops.size) → Closed deps L → ∀ i, i ∈ Region.ready .any ops listed ↔ (rdy deps L i = true) := by
    intro L listed hsz hL hLb hcl i
    rw [← rdy_trans htr hcl]
    rw [mem_ready]
    have gd : ∀ k d, k < ops.size → listed.getD k d = L.contains k := by
      intro k d hk
      rw [← hL k hk]
      rw [Array.getD_eq_getD_getElem?, Array.getD_eq_getD_getElem?, Array.getElem?_eq_getElem (by omega)]; rfl
    unfold rdy
    rw [hdep, List.getElem?_map, Array.getElem?_toList]
    constructor
    · rintro ⟨h0, o, ho, hall⟩
      have hlt : i < ops.size := (Array.getElem?_eq_some_iff.1 ho).1
      rw [ho]; simp only [Option.map_some, Bool.and_eq_true, Bool.not_eq_true']
      refine ⟨by rw [← gd i true hlt]; exact h0, ?_⟩
      rw [List.all_eq_true]
      intro k hk
      simp only [direct, List.mem_map, List.mem_filter, Array.mem_toList_iff] at hk
      obtain ⟨e, ⟨he, hb⟩, rfl⟩ := hk
      have := hall e he hb
      rcases Nat.lt_or_ge e.on ops.size with h' | h'
      · rw [gd _ _ h'] at this; exact this
      · rw [Array.getD_eq_getD_getElem?, Array.getElem?_eq_none (by omega)] at this; cases this
    · intro h
      rw [Bool.and_eq_true] at h
      cases ho : ops[i]? with
      | none => rw [ho] at h; simp at h
      | some o =>
        have hlt : i < ops.size := (Array.getElem?_eq_some_iff.1 ho).1
        rw [ho] at h
        simp only [Option.map_some, Bool.not_eq_true', List.all_eq_true] at h
        refine ⟨by rw [gd i true hlt]; exact h.1, o, rfl, fun e he hb => ?_⟩
        have := h.2 e.on (by simp only [direct, List.mem_map, List.mem_filter, Array.mem_toList_iff]; exact ⟨e, ⟨he, hb⟩, rfl⟩)
        rcases Nat.lt_or_ge e.on ops.size with h' | h'
        · rw [gd _ _ h']; exact this
        · have := hLb _ this; omega
  intro n
  induction n with
  | zero =>
    intro L listed sl hp ct M J tm w hok hnt h inv hsz hL hLb hcl
    refine ⟨?_, _, M, J, hK _ h.2, inv.only E.keep, hnt, rfl⟩
    apply List.eq_nil_iff_forall_not_mem.2
    intro i hi
    rw [key hsz hL hLb hcl] at hi
    have hlt := rdy_lt hi
    have := h.1 i hlt
    unfold rdy at hi; rw [this] at hi; simp at hi
  | succ n ih =>
    intro L listed sl hp ct M J tm w hok hnt h inv hsz hL hLb hcl
    obtain ⟨⟨i0, hi0⟩, h⟩ := h
    refine ⟨fun he => ?_, fun i hi => ?_⟩
    · have := (key hsz hL hLb hcl i0).2 hi0
      rw [he] at this; cases this
    · rw [key hsz hL hLb hcl] at hi
      have hlt : i < ops.size := by rw [← hlen]; exact rdy_lt hi
      have ho : ops[i]? = some ops[i] := Array.getElem?_eq_getElem hlt
      obtain ⟨a, ha, hin⟩ := insL_get hl i (i, ops[i]) (by simp [numbered, hlt])
      refine insE_wp hT ho hin hok (h i a hi ha) inv (fun a' w' M' J' sl' hp' ct' hr hinv hs' hdf => ?_)
      obtain ⟨tm', ds'⟩ := a'
      simp only at hs' hdf hinv
      subst hdf
      refine ih (by rw [hs']; exact hok) (by rw [hs', hnt]) hr hinv (by simp [hsz]) (fun k hk => ?_) (fun k hk => ?_) (hcl.cons hi)
      rotate_left
      · rw [List.contains_cons, Bool.or_eq_true] at hk
        rcases hk with hk | hk
        · have : k = i := by simpa using hk
          omega
        · exact hLb k hk
      rw [List.contains_cons]
      by_cases e : k = i
      · subst e; simp [hsz, hlt]
      · rw [getD_set_ne true (Ne.symm e), hL k hk]; simp [e]
end
theorem k_drawU {nt : Nat} (hT : TabOK E.P T) (hm : E.P.follows .mixedOrders = true) (deps' : List (List Nat)) (plan : Tr) {K : Exit → St → Prop} {sl : List (Nat × AV)} {hp : List (Nat × Blk)} {ct : Nat} {id : Nat} {pl : TrI}
    (htr : transOK deps deps' = true) (hend : plan.isEnd = false) (hplan : planU hs l deps' plan [] = true) (hlen : plan.depth = deps.length) (hpick : pickU l plan = some pl) (h : ∀ Q : St → Prop, (∀ s, K .normal s → Q s) → runU E T hs (E.N + id * 512) pl sl hp ct Q) :
    Wp E nt (.draw id l deps) K ⟨sl, hp, ct⟩ := by
  intro c' e hok M0 w0 M J tm w inv hnt
  obtain ⟨ops, rfl, hl, hdep⟩ := comp_draw e
  simp only [codeOK] at hok
  refine wp_region_any hm ?_
  have h1 := (planUS plan hplan hpick (h (K .normal) (fun _ h => h))).1 hend
  have hn : plan.depth = ops.size := by rw [hlen, hdep]; simp
  rw [hn] at h1
  exact AnyS_wpU hT hl hdep htr (fun _ h => h) ops.size (by rw [hnt]; exact hok) hnt h1 (Inv.drew inv) (by simp) (fun i hi => by simp [hi]) (fun i hi => by simp at hi) (Closed.nil _)
end
end Ev
end Go.Proofs.YthdjbgbfboppcaaDoor.Abs

namespace Go.Proofs.YthdjbgbfboppcaaDoor.Abs
open Go
set_option maxRecDepth 100000
set_option linter.unusedSimpArgs false
set_option linter.unusedVariables false
attribute [local irreducible] Ev.Unr Ev.Go' Ev.bytK Ev.runK Ev.FinL Ev.brC Ev.Side Ev.Wp Ev.Again Ev.To Ev.Fin
open Go.Lib Go.RowKit
def cc5 : CC := (.seq (.reg 0 [⟨0, some 5, (.box 39 (.tmp 2)), none⟩, ⟨1, some 6, (.assign (.const (Value.bool false))), none⟩]) (.seq (.reg 1 [⟨0, some 13, (.call { callee := .value (.func 26), args := #[], argTypes := #[] }), none⟩, ⟨1, some 7, (.assign (.tmp 13)), none⟩]) (.seq (.reg 2 [⟨0, some 14, (.move (.tmp 0)), none⟩, ⟨1, some 15, (.move (.tmp 1)), none⟩, ⟨2, some 16, (.call { callee := .value (.func 27), args := #[.tmp 14, .tmp 15], argTypes := #[9, 38] }), none⟩, ⟨3, some 8, (.alloc 42), none⟩, ⟨4, none, (.store 42 (.tmp 8) (.tmp 16)), none⟩]) (.seq (.reg 3 [⟨0, some 17, (.fieldAddr 42 (.tmp 8) 2), none⟩, ⟨1, some 18, (.load 38 (.tmp 17)), none⟩, ⟨2, some 19, (.call { callee := .builtin .len, args := #[.tmp 18], argTypes := #[38] }), none⟩, ⟨3, some 9, (.assign (.tmp 19)), none⟩]) (.seq (.seq (.reg 4 [⟨0, some 20, (.move (.tmp 9)), none⟩, ⟨1, some 21, (.binOp .eql 3 (.tmp 20) (.const (Value.int .i64 0)) 3), none⟩]) (.cond (.tmp 21) (.seq (.reg 5 [⟨0, some 22, (.move (.tmp 7)), none⟩, ⟨1, some 23, (.move (.tmp 22)), none⟩, ⟨2, some 24, (.load 42 (.tmp 8)), (some (23, true))⟩, ⟨3, some 25, (.call { callee := .value (.func 28), args := #[.tmp 24], argTypes := #[42] }), (some (23, true))⟩, ⟨4, some 26, (.binOp .eql 26 (.tmp 25) (.const (Value.int .i64 0)) 26), (some (23, true))⟩, ⟨5, some 27, (.pick (.tmp 23) (.tmp 26) (.const (Value.bool false))), none⟩, ⟨6, some 6, (.assign (.tmp 27)), none⟩]) .ret) .skip)) (.seq (.reg 6 [⟨0, some 28, (.indexAddr 39 (.tmp 5) (.const (Value.int .i64 1))), none⟩, ⟨1, some 29, (.load 5 (.tmp 28)), none⟩, ⟨2, some 30, (.convert 5 3 (.tmp 29)), none⟩, ⟨3, some 31, (.move (.tmp 9)), none⟩, ⟨4, some 32, (.binOp .rem 3 (.tmp 30) (.tmp 31) 3), none⟩, ⟨5, some 10, (.assign (.tmp 32)), none⟩]) (.seq (.draw 7 [⟨0, some 33, (.fieldAddr 42 (.tmp 8) 0), none⟩, ⟨1, some 34, (.load 9 (.tmp 33)), none⟩, ⟨2, some 35, (.fieldAddr 42 (.tmp 8) 1), none⟩, ⟨3, some 36, (.load 40 (.tmp 35)), none⟩, ⟨4, some 37, (.move (.tmp 10)), none⟩, ⟨5, some 38, (.binOp .add 3 (.tmp 37) (.const (Value.int .i64 1)) 3), none⟩, ⟨6, some 39, (.slice 40 (.tmp 36) none (some (.tmp 38)) none), none⟩, ⟨7, some 40, (.fieldAddr 42 (.tmp 8) 2), none⟩, ⟨8, some 41, (.load 38 (.tmp 40)), none⟩, ⟨9, some 42, (.move (.tmp 10)), none⟩, ⟨10, some 43, (.slice 38 (.tmp 41) none (some (.tmp 42)) none), none⟩, ⟨11, some 44, (.build 42 #[(0, .tmp 34), (1, .tmp 39), (2, .tmp 43)]), none⟩, ⟨12, some 11, (.alloc 42), none⟩, ⟨13, none, (.store 42 (.tmp 11) (.tmp 44)), none⟩] [[], [0], [], [2], [], [4], [3, 5], [], [7], [], [8, 9], [1, 6, 10], [], [12, 11, 0, 1, 2, 3, 4, 5, 6, 7, 8, 9, 10, 11, 12]]) (.seq (.seq (.reg 8 [⟨0, some 45, (.load 42 (.tmp 11)), none⟩, ⟨1, some 46, (.call { callee := .value (.func 28), args := #[.tmp 45], argTypes := #[42] }), none⟩, ⟨2, some 47, (.binOp .neq 26 (.tmp 46) (.const (Value.int .i64 0)) 26), none⟩]) (.cond (.tmp 47) (.seq (.reg 9 [⟨0, some 6, (.assign (.const (Value.bool false))), none⟩]) .ret) .skip)) (.seq (.reg 10 [⟨0, some 12, (.assign (.const (Value.int .i64 6))), none⟩]) (.seq (.seq (.reg 11 [⟨0, some 48, (.indexAddr 39 (.tmp 5) (.const (Value.int .i64 0))), none⟩, ⟨1, some 49, (.load 5 (.tmp 48)), none⟩, ⟨2, some 50, (.binOp .rem 5 (.tmp 49) (.const (Value.int .u8 6)) 5), none⟩]) (.block 0 (.seq (.reg 14 [⟨0, some 66, (.binOp .eql 5 (.tmp 50) (.const (Value.int .u8 0)) 5), none⟩, ⟨1, some 65, (.assign (.tmp 66)), none⟩]) (.cond (.tmp 65) (.seq (.reg 15 [⟨0, some 67, (.fieldAddr 42 (.tmp 8) 0), none⟩, ⟨1, some 68, (.load 9 (.tmp 67)), none⟩, ⟨2, some 69, (.binOp .add 9 (.tmp 68) (.const (Value.string { data := #[255] })) 9), none⟩, ⟨3, some 70, (.fieldAddr 42 (.tmp 8) 0), none⟩, ⟨4, none, (.store 9 (.tmp 70) (.tmp 69)), none⟩]) (.reg 16 [⟨0, some 12, (.assign (.const (Value.int .i64 3))), none⟩])) (.seq (.reg 17 [⟨0, some 72, (.binOp .eql 5 (.tmp 50) (.const (Value.int .u8 1)) 5), none⟩, ⟨1, some 71, (.assign (.tmp 72)), none⟩]) (.cond (.tmp 71) (.reg 18 [⟨0, some 73, (.fieldAddr 42 (.tmp 8) 1), none⟩, ⟨1, some 74, (.load 40 (.tmp 73)), none⟩, ⟨2, some 75, (.move (.tmp 9)), none⟩, ⟨3, some 76, (.slice 40 (.tmp 74) none (some (.tmp 75)) none), none⟩, ⟨4, some 77, (.fieldAddr 42 (.tmp 8) 1), none⟩, ⟨5, none, (.store 40 (.tmp 77) (.tmp 76)), none⟩]) (.seq (.reg 19 [⟨0, some 79, (.binOp .eql 5 (.tmp 50) (.const (Value.int .u8 2)) 5), none⟩, ⟨1, some 78, (.assign (.tmp 79)), none⟩]) (.cond (.tmp 78) (.draw 20 [⟨0, some 80, (.fieldAddr 42 (.tmp 8) 1), none⟩, ⟨1, some 81, (.load 40 (.tmp 80)), none⟩, ⟨2, some 82, (.move (.tmp 10)), none⟩, ⟨3, some 83, (.binOp .add 3 (.tmp 82) (.const (Value.int .i64 1)) 3), none⟩, ⟨4, some 84, (.fieldAddr 42 (.tmp 8) 1), none⟩, ⟨5, some 85, (.load 40 (.tmp 84)), none⟩, ⟨6, some 86, (.move (.tmp 10)), none⟩, ⟨7, some 87, (.indexAddr 40 (.tmp 85) (.tmp 86)), none⟩, ⟨8, some 88, (.load 3 (.tmp 87)), none⟩, ⟨9, some 89, (.indexAddr 40 (.tmp 81) (.tmp 83)), none⟩, ⟨10, none, (.store 3 (.tmp 89) (.tmp 88)), none⟩] [[], [0], [], [2], [], [4], [], [5, 6], [7], [1, 3, 0, 1, 2, 3, 4, 5, 6, 7, 8], [9, 8, 0, 1, 2, 3, 4, 5, 6, 7, 8]]) (.seq (.reg 21 [⟨0, some 91, (.binOp .eql 5 (.tmp 50) (.const (Value.int .u8 3)) 5), none⟩, ⟨1, some 90, (.assign (.tmp 91)), none⟩]) (.cond (.tmp 90) (.reg 22 [⟨0, some 92, (.fieldAddr 42 (.tmp 8) 1), none⟩, ⟨1, some 93, (.load 40 (.tmp 92)), none⟩, ⟨2, some 94, (.indexAddr 40 (.tmp 93) (.const (Value.int .i64 0))), none⟩, ⟨3, none, (.store 3 (.tmp 94) (.const (Value.int .i64 (-1)))), none⟩]) (.seq (.reg 23 [⟨0, some 96, (.binOp .eql 5 (.tmp 50) (.const (Value.int .u8 4)) 5), none⟩, ⟨1, some 95, (.assign (.tmp 96)), none⟩]) (.cond (.tmp 95) (.seq (.draw 24 [⟨0, some 97, (.fieldAddr 42 (.tmp 8) 2), none⟩, ⟨1, some 98, (.load 38 (.tmp 97)), none⟩, ⟨2, some 99, (.move (.tmp 10)), none⟩, ⟨3, some 100, (.buildSlice 25 0 #[]), none⟩, ⟨4, some 101, (.fieldAddr 42 (.tmp 8) 2), none⟩, ⟨5, some 102, (.load 38 (.tmp 101)), none⟩, ⟨6, some 103, (.move (.tmp 10)), none⟩, ⟨7, some 104, (.indexAddr 38 (.tmp 102) (.tmp 103)), none⟩, ⟨8, some 105, (.load 25 (.tmp 104)), none⟩, ⟨9, some 106, (.call { callee := .builtin .append, args := #[.tmp 100, .tmp 105], argTypes := #[25, 25] }), none⟩, ⟨10, some 107, (.build 35 #[(0, .const (Value.int .i64 2))]), none⟩, ⟨11, some 108, (.buildSlice 25 1 #[(0, .tmp 107)]), none⟩, ⟨12, some 109, (.call { callee := .builtin .append, args := #[.tmp 106, .tmp 108], argTypes := #[25, 25] }), none⟩, ⟨13, some 110, (.indexAddr 38 (.tmp 98) (.tmp 99)), none⟩, ⟨14, none, (.store 25 (.tmp 110) (.tmp 109)), none⟩] [[], [0], [], [], [], [4], [], [5, 6], [7], [3, 8], [], [10], [9, 11, 9], [1, 2, 0, 1, 2, 3, 4, 5, 6, 7, 8, 9, 10, 11, 12], [13, 12, 12, 0, 1, 2, 3, 4, 5, 6, 7, 8, 9, 10, 11, 12]]) (.reg 25 [⟨0, some 12, (.assign (.const (Value.int .i64 8))), none⟩])) (.seq (.draw 12 [⟨0, some 51, (.fieldAddr 42 (.tmp 8) 2), none⟩, ⟨1, some 52, (.load 38 (.tmp 51)), none⟩, ⟨2, some 53, (.move (.tmp 10)), none⟩, ⟨3, some 54, (.buildSlice 25 0 #[]), none⟩, ⟨4, some 55, (.fieldAddr 42 (.tmp 8) 2), none⟩, ⟨5, some 56, (.load 38 (.tmp 55)), none⟩, ⟨6, some 57, (.move (.tmp 10)), none⟩, ⟨7, some 58, (.indexAddr 38 (.tmp 56) (.tmp 57)), none⟩, ⟨8, some 59, (.load 25 (.tmp 58)), none⟩, ⟨9, some 60, (.call { callee := .builtin .append, args := #[.tmp 54, .tmp 59], argTypes := #[25, 25] }), none⟩, ⟨10, some 61, (.build 35 #[(0, .const (Value.int .i64 3)), (1, .const (Value.int .i64 1))]), none⟩, ⟨11, some 62, (.buildSlice 25 1 #[(0, .tmp 61)]), none⟩, ⟨12, some 63, (.call { callee := .builtin .append, args := #[.tmp 60, .tmp 62], argTypes := #[25, 25] }), none⟩, ⟨13, some 64, (.indexAddr 38 (.tmp 52) (.tmp 53)), none⟩, ⟨14, none, (.store 25 (.tmp 64) (.tmp 63)), none⟩] [[], [0], [], [], [], [4], [], [5, 6], [7], [3, 8], [], [10], [9, 11, 9], [1, 2, 0, 1, 2, 3, 4, 5, 6, 7, 8, 9, 10, 11, 12], [13, 12, 12, 0, 1, 2, 3, 4, 5, 6, 7, 8, 9, 10, 11, 12]]) (.reg 13 [⟨0, some 12, (.assign (.const (Value.int .i64 5))), none⟩])))))))))))))) (.seq (.reg 26 [⟨0, some 111, (.move (.tmp 7)), none⟩, ⟨1, some 112, (.move (.tmp 111)), none⟩, ⟨2, some 113, (.load 42 (.tmp 8)), (some (112, true))⟩, ⟨3, some 114, (.call { callee := .value (.func 28), args := #[.tmp 113], argTypes := #[42] }), (some (112, true))⟩, ⟨4, some 115, (.move (.tmp 12)), (some (112, true))⟩, ⟨5, some 116, (.binOp .eql 26 (.tmp 114) (.tmp 115) 26), (some (112, true))⟩, ⟨6, some 117, (.pick (.tmp 112) (.tmp 116) (.const (Value.bool false))), none⟩, ⟨7, some 6, (.assign (.tmp 117)), none⟩]) .ret)))))))))))
theorem comp5 : ∀ c, Tryd.f5.body = some c → comp c = cc5 := by
  intro c h
  have : c = Tryd.f5.body.get rfl := by rw [← Option.some_inj, ← h]; rfl
  rw [this]; rfl
theorem fit_in (t : ByteArray) (l : List (List Sp)) {i : Nat} (hi : i < (fitL' t l).segs.length) : inW (fitL' t l).segs[i] ≤ 10000 ∧ (fitL' t l).segs[i].length ≤ 13 := by
  have hs20 : (t.extract 0 (min t.size 20)).size ≤ 20 := by rw [ByteArray.size_extract]; omega
  have hc := fit_count (t.extract 0 (min t.size 20))
  have hW := chO_chn l (n := countD (fitS (t.extract 0 (min t.size 20))).data.toList) (by omega)
  have e : (fitL' t l).segs = (chO l (countD (fitS (t.extract 0 (min t.size 20))).data.toList)).map norm := rfl
  obtain ⟨x, hx, hxe⟩ := List.mem_map.1 (by rw [← e]; exact List.getElem_mem hi : (fitL' t l).segs[i] ∈ (chO l (countD (fitS (t.extract 0 (min t.size 20))).data.toList)).map norm)
  obtain ⟨y, m, rfl, m1, m2⟩ := chn_mem hW.1 x hx
  have hft := (fit_tbs y (n := m) (by omega)).1
  have hnl := norm_len (fitO y m)
  rw [← hxe, norm_in (fitO_may y (by omega)) (by omega), fitO_in y (by omega)]
  omega
theorem isNG_last : ∀ (l : List Sp) (s : Sp) (p : Option Int), emptyS s = true → isNG p (l ++ [s]) = false
  | [], s, p, h => by simp [isNG, h]
  | x :: l, s, p, h => by
    rw [List.cons_append]; simp only [isNG]
    rw [isNG_last l s (some x.k) h, Bool.and_false]
theorem spoilt_seg {c : Lg} (h : chE c = 0) {k : Nat} (hk : k < c.segs.length) {x : List Sp} {e : Int} (he : segE (endN (countD c.base.data.toList) (c.segs.take k)) x = e) (h0 : e ≠ 0) : chE ⟨c.base, c.revs, c.segs.set k x⟩ = e := by
  obtain ⟨h1, h2, h3, h4, h5⟩ := chE_zero h
  have hn : 0 ≤ countD c.base.data.toList := by rw [countD_pts h1]; omega
  unfold chE
  simp only
  rw [if_neg (by omega), if_neg (by omega), if_neg]
  · have hk' : k < (c.segs.set k x).length := by rw [List.length_set]; exact hk
    refine segsE_at hk' ?_ ?_ h0
    · rw [List.take_set_of_le (Nat.le_refl _)]; exact (segsE_take h5 k).1
    · rw [List.take_set_of_le (Nat.le_refl _), List.getElem_set_self]; exact he
  · rintro (a | a)
    · apply a; unfold rPutE; rw [h3]; rfl
    · rw [List.length_set] at a; exact a h4
theorem spoilt_revs {c : Lg} (h : chE c = 0) {r : List Int} (hr : rises r = false ∨ r.length ≠ c.segs.length + 1) : chE ⟨c.base, r, c.segs⟩ = 6 := by
  obtain ⟨h1, h2, h3, h4, h5⟩ := chE_zero h
  have hn : 0 ≤ countD c.base.data.toList := by rw [countD_pts h1]; omega
  unfold chE
  simp only
  rw [if_neg (by omega), if_neg (by omega), if_pos]
  rcases hr with hr | hr
  · exact .inl (by unfold rPutE; rw [hr]; decide)
  · exact .inr hr
theorem spoilt_base {c : Lg} (h : chE c = 0) : chE ⟨c.base ++ ⟨#[255]⟩, c.revs, c.segs⟩ = 3 := by
  have hv : validD (c.base ++ ⟨#[255]⟩).data.toList = false := by
    rw [str_app, valid_app _ (chE_zero h).1]; decide
  unfold chE
  simp only
  rw [countD_bad hv, if_pos (by omega)]
theorem seg_put {n : Int} {x : List Sp} (h : segE n x = 0) (hl : x.length ≤ 1000) (hn : n ≤ 10000) : segE n (x ++ [⟨2, 0, ⟨#[]⟩⟩]) = 8 ∧ segE n (x ++ [⟨3, 1, ⟨#[]⟩⟩]) = 5 := by
  obtain ⟨a1, a2, a3, a4⟩ := segE_zero h
  obtain ⟨h3, h4⟩ := (opMay_iff x).1 a1
  have hs := inW_sum h3 (by omega)
  have hp := sum_pos h3
  have hin : ∀ s : Sp, 0 ≤ inS s ∧ inS s ≤ 1 → inW (x ++ [s]) = n + inS s := fun s hs' => by
    rw [inW_eq, sumI_app, sumI_cons, sumI_nil, ← hs, a2, wrap_id (by omega)]; omega
  have ok : ∀ s : Sp, SpOK s → 0 ≤ inS s ∧ inS s ≤ 1 → opMayF (x ++ [s]) = 0 := fun s h1 h2 => by
    refine (opMay_iff _).2 ⟨fun y hy => ?_, by rw [hin s h2]; omega⟩
    rcases List.mem_append.1 hy with hy | hy
    · exact h3 y hy
    · simp at hy; subst hy; exact h1
  have p1 : SpOK ⟨2, 0, ⟨#[]⟩⟩ := SpOK.put rfl rfl (by decide)
  have p2 : SpOK ⟨3, 1, ⟨#[]⟩⟩ := SpOK.keep (.inr rfl) (by decide) rfl
  have i1 : inS ⟨2, 0, ⟨#[]⟩⟩ = 0 := by decide
  have i2 : inS ⟨3, 1, ⟨#[]⟩⟩ = 1 := by decide
  have o1 : outW (x ++ [⟨2, 0, ⟨#[]⟩⟩]) = outW x := by
    have e : outS ⟨2, 0, ⟨#[]⟩⟩ = 0 := by decide
    rw [outW_eq, outW_eq, sumI_app, sumI_cons, sumI_nil, e]; simp
  refine ⟨?_, ?_⟩
  · unfold segE
    rw [if_neg (by simp [ok _ p1 (by rw [i1]; omega)]), if_neg (by rw [hin _ (by rw [i1]; omega), i1]; simp), if_neg (by rw [o1]; omega), if_neg]
    rw [show isN (x ++ [⟨2, 0, ⟨#[]⟩⟩]) = false from isNG_last _ _ _ (by decide)]; simp
  · unfold segE
    rw [if_neg (by simp [ok _ p2 (by rw [i2]; omega)]), if_pos (by rw [hin _ (by rw [i2]; omega), i2]; omega)]
theorem may_own (p : Lg) (hp : LgS p) {N : Nat} {H : List (Nat × Blk)} {r1 r2 v1 v2 y1 y2 z1 z2 n m : Nat} {e1 e2 : List (List AV)}
    (g1 : get H r1 = some ⟨1, y1, v1, z1, false, e1⟩) (g2 : get H r2 = some ⟨1, y2, v2, z2, false, e2⟩) (n1 : n ≤ e1.length) (n2 : m ≤ e2.length) (h1 : e1.take n = ints p.revs) (h2 : e2.take m = rowsA p.segs) :
    HCallW env N 28 [.agg [.v (.string p.base), .own r1 v1 0 n, .own r2 v2 0 m]] H (fun r hp1 => r = .v (.int .i64 (chE p)) ∧ hp1 = H) := by
  refine hcall_scalar (cmay_call p hp) (fun K hK => ?_)
  have : lgA p = .agg [.v (.string p.base), .lst 1 (e1.take n), .lst 1 (e2.take m)] := by rw [h1, h2]; rfl
  rw [this] at hK
  have q1 : Nat.beq v1 v1 && !false = true := by simp
  have q2 : Nat.beq v2 v2 && !false = true := by simp
  simp only [Ev.pursK, Ev.purK, Ev.purL, deep, g1, g2, Ev.bwith]
  refine Ev.chk_k (Ev.sided (Ev.chk_k (Ev.sided ?_ (Ev.Side.of (by omega))) q2) (Ev.Side.of (by omega))) q1
  simp only [Ev.frzK, List.append_nil, List.nil_append, List.cons_append, Ev.bwith_eq]
  repeat' (first | exact hK _ _ rfl | split)
set_option maxHeartbeats 16000000 in
theorem chainSpoilt_call (t : ByteArray) (l : List (List Sp)) (x0 x1 : Int) (h0 : 0 ≤ x0 ∧ x0 < 256) (h1 : 0 ≤ x1 ∧ x1 < 256) : CallW env 5 [.v (.string t), .lst 1 (rowsA l), .agg [.v (.int .u8 x0), .v (.int .u8 x1)]] (fun r hs => r = .v (.bool true) ∧ hs = []) := by
  by_cases hne : (fitL' t l).segs = []
  · have hF := fit16_call t l
    obtain ⟨f1, f2, f3, f4, f5⟩ := fit_good t l
    generalize fitL' t l = c at *
    have hM := cmay_call c f2
    rw [f1] at hM
    have hrl := rowsA_len c.segs
    have hz : ((rowsA c.segs).length : Int) = 0 := by rw [hrl, hne]; rfl
    refine Ev.func tabOK [0, 1, 2, 5, 6, 7, 8, 9, 10, 11, 12, 21, 47, 50, 65, 71, 78, 90, 95] 0 Tryd.func5 rfl rfl (by simp [Tryd.ntmps5]) (by rfl) (comp5 _ rfl) (rs := [.tmp 6]) rfl ?_; rw [cc5]; show Ev.Wp _ _ _ _ ⟨[(0, _), (1, _), (2, _)], [], 0⟩
    repeat' (first | (((with_reducible refine Ev.br_pos ?_ ?_); focus (decide)); conv => whnf) | (((with_reducible refine Ev.br_neg ?_ ?_); focus (decide)); conv => whnf) | (((with_reducible refine Ev.c_pos ?_ ?_); focus (decide))) | (((with_reducible refine Ev.c_neg ?_ ?_); focus (decide))) | (with_reducible refine Ev.br_pos rfl ?_) | (with_reducible refine Ev.c_pos rfl ?_) | (with_reducible refine Ev.c_pos hz ?_) | ((with_reducible first | refine Ev.sided ?_ ?_ | refine Ev.w_put ?_ | refine Ev.w_step ?_ | refine Ev.w_opt ?_); (conv => whnf)) | ((with_reducible refine Ev.chk_k ?_ ?_); rotate_left; (focus first | rfl | (simp only [Ev.nbeq, Bool.and_true, Bool.true_and, Bool.not_false]; done) | ((repeat' (first | exact Ev.nbeq _ | rfl | refine Bool.and_eq_true_iff.2 ⟨?_, ?_⟩)); done)); conv => whnf) | (with_reducible first | refine Ev.c_dec (fun _ => ?_) (fun _ => ?_) | refine Ev.c_not ?_ | refine Ev.c_t ?_ | refine Ev.c_f ?_ | refine Ev.c_br (fun _ => ?_) (fun _ => ?_)) | ((with_reducible refine Ev.br_not ?_); conv => whnf) | (with_reducible first | refine Ev.br_dec (fun _ => ?_) (fun _ => ?_) | refine Ev.br (fun _ => ?_) (fun _ => ?_) | refine Ev.eo_ret ?_ | refine Ev.eo_norm ?_ | refine Ev.t_norm ?_ | refine Ev.k_seq ?_) | ((with_reducible refine Ev.k_reg (hs := []) (tabOK' _ _) (fun Q hQ => ?_)); (simp only [Ev.runE_cons, Ev.runE_nil]); conv => whnf) | (with_reducible refine hQ _ ?_; clear hQ Q) | (with_reducible first | refine Ev.k_cond rfl ?_ | refine Ev.k_skip ?_ | refine Ev.k_block ?_ | refine Ev.k_exit ?_ | refine Ev.k_ret ?_ | refine Ev.t_ret ?_ | refine Ev.t_exit ?_ | refine Ev.b_norm ?_ | refine Ev.b_ret ?_ | refine Ev.b_here ?_ | refine Ev.b_off rfl ?_) | ((with_reducible first | refine Ev.e_ret (fun F hF => ?_) | refine Ev.e_norm (fun F hF => ?_) | refine Ev.eh_ret (fun F hF => ?_) | refine Ev.eh_norm (fun F hF => ?_) | refine Ev.go_k (fun c' => ?_) | refine Ev.byt_cut ?_ | refine Ev.byt_all ?_ | refine Ev.run_cut ?_ | refine Ev.run_all ?_); conv => whnf) | (with_reducible refine hF _ ?_; clear hF F) | (with_reducible refine Ev.u_step ?_) | ((first | refine Ev.call_det (shown16_call) rfl rfl ?_ | refine Ev.call_det (hF) rfl rfl ?_ | refine Ev.call_det (hM) rfl rfl ?_); conv => whnf) | ((first | refine Ev.call_det (shown16_call) ?_ rfl ?_ | refine Ev.call_det (hF) ?_ rfl ?_ | refine Ev.call_det (hM) ?_ rfl ?_); (focus (repeat' (first | with_reducible rfl | refine Ev.cons_eq ?_ ?_)) <;> (first | rfl | (refine Ev.lst_eq (Ev.take_all ?_ rfl); first | omega | (simp; done) | (simp; omega)) | (refine Ev.int_eq ?_; omega) | (simp; done))); conv => whnf) | ((refine Ev.k_drawV (id := 7) (hs := []) (tabOK' _ _) (mixed' _ _) [(0, false), (1, false), (2, false), (3, false), (4, false), (5, true), (6, true), (7, false), (8, false), (9, false), (10, true), (11, true), (12, false), (13, false)] (by decide) rfl rfl (fun Q hQ => ?_)); (simp only [Ev.runV_consF, Ev.runV_consT, Ev.runV_nil]); conv => whnf) | ((refine Ev.k_draw (id := 20) (hs := []) (tabOK' _ _) (mixed' _ _) [0, 1, 2, 4, 5, 6, 7, 8, 3, 9, 10] (by decide) rfl rfl (fun Q hQ => ?_)); (simp only [Ev.runE_cons, Ev.runE_nil]); conv => whnf) | ((refine Ev.k_drawU (id := 24) (hs := []) (tabOK' _ _) (mixed' _ _) [[], [0], [], [], [], [4], [], [4, 5, 6], [4, 5, 6, 7], [3, 4, 5, 6, 7, 8], [], [10], [3, 4, 5, 6, 7, 8, 9, 10, 11], [0, 1, 2, 3, 4, 5, 6, 7, 8, 9, 10, 11, 12], [0, 1, 2, 3, 4, 5, 6, 7, 8, 9, 10, 11, 12, 13]] (.one 0 false (.one 2 false (.one 4 false (.one 5 false (.one 6 false (.one 7 false (.one 8 false (.one 10 true (.any (.alt 1 (.any (.alt 3 (.any (.alt 9 (.one 11 false (.one 12 false (.one 13 false (.one 14 false .fin)))) (.alt 11 (.one 9 false (.one 12 false (.one 13 false (.one 14 false .fin)))) .stop))) (.alt 11 (.one 3 false (.one 9 false (.one 12 false (.one 13 false (.one 14 false .fin))))) .stop))) (.alt 3 (.any (.alt 1 (.any (.alt 9 (.one 11 false (.one 12 false (.one 13 false (.one 14 false .fin)))) (.alt 11 (.one 9 false (.one 12 false (.one 13 false (.one 14 false .fin)))) .stop))) (.alt 9 (.any (.alt 1 (.one 11 false (.one 12 false (.one 13 false (.one 14 false .fin)))) (.alt 11 (.any (.alt 1 (.one 12 false (.one 13 false (.one 14 false .fin))) (.alt 12 (.one 1 false (.one 13 false (.one 14 false .fin))) .stop))) .stop))) (.alt 11 (.any (.alt 1 (.one 9 false (.one 12 false (.one 13 false (.one 14 false .fin)))) (.alt 9 (.any (.alt 1 (.one 12 false (.one 13 false (.one 14 false .fin))) (.alt 12 (.one 1 false (.one 13 false (.one 14 false .fin))) .stop))) .stop))) .stop)))) (.alt 11 (.any (.alt 1 (.one 3 false (.one 9 false (.one 12 false (.one 13 false (.one 14 false .fin))))) (.alt 3 (.any (.alt 1 (.one 9 false (.one 12 false (.one 13 false (.one 14 false .fin)))) (.alt 9 (.any (.alt 1 (.one 12 false (.one 13 false (.one 14 false .fin))) (.alt 12 (.one 1 false (.one 13 false (.one 14 false .fin))) .stop))) .stop))) .stop))) .stop)))))))))))) (by decide) rfl (by decide) rfl rfl (fun Q hQ => ?_)); (simp only [Ev.runU_fin, Ev.runU_stop, Ev.runU_oneF, Ev.runU_oneT, Ev.runU_any, Ev.runU_alt]); conv => whnf) | ((with_reducible refine Ev.both ?_ ?_) <;> (conv => whnf)) | exact True.intro | ((refine Ev.k_drawU (id := 12) (hs := []) (tabOK' _ _) (mixed' _ _) [[], [0], [], [], [], [4], [], [4, 5, 6], [4, 5, 6, 7], [3, 4, 5, 6, 7, 8], [], [10], [3, 4, 5, 6, 7, 8, 9, 10, 11], [0, 1, 2, 3, 4, 5, 6, 7, 8, 9, 10, 11, 12], [0, 1, 2, 3, 4, 5, 6, 7, 8, 9, 10, 11, 12, 13]] (.one 0 false (.one 2 false (.one 4 false (.one 5 false (.one 6 false (.one 7 false (.one 8 false (.one 10 true (.any (.alt 1 (.any (.alt 3 (.any (.alt 9 (.one 11 false (.one 12 false (.one 13 false (.one 14 false .fin)))) (.alt 11 (.one 9 false (.one 12 false (.one 13 false (.one 14 false .fin)))) .stop))) (.alt 11 (.one 3 false (.one 9 false (.one 12 false (.one 13 false (.one 14 false .fin))))) .stop))) (.alt 3 (.any (.alt 1 (.any (.alt 9 (.one 11 false (.one 12 false (.one 13 false (.one 14 false .fin)))) (.alt 11 (.one 9 false (.one 12 false (.one 13 false (.one 14 false .fin)))) .stop))) (.alt 9 (.any (.alt 1 (.one 11 false (.one 12 false (.one 13 false (.one 14 false .fin)))) (.alt 11 (.any (.alt 1 (.one 12 false (.one 13 false (.one 14 false .fin))) (.alt 12 (.one 1 false (.one 13 false (.one 14 false .fin))) .stop))) .stop))) (.alt 11 (.any (.alt 1 (.one 9 false (.one 12 false (.one 13 false (.one 14 false .fin)))) (.alt 9 (.any (.alt 1 (.one 12 false (.one 13 false (.one 14 false .fin))) (.alt 12 (.one 1 false (.one 13 false (.one 14 false .fin))) .stop))) .stop))) .stop)))) (.alt 11 (.any (.alt 1 (.one 3 false (.one 9 false (.one 12 false (.one 13 false (.one 14 false .fin))))) (.alt 3 (.any (.alt 1 (.one 9 false (.one 12 false (.one 13 false (.one 14 false .fin)))) (.alt 9 (.any (.alt 1 (.one 12 false (.one 13 false (.one 14 false .fin))) (.alt 12 (.one 1 false (.one 13 false (.one 14 false .fin))) .stop))) .stop))) .stop))) .stop)))))))))))) (by decide) rfl (by decide) rfl rfl (fun Q hQ => ?_)); (simp only [Ev.runU_fin, Ev.runU_stop, Ev.runU_oneF, Ev.runU_oneT, Ev.runU_any, Ev.runU_alt]); conv => whnf) | ((with_reducible refine Ev.both ?_ ?_) <;> (conv => whnf)) | exact True.intro | ((refine Ev.el_map0 ?_ (fun hi => ?_)); rotate_left; conv => whnf) | ((refine Ev.el_mapN ?_ (fun hi => ?_)); rotate_left; conv => whnf) | (refine Ev.Side.of ?_; exact Nat.le_of_ble_eq_true rfl) | (refine Ev.Side.of ?_; omega) | (refine Ev.Side.of ?_; simp only [Ev.wrap64]; omega) | (refine Ev.app_one ?_ rfl ?_ (by decide) <;> (first | omega | (simp; done) | (simp; omega))) | (refine Ev.app_nil1 rfl (by decide)) | (refine Ev.app_ys ?_ ?_ ?_ (by decide) <;> (first | omega | exact sps_all _ | exact bts_all _ | exact ints_all _ | exact spss_all _ | (simp; done) | (simp; omega))) | (refine Ev.app_nil ?_ ?_ (by decide) <;> (first | omega | exact sps_all _ | exact bts_all _ | exact ints_all _ | exact spss_all _ | (simp; done) | (simp; omega))) | (refine Ev.Side.of ?_; first | omega | (simp; done) | (simp; omega)))
    all_goals exact ⟨rfl, rfl⟩
  · have hF := fit16_own t l hne
    have hfi := fun i (hi : i < (fitL' t l).segs.length) => fit_in t l hi
    obtain ⟨f1, f2, f3, f4, f5⟩ := fit_good t l
    generalize fitL' t l = c at *
    have hlen := (chE_zero f1).2.2.2.1
    have hn0 : 0 < c.segs.length := List.length_pos_iff.2 hne
    have hrl := rowsA_len c.segs
    have hil := ints_len c.revs
    have hnz : ¬ (c.segs.length : Int) = 0 := by omega
    obtain ⟨k, hk, hkl⟩ : ∃ k : Nat, (IntKind.i64.wrap x1).tmod (c.segs.length : Int) = (k : Int) ∧ k < c.segs.length := by
      have e1 : IntKind.i64.wrap x1 = x1 := wrap_id (by omega)
      rw [e1, Int.tmod_eq_emod_of_nonneg h1.1]
      have h1 := Int.emod_nonneg x1 (b := (c.segs.length : Int)) (by omega)
      have h2 := Int.emod_lt_of_pos x1 (b := (c.segs.length : Int)) (by omega)
      exact ⟨(x1 % (c.segs.length : Int)).toNat, by omega, by omega⟩
    have hb : c.base.size + totb c.segs ≤ 1000000000 := by omega
    have hx : ∀ x ∈ c.segs, x.length ≤ 100000000 := fun x hx => (f2.2.2.2 x hx).1
    obtain ⟨g1, g2, g3, g4⟩ := cut_good f1 hx hb (k := k) (by omega)
    obtain ⟨s1, s2⟩ := lgS_cut f2 k (t := ⟨#[]⟩) (by decide)
    have hw1 : (IntKind.i64.wrap ((k : Int) + 1)).toNat - 0 = k + 1 := by rw [wrap_id (by omega)]; omega
    have hP := fun (N : Nat) =>
      may_own ⟨c.base, c.revs.take (k + 1), c.segs.take k⟩ s1 (N := N) (H := [(1040, ⟨1, 3, 8, 0, false, ints c.revs⟩), (1041, ⟨1, 25, 9, 0, false, rowsA c.segs⟩), (1048, ⟨3, 42, 10, 0, true, [[.v (.string c.base), .own 1040 8 0 (c.segs.length + 1), .own 1041 9 0 c.segs.length]]⟩), (3680, ⟨3, 42, 18, 0, true, [[.v (.string c.base), .own 1040 8 0 ((IntKind.i64.wrap ((k : Int) + 1)).toNat - 0), .own 1041 9 0 ((k : Int).toNat - 0)]]⟩), (0, ⟨2, 39, 0, 0, true, [[.v (.int .u8 x0), .v (.int .u8 x1)]]⟩)]) (r1 := 1040) (r2 := 1041) (v1 := 8) (v2 := 9) (y1 := 3) (y2 := 25) (z1 := 0) (z2 := 0) (e1 := ints c.revs) (e2 := rowsA c.segs) (n := ((IntKind.i64.wrap ((k : Int) + 1)).toNat - 0)) (m := (k : Int).toNat - 0) (by rfl) (by rfl) (by rw [hw1]; omega) (by omega) (by rw [hw1]; simp [ints, List.map_take]) (by simp [rowsA, List.map_take])
    have hkr : k < c.revs.length := by omega
    have hsk : c.segs[k].length ≤ 1000 := by have := (hfi k hkl).2; omega
    have hskl : (sps c.segs[k]).length = c.segs[k].length := by simp
    have hw2 : (IntKind.i64.wrap ((k : Int) + 1)).toNat = k + 1 := by rw [wrap_id (by omega)]; omega
    have hw3 : (IntKind.i64.wrap ((k : Int) + 1)).toNat < c.revs.length := by omega
    have hm : 2000000003 ≤ maxLen := by decide
    have hs1 : c.base.size + (ByteArray.mk #[255]).size ≤ maxLen := by show c.base.size + 1 ≤ maxLen; omega
    have hst : ∀ (x : List Sp), Small x → x.length ≤ 100000000 → LgS ⟨c.base, c.revs, c.segs.set k x⟩ := fun x h1 h2 => ⟨f2.1, f2.2.1, by simp only [List.length_set]; exact f2.2.2.1, fun y hy => by
      rcases List.mem_or_eq_of_mem_set hy with h | h
      · exact f2.2.2.2 y h
      · subst h; exact ⟨h2, h1⟩⟩
    have hrs : ∀ (r : List Int), r.length ≤ 100000000 → LgS ⟨c.base, r, c.segs⟩ := fun r h => ⟨f2.1, h, f2.2.2⟩
    have hbs : LgS ⟨c.base ++ ⟨#[255]⟩, c.revs, c.segs⟩ := ⟨by rw [ByteArray.size_append]; show c.base.size + 1 ≤ _; omega, f2.2⟩
    have hQ0 := may_own ⟨c.base ++ ⟨#[255]⟩, c.revs, c.segs⟩ hbs (N := 0) (H := [(1040, ⟨1, 3, 8, 0, false, ints c.revs⟩), (1041, ⟨1, 25, 9, 0, false, rowsA c.segs⟩)]) (r1 := 1040) (r2 := 1041) (v1 := 8) (v2 := 9) (y1 := 3) (y2 := 25) (z1 := 0) (z2 := 0) (e1 := ints c.revs) (e2 := rowsA c.segs) (n := c.segs.length + 1) (m := c.segs.length) (by rfl) (by rfl) (by omega) (by omega) (by rw [List.take_of_length_le (by omega)]) (by rw [List.take_of_length_le (by omega)])
    have hQ1 := may_own ⟨c.base, c.revs.take c.segs.length, c.segs⟩ (hrs _ (by simp only [List.length_take]; omega)) (N := 0) (H := [(1040, ⟨1, 3, 8, 0, false, ints c.revs⟩), (1041, ⟨1, 25, 9, 0, false, rowsA c.segs⟩)]) (r1 := 1040) (r2 := 1041) (v1 := 8) (v2 := 9) (y1 := 3) (y2 := 25) (z1 := 0) (z2 := 0) (e1 := ints c.revs) (e2 := rowsA c.segs) (n := ((c.segs.length : Int).toNat - 0)) (m := c.segs.length) (by rfl) (by rfl) (by omega) (by omega) (by rw [Int.toNat_natCast, Nat.sub_zero]; simp [ints, List.map_take]) (by rw [List.take_of_length_le (by omega)])
    have hQ2 := may_own ⟨c.base, c.revs.set (k + 1) c.revs[k], c.segs⟩ (hrs _ (by simp only [List.length_set]; omega)) (N := 0) (H := [(1040, ⟨1, 3, 8, 0, false, (ints c.revs).set (0 + (IntKind.i64.wrap ((k : Int) + 1)).toNat) [.v (.int .i64 c.revs[k])]⟩), (1041, ⟨1, 25, 9, 0, false, rowsA c.segs⟩)]) (r1 := 1040) (r2 := 1041) (v1 := 8) (v2 := 9) (y1 := 3) (y2 := 25) (z1 := 0) (z2 := 0) (e1 := (ints c.revs).set (0 + (IntKind.i64.wrap ((k : Int) + 1)).toNat) [.v (.int .i64 c.revs[k])]) (e2 := rowsA c.segs) (n := c.segs.length + 1) (m := c.segs.length) (by rfl) (by rfl) (by simp only [List.length_set]; omega) (by omega) (by rw [List.take_of_length_le (by simp; omega), hw2, Nat.zero_add]; simp [ints, List.map_set]) (by rw [List.take_of_length_le (by omega)])
    have hQ3 := may_own ⟨c.base, c.revs.set 0 (-1), c.segs⟩ (hrs _ (by simp only [List.length_set]; omega)) (N := 0) (H := [(1040, ⟨1, 3, 8, 0, false, (ints c.revs).set (0 + Int.toNat 0) [.v (.int .i64 (-1))]⟩), (1041, ⟨1, 25, 9, 0, false, rowsA c.segs⟩)]) (r1 := 1040) (r2 := 1041) (v1 := 8) (v2 := 9) (y1 := 3) (y2 := 25) (z1 := 0) (z2 := 0) (e1 := (ints c.revs).set (0 + Int.toNat 0) [.v (.int .i64 (-1))]) (e2 := rowsA c.segs) (n := c.segs.length + 1) (m := c.segs.length) (by rfl) (by rfl) (by simp only [List.length_set]; omega) (by omega) (by rw [List.take_of_length_le (by simp; omega)]; simp [ints, List.map_set]) (by rw [List.take_of_length_le (by omega)])
    have hQ4 := may_own ⟨c.base, c.revs, c.segs.set k (c.segs[k] ++ [⟨2, 0, ⟨#[]⟩⟩])⟩ (hst _ (by intro y hy; rcases List.mem_append.1 hy with hy | hy; exact (f2.2.2.2 _ (List.getElem_mem hkl)).2 y hy; simp at hy; subst hy; decide) (by simp only [List.length_append, List.length_cons, List.length_nil]; omega)) (N := 0) (H := [(1040, ⟨1, 3, 8, 0, false, ints c.revs⟩), (1041, ⟨1, 25, 9, 0, false, (rowsA c.segs).set (0 + (k : Int).toNat) [.lst 3 (List.take (0 + (sps c.segs[k]).length + 1) (List.drop 0 ([] ++ sps c.segs[k] ++ [[.v (.int .i64 2), .v (.int .i64 0), .v (.string ⟨#[]⟩)]])))]⟩)]) (r1 := 1040) (r2 := 1041) (v1 := 8) (v2 := 9) (y1 := 3) (y2 := 25) (z1 := 0) (z2 := 0) (e1 := ints c.revs) (e2 := (rowsA c.segs).set (0 + (k : Int).toNat) [.lst 3 (List.take (0 + (sps c.segs[k]).length + 1) (List.drop 0 ([] ++ sps c.segs[k] ++ [[.v (.int .i64 2), .v (.int .i64 0), .v (.string ⟨#[]⟩)]])))]) (n := c.segs.length + 1) (m := c.segs.length) (by rfl) (by rfl) (by omega) (by simp only [List.length_set]; omega) (by rw [List.take_of_length_le (by omega)]) (by rw [List.take_of_length_le (by simp), Nat.zero_add, Int.toNat_natCast, List.drop_zero, List.nil_append, List.take_of_length_le (by simp)]; simp [rowsA, List.map_set, sps, spC])
    have hQ5 := may_own ⟨c.base, c.revs, c.segs.set k (c.segs[k] ++ [⟨3, 1, ⟨#[]⟩⟩])⟩ (hst _ (by intro y hy; rcases List.mem_append.1 hy with hy | hy; exact (f2.2.2.2 _ (List.getElem_mem hkl)).2 y hy; simp at hy; subst hy; decide) (by simp only [List.length_append, List.length_cons, List.length_nil]; omega)) (N := 0) (H := [(1040, ⟨1, 3, 8, 0, false, ints c.revs⟩), (1041, ⟨1, 25, 9, 0, false, (rowsA c.segs).set (0 + (k : Int).toNat) [.lst 3 (List.take (0 + (sps c.segs[k]).length + 1) (List.drop 0 ([] ++ sps c.segs[k] ++ [[.v (.int .i64 3), .v (.int .i64 1), .v (.string ⟨#[]⟩)]])))]⟩)]) (r1 := 1040) (r2 := 1041) (v1 := 8) (v2 := 9) (y1 := 3) (y2 := 25) (z1 := 0) (z2 := 0) (e1 := ints c.revs) (e2 := (rowsA c.segs).set (0 + (k : Int).toNat) [.lst 3 (List.take (0 + (sps c.segs[k]).length + 1) (List.drop 0 ([] ++ sps c.segs[k] ++ [[.v (.int .i64 3), .v (.int .i64 1), .v (.string ⟨#[]⟩)]])))]) (n := c.segs.length + 1) (m := c.segs.length) (by rfl) (by rfl) (by omega) (by simp only [List.length_set]; omega) (by rw [List.take_of_length_le (by omega)]) (by rw [List.take_of_length_le (by simp), Nat.zero_add, Int.toNat_natCast, List.drop_zero, List.nil_append, List.take_of_length_le (by simp)]; simp [rowsA, List.map_set, sps, spC])
    have v0 := spoilt_base f1
    have v1 := spoilt_revs f1 (r := c.revs.take c.segs.length) (.inr (by simp only [List.length_take]; omega))
    have v2 := spoilt_revs f1 (r := c.revs.set (k + 1) c.revs[k]) (.inl (rises_at (i := k + 1) (by simp only [List.length_set]; omega) (.inl (by
      rw [List.getElem_set_self, List.take_set_of_le (Nat.le_refl _), List.take_succ_eq_append_getElem hkr, lastI_snoc]; exact Int.le_refl _))))
    have v3 := spoilt_revs f1 (r := c.revs.set 0 (-1)) (.inl (rises_at (i := 0) (by simp only [List.length_set]; omega) (.inl (by simp [lastI]))))
    have hsg : segE (endN (countD c.base.data.toList) (c.segs.take k)) c.segs[k] = 0 := by
      have h5 := (chE_zero f1).2.2.2.2
      refine Decidable.byContradiction fun he => ?_
      have := segsE_at hkl (segsE_take h5 k).1 rfl he
      exact he (this.symm.trans h5)
    have hen : endN (countD c.base.data.toList) (c.segs.take k) ≤ 10000 := by rw [← (segE_zero hsg).2.1]; exact (hfi k hkl).1
    have v4 := spoilt_seg f1 hkl (seg_put hsg hsk hen).1 (by decide)
    have v5 := spoilt_seg f1 hkl (seg_put hsg hsk hen).2 (by decide)
    rw [v0] at hQ0
    rw [v1] at hQ1
    rw [v2] at hQ2
    rw [v3] at hQ3
    rw [v4] at hQ4
    rw [v5] at hQ5
    refine Ev.func tabOK [0, 1, 2, 5, 6, 7, 8, 9, 10, 11, 12, 21, 47, 50, 65, 71, 78, 90, 95] 0 Tryd.func5 rfl rfl (by simp [Tryd.ntmps5]) (by rfl) (comp5 _ rfl) (rs := [.tmp 6]) rfl ?_; rw [cc5]; show Ev.Wp _ _ _ _ ⟨[(0, _), (1, _), (2, _)], [], 0⟩
    repeat' (first | (((with_reducible refine Ev.br_pos ?_ ?_); focus (decide)); conv => whnf) | (((with_reducible refine Ev.br_neg ?_ ?_); focus (decide)); conv => whnf) | (((with_reducible refine Ev.c_pos ?_ ?_); focus (decide))) | (((with_reducible refine Ev.c_neg ?_ ?_); focus (decide))) | (refine Ev.Side.of ?_; (first | exact hs1 | exact hw3)) | (with_reducible refine Ev.br_pos rfl ?_) | (with_reducible refine Ev.c_pos rfl ?_) | (with_reducible refine Ev.c_neg hnz ?_) | (conv in (Int.tmod (IntKind.i64.wrap x1) _) => rw [hk]) | ((with_reducible first | refine Ev.sided ?_ ?_ | refine Ev.w_put ?_ | refine Ev.w_step ?_ | refine Ev.w_opt ?_); (conv => whnf)) | ((with_reducible refine Ev.chk_k ?_ ?_); rotate_left; (focus first | rfl | (simp only [Ev.nbeq, Bool.and_true, Bool.true_and, Bool.not_false]; done) | ((repeat' (first | exact Ev.nbeq _ | rfl | refine Bool.and_eq_true_iff.2 ⟨?_, ?_⟩)); done)); conv => whnf) | (with_reducible first | refine Ev.c_dec (fun _ => ?_) (fun _ => ?_) | refine Ev.c_not ?_ | refine Ev.c_t ?_ | refine Ev.c_f ?_ | refine Ev.c_br (fun _ => ?_) (fun _ => ?_)) | ((with_reducible refine Ev.br_not ?_); conv => whnf) | (with_reducible first | refine Ev.br_dec (fun _ => ?_) (fun _ => ?_) | refine Ev.br (fun _ => ?_) (fun _ => ?_) | refine Ev.eo_ret ?_ | refine Ev.eo_norm ?_ | refine Ev.t_norm ?_ | refine Ev.k_seq ?_) | ((with_reducible refine Ev.k_reg (hs := [28]) (tabOK' _ _) (fun Q hQ => ?_)); (simp only [Ev.runE_cons, Ev.runE_nil]); conv => whnf) | (with_reducible refine hQ _ ?_; clear hQ Q) | (with_reducible first | refine Ev.k_cond rfl ?_ | refine Ev.k_skip ?_ | refine Ev.k_block ?_ | refine Ev.k_exit ?_ | refine Ev.k_ret ?_ | refine Ev.t_ret ?_ | refine Ev.t_exit ?_ | refine Ev.b_norm ?_ | refine Ev.b_ret ?_ | refine Ev.b_here ?_ | refine Ev.b_off rfl ?_) | ((with_reducible first | refine Ev.e_ret (fun F hF => ?_) | refine Ev.e_norm (fun F hF => ?_) | refine Ev.eh_ret (fun F hF => ?_) | refine Ev.eh_norm (fun F hF => ?_) | refine Ev.go_k (fun c' => ?_) | refine Ev.byt_cut ?_ | refine Ev.byt_all ?_ | refine Ev.run_cut ?_ | refine Ev.run_all ?_); conv => whnf) | (with_reducible refine hF _ ?_; clear hF F) | (with_reducible refine Ev.u_step ?_) | ((refine Ev.hcall_det (hP 0) rfl ?_ (fun c' hc' => ?_)); (focus ((repeat' (first | exact trivial | refine And.intro ?_ ?_)) <;> (refine Ev.slot_eq rfl ?_; first | with_reducible rfl | rfl))); conv => whnf) | ((refine Ev.hcall_det (hQ0) rfl ?_ (fun c' hc' => ?_)); (focus ((repeat' (first | exact trivial | refine And.intro ?_ ?_)) <;> (refine Ev.slot_eq rfl ?_; first | with_reducible rfl | rfl))); conv => whnf) | ((refine Ev.hcall_det (hQ1) rfl ?_ (fun c' hc' => ?_)); (focus ((repeat' (first | exact trivial | refine And.intro ?_ ?_)) <;> (refine Ev.slot_eq rfl ?_; first | with_reducible rfl | rfl))); conv => whnf) | ((refine Ev.hcall_det (hQ2) rfl ?_ (fun c' hc' => ?_)); (focus ((repeat' (first | exact trivial | refine And.intro ?_ ?_)) <;> (refine Ev.slot_eq rfl ?_; first | with_reducible rfl | rfl))); conv => whnf) | ((refine Ev.hcall_det (hQ3) rfl ?_ (fun c' hc' => ?_)); (focus ((repeat' (first | exact trivial | refine And.intro ?_ ?_)) <;> (refine Ev.slot_eq rfl ?_; first | with_reducible rfl | rfl))); conv => whnf) | ((refine Ev.hcall_det (hQ4) rfl ?_ (fun c' hc' => ?_)); (focus ((repeat' (first | exact trivial | refine And.intro ?_ ?_)) <;> (refine Ev.slot_eq rfl ?_; first | with_reducible rfl | rfl))); conv => whnf) | ((refine Ev.hcall_det (hQ5) rfl ?_ (fun c' hc' => ?_)); (focus ((repeat' (first | exact trivial | refine And.intro ?_ ?_)) <;> (refine Ev.slot_eq rfl ?_; first | with_reducible rfl | rfl))); conv => whnf) | ((first | refine Ev.call_det (shown16_call) rfl rfl ?_); conv => whnf) | ((first | refine Ev.call_det (shown16_call) ?_ rfl ?_); (focus (repeat' (first | with_reducible rfl | refine Ev.cons_eq ?_ ?_)) <;> (first | rfl | (refine Ev.lst_eq (Ev.take_all ?_ rfl); first | omega | (simp; done) | (simp; omega)) | (refine Ev.int_eq ?_; omega) | (simp; done))); conv => whnf) | ((refine Ev.call_own hF rfl (by simp) ⟨rfl, rfl, trivial⟩ ?_); conv => whnf) | ((refine Ev.k_drawU (id := 7) (hs := [28]) (tabOK' _ _) (mixed' _ _) [[], [0], [], [2], [], [4], [2, 3, 4, 5], [], [7], [], [7, 8, 9], [0, 1, 2, 3, 4, 5, 6, 7, 8, 9, 10], [], [0, 1, 2, 3, 4, 5, 6, 7, 8, 9, 10, 11, 12]] (.one 0 false (.one 1 false (.one 2 false (.one 3 false (.one 4 false (.one 5 true (.one 6 false (.one 7 false (.one 8 false (.one 9 false (.one 10 false (.one 11 true (.one 12 false (.one 13 false .fin)))))))))))))) (by decide) rfl (by decide) rfl rfl (fun Q hQ => ?_)); (simp only [Ev.runU_fin, Ev.runU_stop, Ev.runU_oneF, Ev.runU_oneT, Ev.runU_any, Ev.runU_alt]); conv => whnf) | ((with_reducible refine Ev.both ?_ ?_) <;> (conv => whnf)) | exact True.intro | ((refine Ev.k_draw (id := 20) (hs := [28]) (tabOK' _ _) (mixed' _ _) [0, 1, 2, 4, 5, 6, 7, 8, 3, 9, 10] (by decide) rfl rfl (fun Q hQ => ?_)); (simp only [Ev.runE_cons, Ev.runE_nil]); conv => whnf) | ((refine Ev.k_drawU (id := 24) (hs := [28]) (tabOK' _ _) (mixed' _ _) [[], [0], [], [], [], [4], [], [4, 5, 6], [4, 5, 6, 7], [3, 4, 5, 6, 7, 8], [], [10], [3, 4, 5, 6, 7, 8, 9, 10, 11], [0, 1, 2, 3, 4, 5, 6, 7, 8, 9, 10, 11, 12], [0, 1, 2, 3, 4, 5, 6, 7, 8, 9, 10, 11, 12, 13]] (.one 0 false (.one 2 false (.one 4 false (.one 5 false (.one 6 false (.one 7 false (.one 8 false (.one 10 true (.any (.alt 1 (.any (.alt 3 (.any (.alt 9 (.one 11 false (.one 12 false (.one 13 false (.one 14 false .fin)))) (.alt 11 (.one 9 false (.one 12 false (.one 13 false (.one 14 false .fin)))) .stop))) (.alt 11 (.one 3 false (.one 9 false (.one 12 false (.one 13 false (.one 14 false .fin))))) .stop))) (.alt 3 (.any (.alt 1 (.any (.alt 9 (.one 11 false (.one 12 false (.one 13 false (.one 14 false .fin)))) (.alt 11 (.one 9 false (.one 12 false (.one 13 false (.one 14 false .fin)))) .stop))) (.alt 9 (.any (.alt 1 (.one 11 false (.one 12 false (.one 13 false (.one 14 false .fin)))) (.alt 11 (.any (.alt 1 (.one 12 false (.one 13 false (.one 14 false .fin))) (.alt 12 (.one 1 false (.one 13 false (.one 14 false .fin))) .stop))) .stop))) (.alt 11 (.any (.alt 1 (.one 9 false (.one 12 false (.one 13 false (.one 14 false .fin)))) (.alt 9 (.any (.alt 1 (.one 12 false (.one 13 false (.one 14 false .fin))) (.alt 12 (.one 1 false (.one 13 false (.one 14 false .fin))) .stop))) .stop))) .stop)))) (.alt 11 (.any (.alt 1 (.one 3 false (.one 9 false (.one 12 false (.one 13 false (.one 14 false .fin))))) (.alt 3 (.any (.alt 1 (.one 9 false (.one 12 false (.one 13 false (.one 14 false .fin)))) (.alt 9 (.any (.alt 1 (.one 12 false (.one 13 false (.one 14 false .fin))) (.alt 12 (.one 1 false (.one 13 false (.one 14 false .fin))) .stop))) .stop))) .stop))) .stop)))))))))))) (by decide) rfl (by decide) rfl rfl (fun Q hQ => ?_)); (simp only [Ev.runU_fin, Ev.runU_stop, Ev.runU_oneF, Ev.runU_oneT, Ev.runU_any, Ev.runU_alt]); conv => whnf) | ((with_reducible refine Ev.both ?_ ?_) <;> (conv => whnf)) | exact True.intro | ((refine Ev.k_drawU (id := 12) (hs := [28]) (tabOK' _ _) (mixed' _ _) [[], [0], [], [], [], [4], [], [4, 5, 6], [4, 5, 6, 7], [3, 4, 5, 6, 7, 8], [], [10], [3, 4, 5, 6, 7, 8, 9, 10, 11], [0, 1, 2, 3, 4, 5, 6, 7, 8, 9, 10, 11, 12], [0, 1, 2, 3, 4, 5, 6, 7, 8, 9, 10, 11, 12, 13]] (.one 0 false (.one 2 false (.one 4 false (.one 5 false (.one 6 false (.one 7 false (.one 8 false (.one 10 true (.any (.alt 1 (.any (.alt 3 (.any (.alt 9 (.one 11 false (.one 12 false (.one 13 false (.one 14 false .fin)))) (.alt 11 (.one 9 false (.one 12 false (.one 13 false (.one 14 false .fin)))) .stop))) (.alt 11 (.one 3 false (.one 9 false (.one 12 false (.one 13 false (.one 14 false .fin))))) .stop))) (.alt 3 (.any (.alt 1 (.any (.alt 9 (.one 11 false (.one 12 false (.one 13 false (.one 14 false .fin)))) (.alt 11 (.one 9 false (.one 12 false (.one 13 false (.one 14 false .fin)))) .stop))) (.alt 9 (.any (.alt 1 (.one 11 false (.one 12 false (.one 13 false (.one 14 false .fin)))) (.alt 11 (.any (.alt 1 (.one 12 false (.one 13 false (.one 14 false .fin))) (.alt 12 (.one 1 false (.one 13 false (.one 14 false .fin))) .stop))) .stop))) (.alt 11 (.any (.alt 1 (.one 9 false (.one 12 false (.one 13 false (.one 14 false .fin)))) (.alt 9 (.any (.alt 1 (.one 12 false (.one 13 false (.one 14 false .fin))) (.alt 12 (.one 1 false (.one 13 false (.one 14 false .fin))) .stop))) .stop))) .stop)))) (.alt 11 (.any (.alt 1 (.one 3 false (.one 9 false (.one 12 false (.one 13 false (.one 14 false .fin))))) (.alt 3 (.any (.alt 1 (.one 9 false (.one 12 false (.one 13 false (.one 14 false .fin)))) (.alt 9 (.any (.alt 1 (.one 12 false (.one 13 false (.one 14 false .fin))) (.alt 12 (.one 1 false (.one 13 false (.one 14 false .fin))) .stop))) .stop))) .stop))) .stop)))))))))))) (by decide) rfl (by decide) rfl rfl (fun Q hQ => ?_)); (simp only [Ev.runU_fin, Ev.runU_stop, Ev.runU_oneF, Ev.runU_oneT, Ev.runU_any, Ev.runU_alt]); conv => whnf) | ((with_reducible refine Ev.both ?_ ?_) <;> (conv => whnf)) | exact True.intro | ((refine Ev.el_map0 ?_ (fun hi => ?_)); rotate_left; conv => whnf) | ((refine Ev.el_mapN ?_ (fun hi => ?_)); rotate_left; conv => whnf) | (refine Ev.Side.of ?_; exact Nat.le_of_ble_eq_true rfl) | (refine Ev.Side.of ?_; omega) | (refine Ev.Side.of ?_; simp only [Ev.wrap64]; omega) | (refine Ev.app_one ?_ rfl ?_ (by decide) <;> (first | omega | (simp; done) | (simp; omega))) | (refine Ev.app_nil1 rfl (by decide)) | (refine Ev.app_ys ?_ ?_ ?_ (by decide) <;> (first | omega | exact sps_all _ | exact bts_all _ | exact ints_all _ | exact spss_all _ | (simp; done) | (simp; omega))) | (refine Ev.app_nil ?_ ?_ (by decide) <;> (first | omega | exact sps_all _ | exact bts_all _ | exact ints_all _ | exact spss_all _ | (simp; done) | (simp; omega))) | (refine Ev.Side.of ?_; first | omega | (simp; done) | (simp; omega)))
    all_goals first | exact ⟨rfl, rfl⟩ | exact absurd g1 (by assumption) | (refine Ev.app_ys (b := 32) ?_ (sps_all3 _) ?_ (by decide); rfl; omega)
end Go.Proofs.YthdjbgbfboppcaaDoor.Abs
