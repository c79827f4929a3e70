/- WordsAll, whatever the input, is true: the row and its tied card. No condition. -/
import Derived.Test.YthdjbgbfboppcaaDoorZW6
namespace Go.Proofs.YthdjbgbfboppcaaDoor.Abs
open Go
set_option maxRecDepth 100000
set_option linter.unusedSimpArgs false
set_option linter.unusedVariables false
attribute [local irreducible] Ev.Unr Ev.Go' Ev.bytK Ev.runK Ev.FinL Ev.brC Ev.Side Ev.Wp Ev.Again Ev.To Ev.Fin
open Go.Lib Go.RowKit
def cc11 : CC := (.seq (.reg 0 [⟨0, some 4, (.assign (.const (Value.bool false))), none⟩]) (.seq (.reg 1 [⟨0, some 22, (.call { callee := .value (.func 21), args := #[], argTypes := #[] }), none⟩, ⟨1, some 5, (.assign (.tmp 22)), none⟩]) (.seq (.reg 2 [⟨0, some 23, (.move (.tmp 0)), none⟩, ⟨1, some 24, (.call { callee := .value (.func 39), args := #[.tmp 23], argTypes := #[25] }), none⟩, ⟨2, some 6, (.assign (.tmp 24)), none⟩]) (.seq (.reg 3 [⟨0, some 26, (.move (.tmp 6)), none⟩, ⟨1, some 27, (.call { callee := .value (.func 24), args := #[.tmp 26], argTypes := #[25] }), none⟩, ⟨2, some 25, (.move (.tmp 27)), none⟩, ⟨3, some 28, (.extract (.tmp 25) 0), none⟩, ⟨4, some 29, (.extract (.tmp 25) 1), none⟩, ⟨5, some 7, (.assign (.tmp 28)), none⟩, ⟨6, some 8, (.assign (.tmp 29)), none⟩]) (.seq (.reg 4 [⟨0, some 31, (.move (.tmp 6)), none⟩, ⟨1, some 32, (.call { callee := .value (.func 40), args := #[.tmp 31], argTypes := #[25] }), none⟩, ⟨2, some 30, (.move (.tmp 32)), none⟩, ⟨3, some 33, (.extract (.tmp 30) 0), none⟩, ⟨4, some 34, (.extract (.tmp 30) 1), none⟩, ⟨5, some 9, (.assign (.tmp 33)), none⟩, ⟨6, some 10, (.assign (.tmp 34)), none⟩]) (.seq (.reg 5 [⟨0, some 35, (.move (.tmp 0)), none⟩, ⟨1, some 36, (.call { callee := .value (.func 42), args := #[.tmp 35, .const (Value.int .i64 9)], argTypes := #[25, 3] }), none⟩, ⟨2, some 37, (.call { callee := .value (.func 41), args := #[.tmp 36], argTypes := #[25] }), none⟩, ⟨3, some 11, (.assign (.tmp 37)), none⟩]) (.seq (.reg 6 [⟨0, some 39, (.move (.tmp 11)), none⟩, ⟨1, some 40, (.call { callee := .value (.func 24), args := #[.tmp 39], argTypes := #[25] }), none⟩, ⟨2, some 38, (.move (.tmp 40)), none⟩, ⟨3, some 41, (.extract (.tmp 38) 0), none⟩, ⟨4, some 42, (.extract (.tmp 38) 1), none⟩, ⟨5, some 12, (.assign (.tmp 41)), none⟩, ⟨6, some 13, (.assign (.tmp 42)), none⟩]) (.seq (.reg 7 [⟨0, some 44, (.move (.tmp 11)), none⟩, ⟨1, some 45, (.call { callee := .value (.func 40), args := #[.tmp 44], argTypes := #[25] }), none⟩, ⟨2, some 43, (.move (.tmp 45)), none⟩, ⟨3, some 46, (.extract (.tmp 43) 0), none⟩, ⟨4, some 47, (.extract (.tmp 43) 1), none⟩, ⟨5, some 14, (.assign (.tmp 46)), none⟩, ⟨6, some 15, (.assign (.tmp 47)), none⟩]) (.seq (.reg 8 [⟨0, some 49, (.move (.tmp 1)), none⟩, ⟨1, some 50, (.call { callee := .value (.func 22), args := #[.tmp 49], argTypes := #[22] }), none⟩, ⟨2, some 51, (.call { callee := .value (.func 23), args := #[.tmp 50], argTypes := #[22] }), none⟩, ⟨3, some 48, (.move (.tmp 51)), none⟩, ⟨4, some 52, (.extract (.tmp 48) 0), none⟩, ⟨5, some 53, (.extract (.tmp 48) 1), none⟩, ⟨6, some 54, (.extract (.tmp 48) 2), none⟩, ⟨7, some 16, (.assign (.tmp 52)), none⟩, ⟨8, some 17, (.assign (.tmp 53)), none⟩, ⟨9, some 18, (.assign (.tmp 54)), none⟩]) (.seq (.reg 9 [⟨0, some 56, (.move (.tmp 1)), none⟩, ⟨1, some 57, (.call { callee := .value (.func 22), args := #[.tmp 56], argTypes := #[22] }), none⟩, ⟨2, some 58, (.call { callee := .value (.func 43), args := #[.tmp 57], argTypes := #[22] }), none⟩, ⟨3, some 55, (.move (.tmp 58)), none⟩, ⟨4, some 59, (.extract (.tmp 55) 0), none⟩, ⟨5, some 60, (.extract (.tmp 55) 1), none⟩, ⟨6, some 61, (.extract (.tmp 55) 2), none⟩, ⟨7, some 19, (.assign (.tmp 59)), none⟩, ⟨8, some 20, (.assign (.tmp 60)), none⟩, ⟨9, some 21, (.assign (.tmp 61)), none⟩]) (.seq (.reg 10 [⟨0, some 62, (.move (.tmp 5)), none⟩, ⟨1, some 63, (.move (.tmp 62)), none⟩, ⟨2, some 64, (.move (.tmp 7)), (some (63, true))⟩, ⟨3, some 65, (.convert 22 9 (.tmp 64)), (some (63, true))⟩, ⟨4, some 66, (.move (.tmp 9)), (some (63, true))⟩, ⟨5, some 67, (.convert 22 9 (.tmp 66)), (some (63, true))⟩, ⟨6, some 68, (.binOp .eql 9 (.tmp 65) (.tmp 67) 9), (some (63, true))⟩, ⟨7, some 69, (.pick (.tmp 63) (.tmp 68) (.const (Value.bool false))), none⟩, ⟨8, some 70, (.move (.tmp 69)), none⟩, ⟨9, some 71, (.move (.tmp 8)), (some (70, true))⟩, ⟨10, some 72, (.move (.tmp 10)), (some (70, true))⟩, ⟨11, some 73, (.binOp .eql 26 (.tmp 71) (.tmp 72) 26), (some (70, true))⟩, ⟨12, some 74, (.pick (.tmp 70) (.tmp 73) (.const (Value.bool false))), none⟩, ⟨13, some 75, (.move (.tmp 74)), none⟩, ⟨14, some 76, (.move (.tmp 12)), (some (75, true))⟩, ⟨15, some 77, (.convert 22 9 (.tmp 76)), (some (75, true))⟩, ⟨16, some 78, (.move (.tmp 14)), (some (75, true))⟩, ⟨17, some 79, (.convert 22 9 (.tmp 78)), (some (75, true))⟩, ⟨18, some 80, (.binOp .eql 9 (.tmp 77) (.tmp 79) 9), (some (75, true))⟩, ⟨19, some 81, (.pick (.tmp 75) (.tmp 80) (.const (Value.bool false))), none⟩, ⟨20, some 82, (.move (.tmp 81)), none⟩, ⟨21, some 83, (.move (.tmp 13)), (some (82, true))⟩, ⟨22, some 84, (.move (.tmp 15)), (some (82, true))⟩, ⟨23, some 85, (.binOp .eql 26 (.tmp 83) (.tmp 84) 26), (some (82, true))⟩, ⟨24, some 86, (.pick (.tmp 82) (.tmp 85) (.const (Value.bool false))), none⟩, ⟨25, some 87, (.move (.tmp 86)), none⟩, ⟨26, some 88, (.move (.tmp 16)), (some (87, true))⟩, ⟨27, some 89, (.move (.tmp 19)), (some (87, true))⟩, ⟨28, some 90, (.call { callee := .value (.func 44), args := #[.tmp 88, .tmp 89], argTypes := #[25, 25] }), (some (87, true))⟩, ⟨29, some 91, (.pick (.tmp 87) (.tmp 90) (.const (Value.bool false))), none⟩, ⟨30, some 92, (.move (.tmp 91)), none⟩, ⟨31, some 93, (.move (.tmp 17)), (some (92, true))⟩, ⟨32, some 94, (.move (.tmp 20)), (some (92, true))⟩, ⟨33, some 95, (.binOp .eql 3 (.tmp 93) (.tmp 94) 3), (some (92, true))⟩, ⟨34, some 96, (.pick (.tmp 92) (.tmp 95) (.const (Value.bool false))), none⟩, ⟨35, some 97, (.move (.tmp 96)), none⟩, ⟨36, some 98, (.move (.tmp 18)), (some (97, true))⟩, ⟨37, some 99, (.move (.tmp 21)), (some (97, true))⟩, ⟨38, some 100, (.binOp .eql 26 (.tmp 98) (.tmp 99) 26), (some (97, true))⟩, ⟨39, some 101, (.pick (.tmp 97) (.tmp 100) (.const (Value.bool false))), none⟩, ⟨40, some 4, (.assign (.tmp 101)), none⟩]) .ret)))))))))))
theorem comp11 : ∀ c, Tryd.f11.body = some c → comp c = cc11 := by
  intro c h
  have : c = Tryd.f11.body.get rfl := by rw [← Option.some_inj, ← h]; rfl
  rw [this]; rfl
theorem takeR_le {b : List UInt8} {f : FuncId} (h : CallW env f [.lst 1 (bts b)] (TakeR b)) : CallW env f [.lst 1 (bts b)] (fun r hs => r = .tup [.lst 3 (sps (wTakeL b)), .v (.int .i64 (wTakeK b)), .v (.int .i64 (wTakeE b))] ∧ hs = []) := by
  refine h.res ?_
  rintro r hs ⟨⟨x, rfl, hx⟩, rfl⟩
  exact ⟨_, ⟨rfl, rfl⟩, LeR.tup3 hx (LeR.refl _) (LeR.refl _)⟩
def wPutB' (l : List Sp) : AV := .tup [.lst 1 (bts (wPutB l)), .v (.int .i64 (wPutE l))]
theorem wPutA_le (l : List Sp) : LeR (wPutA l) (wPutB' l) := by
  unfold wPutA wPutB' wPutB
  by_cases h : wPutE l = 0
  · rw [if_pos h, if_pos h, h]; exact LeR.refl _
  · rw [if_neg h, if_neg h]; exact LeR.tup2 (LeR.nil 1) (LeR.refl _)
theorem wputB_call (l : List Sp) (hs : Small l) (hb : tbs l + 4 * l.length ≤ 1000000000) : CallW env 24 [.lst 3 (sps l)] (fun r hs => r = wPutB' l ∧ hs = []) := (wput_call l hs hb).res_eq (wPutA_le l)
theorem rwputB_call (l : List Sp) (hs : Small l) (hb : tbs l + 4 * l.length ≤ 1000000000) : CallW env 40 [.lst 3 (sps l)] (fun r hs => r = wPutB' l ∧ hs = []) := (rwput_call l hs hb).res_eq (wPutA_le l)
theorem wTakeL_len {w : List UInt8} (hw : w.length ≤ 100000000) : (wTakeL w).length ≤ 1000000000 := by
  unfold wTakeL
  rcases h : wTake w with e | ⟨l, k⟩
  · simp
  · have := (take_small hw h).2
    show l.length ≤ _
    omega
theorem wordsAll_call (l : List Sp) (b : List UInt8) : CallW env 11 [.lst 3 (sps l), .lst 1 (bts b)] (fun r hs => r = .v (.bool true) ∧ hs = []) := by
  have hw : (b.take 200).length ≤ 200 := by rw [List.length_take]; omega
  have hT := takeR_le (wtake_core (b.take 200) (by omega))
  have hT' := takeR_le (rwtake_core (b.take 200) (by omega))
  have hF := few14_call l
  have hf1 := few_len l
  have hf2 := few_tbs l
  have hP := wputB_call _ (few_small l) (by omega)
  have hP' := rwputB_call _ (few_small l) (by omega)
  obtain ⟨g1, g2⟩ := fit_tbs l (n := 9) (by omega)
  obtain ⟨n1, n2, n3⟩ := fit_norm l (n := 9) (by omega)
  have hO := nof_call (fitO l 9) (by omega) (by omega)
  have hX := fit4_call l 9 (by omega)
  have hN1 := wputB_call _ (tbs_small (l := norm (fitO l 9)) (by omega)) (by omega)
  have hN2 := rwputB_call _ (tbs_small (l := norm (fitO l 9)) (by omega)) (by omega)
  have hS := same_call (wTakeL (b.take 200)) (wTakeL (b.take 200)) (wTakeL_len (by omega))
  rw [decide_eq_true rfl] at hS
  generalize norm (fitO l 9) = M at *
  generalize (l.take 20).map (cutS 60) = W at *
  unfold wPutB' at hP hP' hN1 hN2
  refine Ev.func tabOK [0, 1, 4, 5, 6, 7, 8, 9, 10, 11, 12, 13, 14, 15, 16, 17, 18, 19, 20, 21] 0 Tryd.func11 rfl rfl (by simp [Tryd.ntmps11]) (by rfl) (comp11 _ rfl) (rs := [.tmp 4]) rfl ?_; rw [cc11]; show Ev.Wp _ _ _ _ ⟨[(0, _), (1, _)], [], 0⟩
  repeat' (first | (((with_reducible refine Ev.br_pos ?_ ?_); focus (decide)); conv => whnf) | (((with_reducible refine Ev.br_neg ?_ ?_); focus (decide)); conv => whnf) | (((with_reducible refine Ev.c_pos ?_ ?_); focus (decide))) | (((with_reducible refine Ev.c_neg ?_ ?_); focus (decide))) | (with_reducible refine Ev.br_pos rfl ?_) | (with_reducible refine Ev.c_pos rfl ?_) | ((with_reducible first | refine Ev.sided ?_ ?_ | refine Ev.w_put ?_ | refine Ev.w_step ?_ | refine Ev.w_opt ?_); (conv => whnf)) | ((with_reducible refine Ev.chk_k ?_ ?_); rotate_left; (focus first | rfl | (simp only [Ev.nbeq, Bool.and_true, Bool.true_and, Bool.not_false]; done) | ((repeat' (first | exact Ev.nbeq _ | rfl | refine Bool.and_eq_true_iff.2 ⟨?_, ?_⟩)); done)); conv => whnf) | (with_reducible first | refine Ev.c_dec (fun _ => ?_) (fun _ => ?_) | refine Ev.c_not ?_ | refine Ev.c_t ?_ | refine Ev.c_f ?_ | refine Ev.c_br (fun _ => ?_) (fun _ => ?_)) | ((with_reducible refine Ev.br_not ?_); conv => whnf) | (with_reducible first | refine Ev.br_dec (fun _ => ?_) (fun _ => ?_) | refine Ev.br (fun _ => ?_) (fun _ => ?_) | refine Ev.eo_ret ?_ | refine Ev.eo_norm ?_ | refine Ev.t_norm ?_ | refine Ev.k_seq ?_) | ((with_reducible refine Ev.k_reg (hs := []) (tabOK' _ _) (fun Q hQ => ?_)); (simp only [Ev.runE_cons, Ev.runE_nil]); conv => whnf) | (with_reducible refine hQ _ ?_; clear hQ Q) | (with_reducible first | refine Ev.k_cond rfl ?_ | refine Ev.k_skip ?_ | refine Ev.k_block ?_ | refine Ev.k_exit ?_ | refine Ev.k_ret ?_ | refine Ev.t_ret ?_ | refine Ev.t_exit ?_ | refine Ev.b_norm ?_ | refine Ev.b_ret ?_ | refine Ev.b_here ?_ | refine Ev.b_off rfl ?_) | ((with_reducible first | refine Ev.e_ret (fun F hF => ?_) | refine Ev.e_norm (fun F hF => ?_) | refine Ev.eh_ret (fun F hF => ?_) | refine Ev.eh_norm (fun F hF => ?_) | refine Ev.go_k (fun c' => ?_) | refine Ev.byt_cut ?_ | refine Ev.byt_all ?_ | refine Ev.run_cut ?_ | refine Ev.run_all ?_); conv => whnf) | (with_reducible refine hF _ ?_; clear hF F) | (with_reducible refine Ev.u_step ?_) | ((first | refine Ev.call_det (shown14_call) rfl rfl ?_ | refine Ev.call_det (fewOf_call b) rfl rfl ?_ | refine Ev.call_det (hF) rfl rfl ?_ | refine Ev.call_det (hP) rfl rfl ?_ | refine Ev.call_det (hP') rfl rfl ?_ | refine Ev.call_det (hX) rfl rfl ?_ | refine Ev.call_det (hO) rfl rfl ?_ | refine Ev.call_det (hN1) rfl rfl ?_ | refine Ev.call_det (hN2) rfl rfl ?_ | refine Ev.call_det (hT) rfl rfl ?_ | refine Ev.call_det (hT') rfl rfl ?_ | refine Ev.call_det (hS) rfl rfl ?_); conv => whnf) | ((first | refine Ev.call_det (shown14_call) ?_ rfl ?_ | refine Ev.call_det (fewOf_call b) ?_ rfl ?_ | refine Ev.call_det (hF) ?_ rfl ?_ | refine Ev.call_det (hP) ?_ rfl ?_ | refine Ev.call_det (hP') ?_ rfl ?_ | refine Ev.call_det (hX) ?_ rfl ?_ | refine Ev.call_det (hO) ?_ rfl ?_ | refine Ev.call_det (hN1) ?_ rfl ?_ | refine Ev.call_det (hN2) ?_ rfl ?_ | refine Ev.call_det (hT) ?_ rfl ?_ | refine Ev.call_det (hT') ?_ rfl ?_ | refine Ev.call_det (hS) ?_ rfl ?_); (focus (repeat' (first | with_reducible rfl | refine Ev.cons_eq ?_ ?_)) <;> (first | rfl | (refine Ev.lst_eq (Ev.take_all ?_ rfl); first | omega | (simp; done) | (simp; omega)) | (refine Ev.int_eq ?_; omega) | (simp; done))); conv => whnf) | ((refine Ev.el_map0 ?_ (fun hi => ?_)); rotate_left; conv => whnf) | ((refine Ev.el_mapN ?_ (fun hi => ?_)); rotate_left; conv => whnf) | (refine Ev.Side.of ?_; exact Nat.le_of_ble_eq_true rfl) | (refine Ev.Side.of ?_; omega) | (refine Ev.Side.of ?_; simp only [Ev.wrap64]; omega) | (refine Ev.app_one ?_ rfl ?_ (by decide) <;> (first | omega | (simp; done) | (simp; omega))) | (refine Ev.app_nil1 rfl (by decide)) | (refine Ev.app_ys ?_ ?_ ?_ (by decide) <;> (first | omega | exact sps_all _ | exact bts_all _ | exact ints_all _ | exact spss_all _ | (simp; done) | (simp; omega))) | (refine Ev.app_nil ?_ ?_ (by decide) <;> (first | omega | exact sps_all _ | exact bts_all _ | exact ints_all _ | exact spss_all _ | (simp; done) | (simp; omega))) | (refine Ev.Side.of ?_; first | omega | (simp; done) | (simp; omega)))
  all_goals exact ⟨Ev.bool_eq (decide_eq_true rfl), rfl⟩
end Go.Proofs.YthdjbgbfboppcaaDoor.Abs

namespace Go.Proofs.YthdjbgbfboppcaaDoor
open Go Go.ChangeShapes Go.WideShapes Go.ChangeAt Go.RowKit
open Go.ChangeMaps (open_string shut_string)
set_option linter.unusedVariables false
theorem wordsAll_list : Rows.wordsAllRow.laid = Rows.wordsTakenRow.laid := by rfl
set_option maxRecDepth 100000 in
theorem wordsAll_lifted (os : Os) (started : os.Started) (H : Type) (enc : TypeId × Value → H) :
    ReturnsInHanded {} Tryd.checked os 11 .any (fun w args => (Rows.wordsAllSpec.pre enc Tryd.prog Tryd.f11 [] false w args ∧ laidMetH Tryd.prog Rows.wordsAllRow.laid w) ∧ sizedMet enc Tryd.prog Tryd.f11 (OpenSpec.ofChange Rows.wordsAllSpec) false w args)
      (Rows.wordsAllSpec.post enc Tryd.prog Tryd.f11 false true false false) := by
  refine returnsInHanded_of_change_and (C := Tryd.checked) (X := fun w _ => laidMetH Tryd.prog Rows.wordsAllRow.laid w) (fun _ _ _ hh h => h.of_heap hh) own started (by kernel_rfl) Tryd.func11
    (ChangeSpec.witness_at (enc := enc) (C := Tryd.checked) (os := os) (X := fun w _ => laidMetH Tryd.prog Rows.wordsAllRow.laid w) false (laidWorld os) #[.slice none 0 0, .slice none 0 0] 8 rfl (by kernel_rfl) (by kernel_rfl) (by kernel_rfl) (by kernel_rfl) (by kernel_rfl) (by rw [wordsAll_list]; exact laid_metH os _)) ?_
  intro W base args ds gs before hval0 hW _ _ hL _
  have hval : ∀ (j : Nat) t v, Tryd.f11.params[j]? = some t → args[j]? = some v → Value.okWide Tryd.prog W .any base t v := hval0
  have hW' := hW
  obtain ⟨p, q, hA0, hV, rfl, hfz, hnd⟩ := hW
  have hA : DataW.TrodAll enc Tryd.prog W 0 (fun _ => true) true Tryd.f11.params.toList args.toList ds p := hA0
  rw [Tryd.params11] at hA hval
  obtain ⟨v0, vs0, d0, ds0, p0, q0, hargs, rfl, rfl, h0, r0⟩ := trodAll_cons hA
  obtain ⟨v1, vs1, d1, ds1, p1, q1, rfl, rfl, rfl, h1, r1⟩ := trodAll_cons r0
  obtain ⟨rfl, rfl, rfl⟩ := trodAll_nil r1
  obtain rfl : args = #[v0, v1] := by cases args; simp_all
  obtain ⟨rfl, rfl⟩ := trodVars_none hV
  have w0 := hval 0 25 v0 rfl rfl
  obtain ⟨a0, g0, b0⟩ := (Abs.Opn.one (show Abs.Opn Tryd.prog W 25 _ _ from (Abs.Opn.slice (sz := 3) Tryd.underlying25 (by kernel_rfl) (by decide) (fun _ => rfl) (Abs.Opn.span (Abs.Opn.st3 Tryd.underlying35 (by kernel_rfl) ⟨rfl, rfl, rfl⟩ ⟨by kernel_rfl, by kernel_rfl, by kernel_rfl⟩ (Abs.Opn.int Tryd.underlying3) (Abs.Opn.int Tryd.underlying3) (Abs.Opn.str Tryd.underlying9))))) h0 (Abs.slice_noagg Tryd.underlying25 w0))
  have w1 := hval 1 22 v1 rfl rfl
  obtain ⟨a1, g1, b1⟩ := (Abs.Opn.one (show Abs.Opn Tryd.prog W 22 _ _ from (Abs.Opn.slice (sz := 1) Tryd.underlying22 (by kernel_rfl) (by decide) (fun _ => rfl) (Abs.Opn.byte (Abs.Opn.int Tryd.underlying5)))) h1 (Abs.slice_noagg Tryd.underlying22 w1))
  have hG := globs_of_laid (by rw [wordsAll_list] at hL; exact hL)
  have hC := Abs.wordsAll_call a0 a1
  refine (Abs.law_full hC (vs := #[v0, v1]) hG rfl (fun i x v hx hv => ?_)).mono ?_
  · rcases i with _ | _ | i <;> simp at hx hv <;> subst hx <;> subst hv <;> assumption
  rintro e W' ⟨rfl, bel⟩
  exact ⟨_, rfl, _, _, _, [], _, [], hW', trodAll_mk1 (shut_bool Tryd.underlying4 _), trodAll_cons_mk (Below.trod (by kernel_rfl) (by kernel_rfl) (of_decide_eq_true (by kernel_rfl)) h0 bel (let ⟨_, hf⟩ := h0; DataW.trod_lt _ _ _ _ hf)) (trodAll_cons_mk (Below.trod (by kernel_rfl) (by kernel_rfl) (of_decide_eq_true (by kernel_rfl)) h1 bel (let ⟨_, hf⟩ := h1; DataW.trod_lt _ _ _ _ hf)) (trodAll_mk0)), rfl, bel.frame _, fun h => by cases h⟩
theorem wordsAll_holds : Rows.WordsAllSaid :=
  OpenClaim.holds_of_wide 11 Tryd.f11 rfl rfl rfl rfl rfl rfl rfl ⟨rfl, rfl, rfl, rfl, rfl⟩ rfl rfl rfl rfl rfl (by kernel_rfl) Tryd.func11 (by kernel_rfl)
    (of_decide_eq_true (by kernel_rfl)) (by unfold Func.isWrapper; first | (rw [if_pos (by decide +kernel)]; kernel_rfl) | (rw [if_neg (by decide +kernel)]; exact ⟨rfl, rfl⟩))
    (fun os started H enc _ => wordsAll_lifted os started H enc)
theorem wordsAll_card_holds : Rows.WordsAllCardSaid :=
  Claim7.holds_tied_plain_at .later [] [.data, .data, .pinned] true (true, "150321277a3984d84d245d0b5218c155a5808e68a39a0d8efc7b1b6f7c0b0c8a") false
    wordsAll_holds (fun _ h => by cases h) (by kernel_rfl) (fun _ h => by cases h) wordsAll_row_tie rfl ⟨rfl, rfl⟩ (by kernel_rfl) rfl
    (fun f fn hf hfn => by
      obtain rfl : f = 11 := Option.some.inj ((show Tryd.prog.funcNamed "epitome/epitomelaw14.WordsAll" = some 11 by kernel_rfl).symm.trans hf) |>.symm
      obtain rfl : fn = Tryd.f11 := (Option.some.inj (Tryd.func11.symm.trans hfn)).symm
      exact ⟨by kernel_rfl, fun j t ht => by
        rw [Tryd.params11] at ht
        have h3 : t = 22 ∨ t = 25 := by
          rcases j with _ | _ | j <;> simp at ht <;> subst ht <;> simp
        rcases h3 with rfl | rfl
        · exact (show Tryd.prog.wantsStandIn 22 = false by kernel_rfl)
        · exact (show Tryd.prog.wantsStandIn 25 = false by kernel_rfl)⟩)
    (by kernel_rfl)
end Go.Proofs.YthdjbgbfboppcaaDoor
