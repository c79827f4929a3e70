/- WordsBack, whatever the input, is true: the row and its tied card. No condition. -/
import Derived.Test.YthdjbgbfboppcaaDoorZW6
namespace Go.Proofs.YthdjbgbfboppcaaDoor.Abs
open Go
set_option maxRecDepth 100000
set_option linter.unusedSimpArgs false
set_option linter.unusedVariables false
attribute [local irreducible] Ev.Unr Ev.Go' Ev.bytK Ev.runK Ev.FinL Ev.brC Ev.Side Ev.Wp Ev.Again Ev.To Ev.Fin
open Go.Lib Go.RowKit
def cc12 : CC := (.seq (.reg 0 [⟨0, some 6, (.assign (.const (Value.bool false))), none⟩]) (.seq (.reg 1 [⟨0, some 18, (.call { callee := .value (.func 21), args := #[], argTypes := #[] }), none⟩, ⟨1, some 7, (.assign (.tmp 18)), none⟩]) (.seq (.reg 2 [⟨0, some 19, (.move (.tmp 0)), none⟩, ⟨1, some 20, (.move (.tmp 1)), none⟩, ⟨2, some 21, (.binOp .rem 5 (.tmp 20) (.const (Value.int .u8 64)) 5), none⟩, ⟨3, some 22, (.convert 5 3 (.tmp 21)), none⟩, ⟨4, some 23, (.call { callee := .value (.func 42), args := #[.tmp 19, .tmp 22], argTypes := #[25, 3] }), none⟩, ⟨5, some 24, (.call { callee := .value (.func 41), args := #[.tmp 23], argTypes := #[25] }), none⟩, ⟨6, some 8, (.assign (.tmp 24)), none⟩]) (.seq (.reg 3 [⟨0, some 26, (.move (.tmp 8)), none⟩, ⟨1, some 27, (.call { callee := .value (.func 24), args := #[.tmp 26], argTypes := #[25] }), none⟩, ⟨2, some 25, (.move (.tmp 27)), none⟩, ⟨3, some 28, (.extract (.tmp 25) 0), none⟩, ⟨4, some 29, (.extract (.tmp 25) 1), none⟩, ⟨5, some 9, (.assign (.tmp 28)), none⟩, ⟨6, some 10, (.assign (.tmp 29)), none⟩]) (.seq (.reg 4 [⟨0, some 31, (.buildSlice 22 0 #[]), none⟩, ⟨1, some 32, (.move (.tmp 9)), none⟩, ⟨2, some 33, (.call { callee := .builtin .append, args := #[.tmp 31, .tmp 32], argTypes := #[22, 22] }), none⟩, ⟨3, some 34, (.move (.tmp 2)), none⟩, ⟨4, some 35, (.call { callee := .value (.func 22), args := #[.tmp 34], argTypes := #[22] }), none⟩, ⟨5, some 36, (.call { callee := .builtin .append, args := #[.tmp 33, .tmp 35], argTypes := #[22, 22] }), none⟩, ⟨6, some 37, (.call { callee := .value (.func 23), args := #[.tmp 36], argTypes := #[22] }), none⟩, ⟨7, some 30, (.move (.tmp 37)), none⟩, ⟨8, some 38, (.extract (.tmp 30) 0), none⟩, ⟨9, some 39, (.extract (.tmp 30) 1), none⟩, ⟨10, some 40, (.extract (.tmp 30) 2), none⟩, ⟨11, some 11, (.assign (.tmp 38)), none⟩, ⟨12, some 12, (.assign (.tmp 39)), none⟩, ⟨13, some 13, (.assign (.tmp 40)), none⟩]) (.seq (.seq (.reg 5 [⟨0, some 14, (.assign (.const (Value.int .i64 0))), none⟩]) (.block 0 (.loop (.seq (.seq (.reg 6 [⟨0, some 41, (.move (.tmp 14)), none⟩, ⟨1, some 42, (.move (.tmp 9)), none⟩, ⟨2, some 43, (.call { callee := .builtin .len, args := #[.tmp 42], argTypes := #[22] }), none⟩, ⟨3, some 44, (.binOp .lss 3 (.tmp 41) (.tmp 43) 3), none⟩]) (.cond (.tmp 44) .skip (.exit 0))) (.seq (.block 1 (.seq (.reg 8 [⟨0, some 48, (.move (.tmp 9)), none⟩, ⟨1, some 49, (.move (.tmp 14)), none⟩, ⟨2, some 50, (.slice 22 (.tmp 48) none (some (.tmp 49)) none), none⟩, ⟨3, some 51, (.call { callee := .value (.func 23), args := #[.tmp 50], argTypes := #[22] }), none⟩, ⟨4, some 47, (.move (.tmp 51)), none⟩, ⟨5, some 52, (.extract (.tmp 47) 0), none⟩, ⟨6, some 53, (.extract (.tmp 47) 1), none⟩, ⟨7, some 54, (.extract (.tmp 47) 2), none⟩, ⟨8, some 15, (.assign (.tmp 52)), none⟩, ⟨9, some 16, (.assign (.tmp 53)), none⟩, ⟨10, some 17, (.assign (.tmp 54)), none⟩]) (.seq (.reg 9 [⟨0, some 55, (.move (.tmp 17)), none⟩, ⟨1, some 56, (.binOp .neq 26 (.tmp 55) (.const (Value.int .i64 7)) 26), none⟩]) (.cond (.tmp 56) (.seq (.reg 10 [⟨0, some 6, (.assign (.const (Value.bool false))), none⟩]) .ret) .skip)))) (.reg 7 [⟨0, some 45, (.move (.tmp 14)), none⟩, ⟨1, some 46, (.binOp .add 3 (.tmp 45) (.const (Value.int .i64 1)) 3), none⟩, ⟨2, some 14, (.assign (.tmp 46)), none⟩])))))) (.seq (.reg 11 [⟨0, some 57, (.move (.tmp 7)), none⟩, ⟨1, some 58, (.move (.tmp 57)), none⟩, ⟨2, some 59, (.move (.tmp 10)), (some (58, true))⟩, ⟨3, some 60, (.binOp .eql 26 (.tmp 59) (.const (Value.int .i64 0)) 26), (some (58, true))⟩, ⟨4, some 61, (.pick (.tmp 58) (.tmp 60) (.const (Value.bool false))), none⟩, ⟨5, some 62, (.move (.tmp 61)), none⟩, ⟨6, some 63, (.move (.tmp 13)), (some (62, true))⟩, ⟨7, some 64, (.binOp .eql 26 (.tmp 63) (.const (Value.int .i64 0)) 26), (some (62, true))⟩, ⟨8, some 65, (.pick (.tmp 62) (.tmp 64) (.const (Value.bool false))), none⟩, ⟨9, some 66, (.move (.tmp 65)), none⟩, ⟨10, some 67, (.move (.tmp 12)), (some (66, true))⟩, ⟨11, some 68, (.move (.tmp 9)), (some (66, true))⟩, ⟨12, some 69, (.call { callee := .builtin .len, args := #[.tmp 68], argTypes := #[22] }), (some (66, true))⟩, ⟨13, some 70, (.binOp .eql 3 (.tmp 67) (.tmp 69) 3), (some (66, true))⟩, ⟨14, some 71, (.pick (.tmp 66) (.tmp 70) (.const (Value.bool false))), none⟩, ⟨15, some 72, (.move (.tmp 71)), none⟩, ⟨16, some 73, (.move (.tmp 11)), (some (72, true))⟩, ⟨17, some 74, (.move (.tmp 8)), (some (72, true))⟩, ⟨18, some 75, (.call { callee := .value (.func 44), args := #[.tmp 73, .tmp 74], argTypes := #[25, 25] }), (some (72, true))⟩, ⟨19, some 76, (.pick (.tmp 72) (.tmp 75) (.const (Value.bool false))), none⟩, ⟨20, some 6, (.assign (.tmp 76)), none⟩]) .ret)))))))
theorem comp12 : ∀ c, Tryd.f12.body = some c → comp c = cc12 := by
  intro c h
  have : c = Tryd.f12.body.get rfl := by rw [← Option.some_inj, ← h]; rfl
  rw [this]; rfl
theorem mod64 {n : Int} (hn : 0 ≤ n ∧ n < 256) : 0 ≤ IntKind.i64.wrap (n.tmod 64) ∧ IntKind.i64.wrap (n.tmod 64) ≤ 63 := by rw [Int.tmod_eq_emod_of_nonneg hn.1, Ev.wrap64]; omega
theorem wordsBack_call (l : List Sp) (n : Int) (hn : 0 ≤ n ∧ n < 256) (h : List UInt8) : CallW env 12 [.lst 3 (sps l), .v (.int .u8 n), .lst 1 (bts h)] (fun r hs => r = .v (.bool true) ∧ hs = []) := by
  have hN := mod64 hn
  obtain ⟨g1, g2⟩ := fit_tbs l (n := IntKind.i64.wrap (n.tmod 64)) (by omega)
  obtain ⟨n1, n2, n3⟩ := fit_norm l (n := IntKind.i64.wrap (n.tmod 64)) (by omega)
  have hX := fit4_call l (IntKind.i64.wrap (n.tmod 64)) (by omega)
  have hO := nof_call (fitO l (IntKind.i64.wrap (n.tmod 64))) (by omega) (by omega)
  generalize fitO l (IntKind.i64.wrap (n.tmod 64)) = F at *
  generalize norm F = M at *
  have hP := wput_ok (l := M) (tbs_small (by omega)) (by omega) n1
  have hf := flat_len M (wPutE_ok n1).2.2.2
  have hB : (encW M).length ≤ 1000 := by
    have := (putN_len (n := M.length) (by omega)).2
    unfold encW; rw [List.length_append]; omega
  have hW : (h.take 200).length ≤ 200 := by rw [List.length_take]; omega
  have hS := same_call M M (by omega)
  rw [decide_eq_true rfl] at hS
  have hT : ∀ X, X = bts (encW M ++ h.take 200) → CallW env 23 [.lst 1 X] (fun r hs => r = .tup [.lst 3 (sps M), .v (.int .i64 (encW M).length), .v (.int .i64 0)] ∧ hs = []) := by
    rintro X rfl
    exact wtake_ok (by rw [List.length_append]; omega) (wTake_put n1 _)
  have hU : ∀ i : Nat, i < (encW M).length → CallW env 23 [.lst 1 (List.take ((i : Int).toNat - 0) (List.drop 0 (bts (encW M))))] (fun r hs => r = .tup [.lst 3 (sps []), .v (.int .i64 0), .v (.int .i64 7)] ∧ hs = []) := by
    intro i hi
    rw [bts_cut, List.drop_zero, Int.toNat_natCast]
    exact wtake_no (by simp only [List.length_take]; omega) (wTake_pre n1 hi)
  have hbl := bts_len (encW M)
  have hbw := bts_len (h.take 200)
  refine Ev.func tabOK [0, 1, 2, 6, 7, 8, 9, 10, 11, 12, 13, 14, 17, 44, 56] 0 Tryd.func12 rfl rfl (by simp [Tryd.ntmps12]) (by rfl) (comp12 _ rfl) (rs := [.tmp 6]) rfl ?_; rw [cc12]; show Ev.Wp _ _ _ _ ⟨[(0, _), (1, _), (2, _)], [], 0⟩
  repeat' (first | (((with_reducible refine Ev.br_pos ?_ ?_); focus (decide)); conv => whnf) | (((with_reducible refine Ev.br_neg ?_ ?_); focus (decide)); conv => whnf) | (((with_reducible refine Ev.c_pos ?_ ?_); focus (decide))) | (((with_reducible refine Ev.c_neg ?_ ?_); focus (decide))) | ((with_reducible first | refine Ev.sided ?_ ?_ | refine Ev.w_put ?_ | refine Ev.w_step ?_ | refine Ev.w_opt ?_); (conv => whnf)) | ((with_reducible refine Ev.chk_k ?_ ?_); rotate_left; (focus first | rfl | (simp only [Ev.nbeq, Bool.and_true, Bool.true_and, Bool.not_false]; done) | ((repeat' (first | exact Ev.nbeq _ | rfl | refine Bool.and_eq_true_iff.2 ⟨?_, ?_⟩)); done)); conv => whnf) | (with_reducible first | refine Ev.c_dec (fun _ => ?_) (fun _ => ?_) | refine Ev.c_not ?_ | refine Ev.c_t ?_ | refine Ev.c_f ?_ | refine Ev.c_br (fun _ => ?_) (fun _ => ?_)) | ((with_reducible refine Ev.br_not ?_); conv => whnf) | (with_reducible first | refine Ev.br_dec (fun _ => ?_) (fun _ => ?_) | refine Ev.br (fun _ => ?_) (fun _ => ?_) | refine Ev.eo_ret ?_ | refine Ev.eo_norm ?_ | refine Ev.t_norm ?_ | refine Ev.k_seq ?_) | ((with_reducible refine Ev.k_reg (hs := []) (tabOK' _ _) (fun Q hQ => ?_)); (simp only [Ev.runE_cons, Ev.runE_nil]); conv => whnf) | (with_reducible refine hQ _ ?_; clear hQ Q) | (with_reducible first | refine Ev.k_cond rfl ?_ | refine Ev.k_skip ?_ | refine Ev.k_block ?_ | refine Ev.k_exit ?_ | refine Ev.k_ret ?_ | refine Ev.t_ret ?_ | refine Ev.t_exit ?_ | refine Ev.b_norm ?_ | refine Ev.b_ret ?_ | refine Ev.b_here ?_ | refine Ev.b_off rfl ?_) | ((with_reducible first | refine Ev.e_ret (fun F hF => ?_) | refine Ev.e_norm (fun F hF => ?_) | refine Ev.eh_ret (fun F hF => ?_) | refine Ev.eh_norm (fun F hF => ?_) | refine Ev.go_k (fun c' => ?_) | refine Ev.byt_cut ?_ | refine Ev.byt_all ?_ | refine Ev.run_cut ?_ | refine Ev.run_all ?_); conv => whnf) | (with_reducible refine hF _ ?_; clear hF F) | (with_reducible refine Ev.u_step ?_) | ((first | refine Ev.call_det (shown14_call) rfl rfl ?_ | refine Ev.call_det (fewOf_call h) rfl rfl ?_ | refine Ev.call_det (hX) rfl rfl ?_ | refine Ev.call_det (hO) rfl rfl ?_ | refine Ev.call_det (hP) rfl rfl ?_); conv => whnf) | ((first | refine Ev.call_det (shown14_call) ?_ rfl ?_ | refine Ev.call_det (fewOf_call h) ?_ rfl ?_ | refine Ev.call_det (hX) ?_ rfl ?_ | refine Ev.call_det (hO) ?_ rfl ?_ | refine Ev.call_det (hP) ?_ rfl ?_); (focus (repeat' (first | with_reducible rfl | refine Ev.cons_eq ?_ ?_)) <;> (first | rfl | (refine Ev.lst_eq (Ev.take_all ?_ rfl); first | omega | (simp; done) | (simp; omega)) | (refine Ev.int_eq ?_; omega) | (simp; done))); conv => whnf) | ((refine Ev.call_det (hT _ (by rw [List.nil_append, ← bts_app, List.drop_zero, List.take_of_length_le (by simp)])) rfl rfl ?_); conv => whnf) | ((refine Ev.el_map0 ?_ (fun hi => ?_)); rotate_left; conv => whnf) | ((refine Ev.el_mapN ?_ (fun hi => ?_)); rotate_left; conv => whnf) | (refine Ev.Side.of ?_; exact Nat.le_of_ble_eq_true rfl) | (refine Ev.Side.of ?_; omega) | (refine Ev.Side.of ?_; simp only [Ev.wrap64]; omega) | (refine Ev.app_one ?_ rfl ?_ (by decide) <;> (first | omega | (simp; done) | (simp; omega))) | (refine Ev.app_nil1 rfl (by decide)) | (refine Ev.app_ys ?_ ?_ ?_ (by decide) <;> (first | omega | exact sps_all _ | exact bts_all _ | exact ints_all _ | exact spss_all _ | (simp; done) | (simp; omega))) | (refine Ev.app_nil ?_ ?_ (by decide) <;> (first | omega | exact sps_all _ | exact bts_all _ | exact ints_all _ | exact spss_all _ | (simp; done) | (simp; omega))) | (refine Ev.Side.of ?_; first | omega | (simp; done) | (simp; omega)))
  refine Ev.loop (fun k s => ∃ i c : Nat, s = ⟨[(7, .v (.bool true)), (8, .lst 3 (sps M)), (9, .lst 1 (bts (encW M))), (10, .v (.int .i64 0)), (11, .lst 3 (sps M)), (12, .v (.int .i64 (encW M).length)), (13, .v (.int .i64 0)), (14, .v (.int .i64 i))], [], c⟩ ∧ k + i = (encW M).length) ?_ ?_
  · (refine Ev.to _ ?hs1 ?hh1 ?hc1 ⟨(encW M).length, 0, ?_, rfl, ?hp1⟩; (case hs1 | hh1 => ((repeat' (first | exact trivial | refine And.intro ?_ ?_)) <;> (refine Ev.slot_eq rfl ?_; first | with_reducible rfl | (refine Ev.int_eq ?_; first | omega | (simp only [Ev.wrap64, Ev.wrap8, Ev.wrap32, Int.toNat_natCast] at *; omega)) | ((first | refine Ev.int_eq ?_ | refine Ev.own_eq ?_ | refine Ev.blk_eq ?_ | skip); first | with_reducible rfl | omega | (first | rfl | (simp; done)) | rfl) | (first | rfl | (simp; done)) | rfl))); (case hc1 => exact Nat.le_refl _))
    rfl
  rintro k s1 ⟨i, c, rfl, hk⟩
  repeat' (first | (((with_reducible refine Ev.br_pos ?_ ?_); focus (decide)); conv => whnf) | (((with_reducible refine Ev.br_neg ?_ ?_); focus (decide)); conv => whnf) | (((with_reducible refine Ev.c_pos ?_ ?_); focus (decide))) | (((with_reducible refine Ev.c_neg ?_ ?_); focus (decide))) | (with_reducible refine Ev.br_pos rfl ?_) | (with_reducible refine Ev.c_pos rfl ?_) | ((with_reducible first | refine Ev.sided ?_ ?_ | refine Ev.w_put ?_ | refine Ev.w_step ?_ | refine Ev.w_opt ?_); (conv => whnf)) | ((with_reducible refine Ev.chk_k ?_ ?_); rotate_left; (focus first | rfl | (simp only [Ev.nbeq, Bool.and_true, Bool.true_and, Bool.not_false]; done) | ((repeat' (first | exact Ev.nbeq _ | rfl | refine Bool.and_eq_true_iff.2 ⟨?_, ?_⟩)); done)); conv => whnf) | (with_reducible first | refine Ev.c_dec (fun _ => ?_) (fun _ => ?_) | refine Ev.c_not ?_ | refine Ev.c_t ?_ | refine Ev.c_f ?_ | refine Ev.c_br (fun _ => ?_) (fun _ => ?_)) | ((with_reducible refine Ev.br_not ?_); conv => whnf) | (with_reducible first | refine Ev.br_dec (fun _ => ?_) (fun _ => ?_) | refine Ev.br (fun _ => ?_) (fun _ => ?_) | refine Ev.eo_ret ?_ | refine Ev.eo_norm ?_ | refine Ev.t_norm ?_ | refine Ev.k_seq ?_) | ((with_reducible refine Ev.k_reg (hs := []) (tabOK' _ _) (fun Q hQ => ?_)); (simp only [Ev.runE_cons, Ev.runE_nil]); conv => whnf) | (with_reducible refine hQ _ ?_; clear hQ Q) | (with_reducible first | refine Ev.k_cond rfl ?_ | refine Ev.k_skip ?_ | refine Ev.k_block ?_ | refine Ev.k_exit ?_ | refine Ev.k_ret ?_ | refine Ev.t_ret ?_ | refine Ev.t_exit ?_ | refine Ev.b_norm ?_ | refine Ev.b_ret ?_ | refine Ev.b_here ?_ | refine Ev.b_off rfl ?_) | ((with_reducible first | refine Ev.e_ret (fun F hF => ?_) | refine Ev.e_norm (fun F hF => ?_) | refine Ev.eh_ret (fun F hF => ?_) | refine Ev.eh_norm (fun F hF => ?_) | refine Ev.go_k (fun c' => ?_) | refine Ev.byt_cut ?_ | refine Ev.byt_all ?_ | refine Ev.run_cut ?_ | refine Ev.run_all ?_); conv => whnf) | (with_reducible refine hF _ ?_; clear hF F) | (with_reducible refine Ev.u_step ?_) | ((first | refine Ev.call_det (hU i (by omega)) rfl rfl ?_ | refine Ev.call_det (hS) rfl rfl ?_); conv => whnf) | ((first | refine Ev.call_det (hU i (by omega)) ?_ rfl ?_ | refine Ev.call_det (hS) ?_ rfl ?_); (focus (repeat' (first | with_reducible rfl | refine Ev.cons_eq ?_ ?_)) <;> (first | rfl | (refine Ev.lst_eq (Ev.take_all ?_ rfl); first | omega | (simp; done) | (simp; omega)) | (refine Ev.int_eq ?_; omega) | (simp; done))); conv => whnf) | ((refine Ev.el_map0 ?_ (fun hi => ?_)); rotate_left; conv => whnf) | ((refine Ev.el_mapN ?_ (fun hi => ?_)); rotate_left; conv => whnf) | (refine Ev.Side.of ?_; exact Nat.le_of_ble_eq_true rfl) | (refine Ev.Side.of ?_; omega) | (refine Ev.Side.of ?_; simp only [Ev.wrap64]; omega) | (refine Ev.app_one ?_ rfl ?_ (by decide) <;> (first | omega | (simp; done) | (simp; omega))) | (refine Ev.app_nil1 rfl (by decide)) | (refine Ev.app_ys ?_ ?_ ?_ (by decide) <;> (first | omega | exact sps_all _ | exact bts_all _ | exact ints_all _ | exact spss_all _ | (simp; done) | (simp; omega))) | (refine Ev.app_nil ?_ ?_ (by decide) <;> (first | omega | exact sps_all _ | exact bts_all _ | exact ints_all _ | exact spss_all _ | (simp; done) | (simp; omega))) | (refine Ev.Side.of ?_; first | omega | (simp; done) | (simp; omega)))
  · (refine Ev.again (k - 1) _ ?hm2 ?hs2 ?hh2 ?hc2 ⟨i + 1, ?_, rfl, ?hp2⟩; (case hs2 | hh2 => ((repeat' (first | exact trivial | refine And.intro ?_ ?_)) <;> (refine Ev.slot_eq rfl ?_; first | with_reducible rfl | (refine Ev.int_eq ?_; first | omega | (simp only [Ev.wrap64, Ev.wrap8, Ev.wrap32, Int.toNat_natCast] at *; omega)) | ((first | refine Ev.int_eq ?_ | refine Ev.own_eq ?_ | refine Ev.blk_eq ?_ | skip); first | with_reducible rfl | omega | (first | exact wrap_succ (by omega) | rfl) | rfl) | (first | exact wrap_succ (by omega) | rfl) | rfl))); (case hc2 => exact Nat.le_refl _); (case hm2 => omega))
    omega
  · exact ⟨rfl, rfl⟩
  · omega
end Go.Proofs.YthdjbgbfboppcaaDoor.Abs

namespace Go.Proofs.YthdjbgbfboppcaaDoor
open Go Go.ChangeShapes Go.WideShapes Go.ChangeAt Go.RowKit
open Go.ChangeMaps (open_string shut_string)
set_option linter.unusedVariables false
theorem wordsBack_list : Rows.wordsBackRow.laid = Rows.wordsTakenRow.laid := by rfl
set_option maxRecDepth 100000 in
theorem wordsBack_lifted (os : Os) (started : os.Started) (H : Type) (enc : TypeId × Value → H) :
    ReturnsInHanded {} Tryd.checked os 12 .any (fun w args => (Rows.wordsBackSpec.pre enc Tryd.prog Tryd.f12 [] false w args ∧ laidMetH Tryd.prog Rows.wordsBackRow.laid w) ∧ sizedMet enc Tryd.prog Tryd.f12 (OpenSpec.ofChange Rows.wordsBackSpec) false w args)
      (Rows.wordsBackSpec.post enc Tryd.prog Tryd.f12 false true false false) := by
  refine returnsInHanded_of_change_and (C := Tryd.checked) (X := fun w _ => laidMetH Tryd.prog Rows.wordsBackRow.laid w) (fun _ _ _ hh h => h.of_heap hh) own started (by kernel_rfl) Tryd.func12
    (ChangeSpec.witness_at (enc := enc) (C := Tryd.checked) (os := os) (X := fun w _ => laidMetH Tryd.prog Rows.wordsBackRow.laid w) false (laidWorld os) #[.slice none 0 0, .int .u8 0, .slice none 0 0] 8 rfl (by kernel_rfl) (by kernel_rfl) (by kernel_rfl) (by kernel_rfl) (by kernel_rfl) (by rw [wordsBack_list]; exact laid_metH os _)) ?_
  intro W base args ds gs before hval0 hW _ _ hL _
  have hval : ∀ (j : Nat) t v, Tryd.f12.params[j]? = some t → args[j]? = some v → Value.okWide Tryd.prog W .any base t v := hval0
  have hW' := hW
  obtain ⟨p, q, hA0, hV, rfl, hfz, hnd⟩ := hW
  have hA : DataW.TrodAll enc Tryd.prog W 0 (fun _ => true) true Tryd.f12.params.toList args.toList ds p := hA0
  rw [Tryd.params12] at hA hval
  obtain ⟨v0, vs0, d0, ds0, p0, q0, hargs, rfl, rfl, h0, r0⟩ := trodAll_cons hA
  obtain ⟨v1, vs1, d1, ds1, p1, q1, rfl, rfl, rfl, h1, r1⟩ := trodAll_cons r0
  obtain ⟨v2, vs2, d2, ds2, p2, q2, rfl, rfl, rfl, h2, r2⟩ := trodAll_cons r1
  obtain ⟨rfl, rfl, rfl⟩ := trodAll_nil r2
  obtain rfl : args = #[v0, v1, v2] := by cases args; simp_all
  obtain ⟨rfl, rfl⟩ := trodVars_none hV
  have w0 := hval 0 25 v0 rfl rfl
  obtain ⟨a0, g0, b0⟩ := (Abs.Opn.one (show Abs.Opn Tryd.prog W 25 _ _ from (Abs.Opn.slice (sz := 3) Tryd.underlying25 (by kernel_rfl) (by decide) (fun _ => rfl) (Abs.Opn.span (Abs.Opn.st3 Tryd.underlying35 (by kernel_rfl) ⟨rfl, rfl, rfl⟩ ⟨by kernel_rfl, by kernel_rfl, by kernel_rfl⟩ (Abs.Opn.int Tryd.underlying3) (Abs.Opn.int Tryd.underlying3) (Abs.Opn.str Tryd.underlying9))))) h0 (Abs.slice_noagg Tryd.underlying25 w0))
  have w1 := hval 1 5 v1 rfl rfl
  obtain ⟨a1, g1, b1⟩ : ∃ a, (Lit.int .u8 a).wf = true ∧ Abs.PRel (Abs.fullM W) (.v (.int .u8 a)) v1 := by
    obtain ⟨n, e, _, _, w⟩ := open_int Tryd.underlying5 w1 h1
    exact ⟨n, w, by rw [e]; exact .v _⟩
  have w2 := hval 2 22 v2 rfl rfl
  obtain ⟨a2, g2, b2⟩ := (Abs.Opn.one (show Abs.Opn Tryd.prog W 22 _ _ from (Abs.Opn.slice (sz := 1) Tryd.underlying22 (by kernel_rfl) (by decide) (fun _ => rfl) (Abs.Opn.byte (Abs.Opn.int Tryd.underlying5)))) h2 (Abs.slice_noagg Tryd.underlying22 w2))
  have hG := globs_of_laid (by rw [wordsBack_list] at hL; exact hL)
  have hC := Abs.wordsBack_call a0 a1 (by have := bounds_u8 g1; omega) a2
  refine (Abs.law_full hC (vs := #[v0, v1, v2]) hG rfl (fun i x v hx hv => ?_)).mono ?_
  · rcases i with _ | _ | _ | i <;> simp at hx hv <;> subst hx <;> subst hv <;> assumption
  rintro e W' ⟨rfl, bel⟩
  exact ⟨_, rfl, _, _, _, [], _, [], hW', trodAll_mk1 (shut_bool Tryd.underlying4 _), trodAll_cons_mk (Below.trod (by kernel_rfl) (by kernel_rfl) (of_decide_eq_true (by kernel_rfl)) h0 bel (let ⟨_, hf⟩ := h0; DataW.trod_lt _ _ _ _ hf)) (trodAll_cons_mk (Below.trod (by kernel_rfl) (by kernel_rfl) (of_decide_eq_true (by kernel_rfl)) h1 bel (let ⟨_, hf⟩ := h1; DataW.trod_lt _ _ _ _ hf)) (trodAll_cons_mk (Below.trod (by kernel_rfl) (by kernel_rfl) (of_decide_eq_true (by kernel_rfl)) h2 bel (let ⟨_, hf⟩ := h2; DataW.trod_lt _ _ _ _ hf)) (trodAll_mk0))), rfl, bel.frame _, fun h => by cases h⟩
theorem wordsBack_holds : Rows.WordsBackSaid :=
  OpenClaim.holds_of_wide 12 Tryd.f12 rfl rfl rfl rfl rfl rfl rfl ⟨rfl, rfl, rfl, rfl, rfl⟩ rfl rfl rfl rfl rfl (by kernel_rfl) Tryd.func12 (by kernel_rfl)
    (of_decide_eq_true (by kernel_rfl)) (by unfold Func.isWrapper; first | (rw [if_pos (by decide +kernel)]; kernel_rfl) | (rw [if_neg (by decide +kernel)]; exact ⟨rfl, rfl⟩))
    (fun os started H enc _ => wordsBack_lifted os started H enc)
theorem wordsBack_card_holds : Rows.WordsBackCardSaid :=
  Claim7.holds_tied_plain_at .later [] [.data, .data, .pinned] true (true, "150321277a3984d84d245d0b5218c155a5808e68a39a0d8efc7b1b6f7c0b0c8a") false
    wordsBack_holds (fun _ h => by cases h) (by kernel_rfl) (fun _ h => by cases h) wordsBack_row_tie rfl ⟨rfl, rfl⟩ (by kernel_rfl) rfl
    (fun f fn hf hfn => by
      obtain rfl : f = 12 := Option.some.inj ((show Tryd.prog.funcNamed "epitome/epitomelaw14.WordsBack" = some 12 by kernel_rfl).symm.trans hf) |>.symm
      obtain rfl : fn = Tryd.f12 := (Option.some.inj (Tryd.func12.symm.trans hfn)).symm
      exact ⟨by kernel_rfl, fun j t ht => by
        rw [Tryd.params12] at ht
        have h3 : t = 5 ∨ t = 22 ∨ t = 25 := by
          rcases j with _ | _ | _ | j <;> simp at ht <;> subst ht <;> simp
        rcases h3 with rfl | rfl | rfl
        · exact (show Tryd.prog.wantsStandIn 5 = false by kernel_rfl)
        · exact (show Tryd.prog.wantsStandIn 22 = false by kernel_rfl)
        · exact (show Tryd.prog.wantsStandIn 25 = false by kernel_rfl)⟩)
    (by kernel_rfl)
end Go.Proofs.YthdjbgbfboppcaaDoor
