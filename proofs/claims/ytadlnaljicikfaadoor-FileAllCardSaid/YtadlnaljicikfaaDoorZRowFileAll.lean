/- FileAll, whatever the input, is true: the row and its tied card. No condition. -/
import Derived.Test.YtadlnaljicikfaaDoorZF8
namespace Go.Proofs.YtadlnaljicikfaaDoor
open Go Go.ChangeShapes Go.WideShapes Go.ChangeAt Go.RowKit
open Go.ChangeMaps (open_string shut_string)
set_option linter.unusedVariables false
theorem fileAll_list : Rows.fileAllRow.laid = Rows.historyKeepsRow.laid := by rfl
set_option maxRecDepth 100000 in
theorem fileAll_lifted (os : Os) (started : os.Started) (H : Type) (enc : TypeId × Value → H) :
    ReturnsInHanded {} Tryd.checked os 6 .any (fun w args => (Rows.fileAllSpec.pre enc Tryd.prog Tryd.f6 [] false w args ∧ laidMetH Tryd.prog Rows.fileAllRow.laid w) ∧ sizedMet enc Tryd.prog Tryd.f6 (OpenSpec.ofChange Rows.fileAllSpec) false w args)
      (Rows.fileAllSpec.post enc Tryd.prog Tryd.f6 false true false false) := by
  refine returnsInHanded_of_change_and (C := Tryd.checked) (X := fun w _ => laidMetH Tryd.prog Rows.fileAllRow.laid w) (fun _ _ _ hh h => h.of_heap hh) own started (by kernel_rfl) Tryd.func6
    (ChangeSpec.witness_at (enc := enc) (C := Tryd.checked) (os := os) (X := fun w _ => laidMetH Tryd.prog Rows.fileAllRow.laid w) false (laidWorld os) #[.agg #[.string ⟨#[]⟩, .slice none 0 0, .slice none 0 0], .slice none 0 0] 8 rfl (by kernel_rfl) (by kernel_rfl) (by kernel_rfl) (by kernel_rfl) (by kernel_rfl) (by rw [fileAll_list]; exact laid_metH os _)) ?_
  intro W base args ds gs before hval0 hW _ _ hL _
  have hval : ∀ (j : Nat) t v, Tryd.f6.params[j]? = some t → args[j]? = some v → Value.okWide Tryd.prog W .any base t v := hval0
  have hW' := hW
  obtain ⟨p, q, hA0, hV, rfl, hfz, hnd⟩ := hW
  have hA : DataW.TrodAll enc Tryd.prog W 0 (fun _ => true) true Tryd.f6.params.toList args.toList ds p := hA0
  rw [Tryd.params6] at hA hval
  obtain ⟨v0, vs0, d0, ds0, p0, q0, hargs, rfl, rfl, h0, r0⟩ := trodAll_cons hA
  obtain ⟨v1, vs1, d1, ds1, p1, q1, rfl, rfl, rfl, h1, r1⟩ := trodAll_cons r0
  obtain ⟨rfl, rfl, rfl⟩ := trodAll_nil r1
  obtain rfl : args = #[v0, v1] := by cases args; simp_all
  obtain ⟨rfl, rfl⟩ := trodVars_none hV
  have w0 := hval 0 27 v0 rfl rfl
  obtain ⟨a0, g0, b0⟩ := (Abs.Opn.agg (show Abs.Opn Tryd.prog W 27 _ _ from (Abs.Opn.st3 Tryd.underlying27 (by kernel_rfl) ⟨rfl, rfl, rfl⟩ ⟨by kernel_rfl, by kernel_rfl, by kernel_rfl⟩ (Abs.Opn.str Tryd.underlying9) (Abs.Opn.slice (sz := 1) Tryd.underlying25 (by kernel_rfl) (by decide) (fun _ => rfl) (Abs.Opn.int Tryd.underlying3)) (Abs.Opn.slice (sz := 1) Tryd.underlying22 (by kernel_rfl) (by decide) (fun _ => rfl) (Abs.Opn.slice (sz := 3) Tryd.underlying23 (by kernel_rfl) (by decide) (fun _ => rfl) (Abs.Opn.span (Abs.Opn.st3 Tryd.underlying35 (by kernel_rfl) ⟨rfl, rfl, rfl⟩ ⟨by kernel_rfl, by kernel_rfl, by kernel_rfl⟩ (Abs.Opn.int Tryd.underlying3) (Abs.Opn.int Tryd.underlying3) (Abs.Opn.str Tryd.underlying9))))))) h0 (Abs.struct_agg Tryd.underlying27 w0))
  have w1 := hval 1 56 v1 rfl rfl
  obtain ⟨a1, g1, b1⟩ := (Abs.Opn.one (show Abs.Opn Tryd.prog W 56 _ _ from (Abs.Opn.slice (sz := 1) Tryd.underlying56 (by kernel_rfl) (by decide) (fun _ => rfl) (Abs.Opn.byte (Abs.Opn.int Tryd.underlying5)))) h1 (Abs.slice_noagg Tryd.underlying56 w1))
  have hG := globs_of_laid (by rw [fileAll_list] at hL; exact hL)
  have hC := Abs.fileAll_call ⟨a0.1, a0.2.1, a0.2.2⟩ a1
  refine (Abs.law_full hC (vs := #[v0, v1]) hG rfl (fun i x v hx hv => ?_)).mono ?_
  · rcases i with _ | _ | i <;> simp at hx hv <;> subst hx <;> subst hv <;> assumption
  rintro e W' ⟨rfl, bel⟩
  exact ⟨_, rfl, _, _, _, [], _, [], hW', trodAll_mk1 (shut_bool Tryd.underlying4 _), trodAll_cons_mk (Below.trod (by kernel_rfl) (by kernel_rfl) (of_decide_eq_true (by kernel_rfl)) h0 bel (let ⟨_, hf⟩ := h0; DataW.trod_lt _ _ _ _ hf)) (trodAll_cons_mk (Below.trod (by kernel_rfl) (by kernel_rfl) (of_decide_eq_true (by kernel_rfl)) h1 bel (let ⟨_, hf⟩ := h1; DataW.trod_lt _ _ _ _ hf)) (trodAll_mk0)), rfl, bel.frame _, fun h => by cases h⟩
theorem fileAll_closed : joinedFacts Tryd.checked.prog 6 Tryd.f6 Rows.fileAllSpec Rows.fileAllRow = true := by
  unfold joinedFacts; rw [prog_enter, prog_lifts, prog_make]; kernel_rfl
theorem fileAll_holds : Rows.FileAllSaid :=
  OpenClaim.holds_of_wide 6 Tryd.f6 rfl rfl rfl rfl rfl rfl rfl ⟨rfl, rfl, rfl, rfl, rfl⟩ rfl rfl rfl rfl rfl (by kernel_rfl) Tryd.func6 fileAll_closed
    (of_decide_eq_true (by kernel_rfl)) (by unfold Func.isWrapper; first | (rw [if_pos (by decide +kernel)]; kernel_rfl) | (rw [if_neg (by decide +kernel)]; exact ⟨rfl, rfl⟩))
    (fun os started H enc _ => fileAll_lifted os started H enc)
theorem fileAll_card_holds : Rows.FileAllCardSaid :=
  Claim7.holds_tied_plain_at .later [] [.data, .data, .pinned] true (true, "8cfac6e2e416323f8e197ee86058fe9ea384c7c01e00caf80bac7b31fc9ad4bf") false
    fileAll_holds (fun _ h => by cases h) (by kernel_rfl) (fun _ h => by cases h) fileAll_row_tie rfl ⟨rfl, rfl⟩ prog_main rfl
    (fun f fn hf hfn => by
      obtain rfl : f = 6 := Option.some.inj ((show Tryd.prog.funcNamed "epitome/epitomelaw21.FileAll" = some 6 by kernel_rfl).symm.trans hf) |>.symm
      obtain rfl : fn = Tryd.f6 := (Option.some.inj (Tryd.func6.symm.trans hfn)).symm
      exact ⟨by kernel_rfl, fun j t ht => by
        rw [Tryd.params6] at ht
        have h3 : t = 27 ∨ t = 56 := by
          rcases j with _ | _ | j <;> simp at ht <;> subst ht <;> simp
        rcases h3 with rfl | rfl
        · exact (show Tryd.prog.wantsStandIn 27 = false by kernel_rfl)
        · exact (show Tryd.prog.wantsStandIn 56 = false by kernel_rfl)⟩)
    (by kernel_rfl)
end Go.Proofs.YtadlnaljicikfaaDoor
