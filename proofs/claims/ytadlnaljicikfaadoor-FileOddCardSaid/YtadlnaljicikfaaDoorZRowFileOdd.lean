/- FileOdd, whatever the input, is true: the row and its tied card. No condition. -/
import Derived.Test.YtadlnaljicikfaaDoorZQ10
namespace Go.Proofs.YtadlnaljicikfaaDoor
open Go Go.ChangeShapes Go.WideShapes Go.ChangeAt Go.RowKit
open Go.ChangeMaps (open_string shut_string)
set_option linter.unusedVariables false
theorem fileOdd_list : Rows.fileOddRow.laid = Rows.historyKeepsRow.laid := by rfl
set_option maxRecDepth 100000 in
theorem fileOdd_lifted (os : Os) (started : os.Started) (H : Type) (enc : TypeId × Value → H) :
    ReturnsInHanded {} Tryd.checked os 10 .any (fun w args => (Rows.fileOddSpec.pre enc Tryd.prog Tryd.f10 [] false w args ∧ laidMetH Tryd.prog Rows.fileOddRow.laid w) ∧ sizedMet enc Tryd.prog Tryd.f10 (OpenSpec.ofChange Rows.fileOddSpec) false w args)
      (Rows.fileOddSpec.post enc Tryd.prog Tryd.f10 false true false false) := by
  refine returnsInHanded_of_change_and (C := Tryd.checked) (X := fun w _ => laidMetH Tryd.prog Rows.fileOddRow.laid w) (fun _ _ _ hh h => h.of_heap hh) own started (by kernel_rfl) Tryd.func10
    (ChangeSpec.witness_at (enc := enc) (C := Tryd.checked) (os := os) (X := fun w _ => laidMetH Tryd.prog Rows.fileOddRow.laid w) false (laidWorld os) #[.string ⟨#[]⟩, .slice none 0 0, .agg #[.int .u8 0, .int .u8 0]] 8 rfl (by kernel_rfl) (by kernel_rfl) (by kernel_rfl) (by kernel_rfl) (by kernel_rfl) (by rw [fileOdd_list]; exact laid_metH os _)) ?_
  intro W base args ds gs before hval0 hW _ _ hL _
  have hval : ∀ (j : Nat) t v, Tryd.f10.params[j]? = some t → args[j]? = some v → Value.okWide Tryd.prog W .any base t v := hval0
  have hW' := hW
  obtain ⟨p, q, hA0, hV, rfl, hfz, hnd⟩ := hW
  have hA : DataW.TrodAll enc Tryd.prog W 0 (fun _ => true) true Tryd.f10.params.toList args.toList ds p := hA0
  rw [Tryd.params10] at hA hval
  obtain ⟨v0, vs0, d0, ds0, p0, q0, hargs, rfl, rfl, h0, r0⟩ := trodAll_cons hA
  obtain ⟨v1, vs1, d1, ds1, p1, q1, rfl, rfl, rfl, h1, r1⟩ := trodAll_cons r0
  obtain ⟨v2, vs2, d2, ds2, p2, q2, rfl, rfl, rfl, h2, r2⟩ := trodAll_cons r1
  obtain ⟨rfl, rfl, rfl⟩ := trodAll_nil r2
  obtain rfl : args = #[v0, v1, v2] := by cases args; simp_all
  obtain ⟨rfl, rfl⟩ := trodVars_none hV
  have w0 := hval 0 9 v0 rfl rfl
  obtain ⟨a0, g0, b0⟩ : ∃ a : ByteArray, a.size ≤ maxLen ∧ Abs.PRel (Abs.fullM W) (.v (.string a)) v0 := by
    obtain ⟨n, e, _, _, w⟩ := open_string Tryd.underlying9 w0 h0
    exact ⟨n, w, by rw [e]; exact .v _⟩
  have w1 := hval 1 22 v1 rfl rfl
  obtain ⟨a1, g1, b1⟩ := (Abs.Opn.one (show Abs.Opn Tryd.prog W 22 _ _ from (Abs.Opn.slice (sz := 1) Tryd.underlying22 (by kernel_rfl) (by decide) (fun _ => rfl) (Abs.Opn.slice (sz := 3) Tryd.underlying23 (by kernel_rfl) (by decide) (fun _ => rfl) (Abs.Opn.span (Abs.Opn.st3 Tryd.underlying35 (by kernel_rfl) ⟨rfl, rfl, rfl⟩ ⟨by kernel_rfl, by kernel_rfl, by kernel_rfl⟩ (Abs.Opn.int Tryd.underlying3) (Abs.Opn.int Tryd.underlying3) (Abs.Opn.str Tryd.underlying9)))))) h1 (Abs.slice_noagg Tryd.underlying22 w1))
  have w2 := hval 2 71 v2 rfl rfl
  obtain ⟨a2, g2, b2⟩ := (Abs.Opn.agg (show Abs.Opn Tryd.prog W 71 _ _ from (Abs.Opn.arr Tryd.underlying71 (by kernel_rfl) (by kernel_rfl) (Abs.Opn.int Tryd.underlying5))) h2 (Abs.array_agg Tryd.underlying71 w2))
  have hG := globs_of_laid (by rw [fileOdd_list] at hL; exact hL)
  obtain ⟨x, y, rfl⟩ : ∃ x y : Int, a2 = [x, y] := by
    have hl := g2.1
    rcases a2 with _ | ⟨x, _ | ⟨y, _ | ⟨z, l⟩⟩⟩ <;> simp at hl
    exact ⟨_, _, rfl⟩
  have hC := Abs.fileOdd_call a0 a1 x y (by have := bounds_u8 (g2.2 x (by simp)); omega) (by have := bounds_u8 (g2.2 y (by simp)); omega)
  refine (Abs.law_full hC (vs := #[v0, v1, v2]) hG rfl (fun i x v hx hv => ?_)).mono ?_
  · rcases i with _ | _ | _ | i <;> simp at hx hv <;> subst hx <;> subst hv <;> assumption
  rintro e W' ⟨rfl, bel⟩
  exact ⟨_, rfl, _, _, _, [], _, [], hW', trodAll_mk1 (shut_bool Tryd.underlying4 _), trodAll_cons_mk (Below.trod (by kernel_rfl) (by kernel_rfl) (of_decide_eq_true (by kernel_rfl)) h0 bel (let ⟨_, hf⟩ := h0; DataW.trod_lt _ _ _ _ hf)) (trodAll_cons_mk (Below.trod (by kernel_rfl) (by kernel_rfl) (of_decide_eq_true (by kernel_rfl)) h1 bel (let ⟨_, hf⟩ := h1; DataW.trod_lt _ _ _ _ hf)) (trodAll_cons_mk (Below.trod (by kernel_rfl) (by kernel_rfl) (of_decide_eq_true (by kernel_rfl)) h2 bel (let ⟨_, hf⟩ := h2; DataW.trod_lt _ _ _ _ hf)) (trodAll_mk0))), rfl, bel.frame _, fun h => by cases h⟩
theorem fileOdd_closed : joinedFacts Tryd.checked.prog 10 Tryd.f10 Rows.fileOddSpec Rows.fileOddRow = true := by
  unfold joinedFacts; rw [prog_enter, prog_lifts, prog_make]; kernel_rfl
theorem fileOdd_holds : Rows.FileOddSaid :=
  OpenClaim.holds_of_wide 10 Tryd.f10 rfl rfl rfl rfl rfl rfl rfl ⟨rfl, rfl, rfl, rfl, rfl⟩ rfl rfl rfl rfl rfl (by kernel_rfl) Tryd.func10 fileOdd_closed
    (of_decide_eq_true (by kernel_rfl)) (by unfold Func.isWrapper; first | (rw [if_pos (by decide +kernel)]; kernel_rfl) | (rw [if_neg (by decide +kernel)]; exact ⟨rfl, rfl⟩))
    (fun os started H enc _ => fileOdd_lifted os started H enc)
theorem fileOdd_card_holds : Rows.FileOddCardSaid :=
  Claim7.holds_tied_plain_at .later [] [.data, .data, .pinned] true (true, "8cfac6e2e416323f8e197ee86058fe9ea384c7c01e00caf80bac7b31fc9ad4bf") false
    fileOdd_holds (fun _ h => by cases h) (by kernel_rfl) (fun _ h => by cases h) fileOdd_row_tie rfl ⟨rfl, rfl⟩ prog_main rfl
    (fun f fn hf hfn => by
      obtain rfl : f = 10 := Option.some.inj ((show Tryd.prog.funcNamed "epitome/epitomelaw21.FileOdd" = some 10 by kernel_rfl).symm.trans hf) |>.symm
      obtain rfl : fn = Tryd.f10 := (Option.some.inj (Tryd.func10.symm.trans hfn)).symm
      exact ⟨by kernel_rfl, fun j t ht => by
        rw [Tryd.params10] at ht
        have h3 : t = 9 ∨ t = 22 ∨ t = 71 := by
          rcases j with _ | _ | _ | j <;> simp at ht <;> subst ht <;> simp
        rcases h3 with rfl | rfl | rfl
        · exact (show Tryd.prog.wantsStandIn 9 = false by kernel_rfl)
        · exact (show Tryd.prog.wantsStandIn 22 = false by kernel_rfl)
        · exact (show Tryd.prog.wantsStandIn 71 = false by kernel_rfl)⟩)
    (by kernel_rfl)
end Go.Proofs.YtadlnaljicikfaaDoor
