/- SpanAll, whatever the input, is true: the row and its tied card. No condition. -/
import Derived.Test.YtdgpilapblipbaaDoorRowA
import Derived.Test.YtdgpilapblipbaaDoorTie
import Derived.Test.YtdgpilapblipbaaDoorCards
import Derived.Handed
import Derived.SevenTiedAt
import Derived.JoinedOf
namespace Go.Proofs.YtdgpilapblipbaaDoor
open Go Go.ChangeShapes Go.WideShapes Go.ChangeAt Go.RowKit
open Go.ChangeMaps (open_string shut_string)
set_option linter.unusedVariables false
theorem own : ownKnob Tryd.prog.godebug = none := by kernel_rfl
/-- A world in which the listed variables hold what is listed. -/
noncomputable def laidWorld (os : Os) : World :=
  let w0 := World.holding Tryd.prog os ⟨#[], #[], []⟩
  let put (h : Array Obj) (g : Nat) (cs : Array Value) : Array Obj := h.modify g fun
    | .cells _ t frozen => .cells cs t frozen
    | o => o
  let h1 := put w0.heap 0 #[.bool false, .bool false, .bool true, .bool true, .bool false, .bool false, .bool true, .bool false]
  let h2 := put h1 1 (Lib.firstTab.map fun z => Value.int .u8 z).toArray
  let h3 := put h2 2 ((List.range 16).flatMap fun i => [Value.int .u8 (Lib.accLo i), Value.int .u8 (Lib.accHi i)]).toArray
  { w0 with heap := h3 }
theorem laid_list : Rows.spanAllRow.laid = [("unicode/utf8.acceptRanges", Lib.acceptData), ("epitome/span.kinds", Abs.kindsData), ("unicode/utf8.first", Lib.firstData)] := by kernel_rfl
theorem laid_met (os : Os) (args : Array Value) : laidMet Tryd.prog Rows.spanAllRow.laid ((laidWorld os).forCall (fun _ _ => 0) ⟨#[], args, []⟩).memory := by
  rw [laid_list]
  exact (LaidIn.of_run (l := [("unicode/utf8.acceptRanges", Lib.acceptData), ("epitome/span.kinds", Abs.kindsData), ("unicode/utf8.first", Lib.firstData)]) [0, 1, 2] 8 (by kernel_rfl) (by kernel_rfl) (by kernel_rfl) (by kernel_rfl)).met
theorem metH {P : Program} {l : List (String × DataW Unit)} {w : World} (h : (l.filter fun x => x.2.handleName?.isSome) = []) (hm : laidMet P l w) : laidMetH P l w := by
  unfold laidMetH; rw [h]; exact hm
theorem metH' {P : Program} {l : List (String × DataW Unit)} {w : World} (h : (l.filter fun x => x.2.handleName?.isSome) = []) (hm : laidMetH P l w) : laidMet P l w := by
  unfold laidMetH at hm; rw [h] at hm; exact hm
theorem laid_metH (os : Os) (args : Array Value) : laidMetH Tryd.prog Rows.spanAllRow.laid ((laidWorld os).forCall (fun _ _ => 0) ⟨#[], args, []⟩).memory := metH (by kernel_rfl) (laid_met os args)
theorem globs_of_laid {w : World} (h : laidMetH Tryd.prog Rows.spanAllRow.laid w) : Abs.Globs w := by
  have h0 : laidMet Tryd.prog Rows.spanAllRow.laid w := metH' (by kernel_rfl) h
  rw [laid_list] at h0
  have h' := h0
  exact Abs.globs_of (Lib.laidMet.reads h' (.tail _ (.head _))) (Lib.laidMet.reads h' (.tail _ (.tail _ (.head _)))) (Lib.laidMet.reads h' (.head _))
set_option maxRecDepth 100000 in
theorem spanAll_lifted (os : Os) (started : os.Started) (H : Type) (enc : TypeId × Value → H) :
    ReturnsInHanded {} Tryd.checked os 3 .any (fun w args => (Rows.spanAllSpec.pre enc Tryd.prog Tryd.f3 [] false w args ∧ laidMetH Tryd.prog Rows.spanAllRow.laid w) ∧ sizedMet enc Tryd.prog Tryd.f3 (OpenSpec.ofChange Rows.spanAllSpec) false w args)
      (Rows.spanAllSpec.post enc Tryd.prog Tryd.f3 false true false false) := by
  refine returnsInHanded_of_change_and (C := Tryd.checked) (X := fun w _ => laidMetH Tryd.prog Rows.spanAllRow.laid w) (fun _ _ _ hh h => h.of_heap hh) own started (by kernel_rfl) Tryd.func3
    (ChangeSpec.witness_at (enc := enc) (C := Tryd.checked) (os := os) (X := fun w _ => laidMetH Tryd.prog Rows.spanAllRow.laid w) false (laidWorld os) #[.agg #[.int .i64 0, .int .i64 0, .string ⟨#[]⟩]] 8 rfl (by kernel_rfl) (by kernel_rfl) (by kernel_rfl) (by kernel_rfl) (by kernel_rfl) (laid_metH os _)) ?_
  intro W base args ds gs before hval0 hW _ _ hL _
  have hval : ∀ (j : Nat) t v, Tryd.f3.params[j]? = some t → args[j]? = some v → Value.okWide Tryd.prog W .any base t v := hval0
  have hW' := hW
  obtain ⟨p, q, hA0, hV, rfl, hfz, hnd⟩ := hW
  have hA : DataW.TrodAll enc Tryd.prog W 0 (fun _ => true) true Tryd.f3.params.toList args.toList ds p := hA0
  rw [Tryd.params3] at hA hval
  obtain ⟨v0, d0, rfl, rfl, h0⟩ := trodAll_one hA
  obtain ⟨rfl, rfl⟩ := trodVars_none hV
  have c23 : Tryd.prog.cellsOf 23 = 3 := by kernel_rfl
  obtain ⟨c0, c1, c2, y0, y1, y2, m, rfl, rfl, rfl, hy0, hy1, hy2⟩ := Joins.open_agg3 Tryd.underlying23 (by kernel_rfl) c23 (hval 0 23 v0 rfl rfl) h0
  obtain ⟨k, e0, rfl, wk⟩ := DataW.trod_int Tryd.underlying3 hy0
  obtain ⟨n, e1, rfl, wn⟩ := DataW.trod_int Tryd.underlying3 hy1
  obtain ⟨t, e2, rfl, wt⟩ := DataW.trod_string Tryd.underlying9 hy2
  simp at e0 e1 e2
  subst e0 e1 e2
  have hG := globs_of_laid hL
  have structReads : ∀ (W' : World) (sp : Nat → Bool), DataW.Trod enc Tryd.prog W' 0 sp true 23 (.agg #[.int .i64 k, .int .i64 n, .string t]) (.agg [.lit (.int .i64 k), .lit (.int .i64 n), .lit (.string t.data.toList)]) [] := fun W' sp =>
    Joins.shut_agg3 (y0 := (.lit (.int .i64 k), [])) (y1 := (.lit (.int .i64 n), [])) (y2 := (.lit (.string t.data.toList), [])) Tryd.underlying23 (by kernel_rfl) c23 ⟨1, by simp [DataW.trod, Tryd.underlying3, wk]⟩ ⟨1, by simp [DataW.trod, Tryd.underlying3, wn]⟩ ⟨1, by simp [DataW.trod, Tryd.underlying9, wt]⟩
  refine (Abs.law_calls (Abs.spanAll_call k n t) (vs := #[.agg #[.int .i64 k, .int .i64 n, .string t]]) hG rfl (fun i x v hx hv => ?_)).mono ?_
  · cases i with
    | zero =>
      simp at hx hv; subst hx; subst hv
      refine .agg rfl (fun i v hv => ?_) (fun i c v hc hv => ?_)
      · rcases i with _ | _ | _ | i <;> simp at hv <;> subst hv <;> rfl
      · rcases i with _ | _ | _ | i <;> simp at hc hv <;> subst hc <;> subst hv <;> exact .v _
    | succ i => simp at hx
  rintro e W' ⟨rfl, bel⟩
  have e1 : Rows.spanAllSpec.fn H ([.agg [.lit (.int .i64 k), .lit (.int .i64 n), .lit (.string t.data.toList)]] ++ []) = { results := [.lit (.bool true)], args := [.agg [.lit (.int .i64 k), .lit (.int .i64 n), .lit (.string t.data.toList)]] } := rfl
  refine ⟨_, rfl, _, _, _, [], [], [], hW', ?_, ?_, ?_, bel.frame _, fun h => by cases h⟩
  · rw [e1]; exact trodAll_mk1 (shut_bool Tryd.underlying4 _)
  · rw [e1]; exact trodAll_mk1 (structReads _ _)
  · rw [e1]; rfl
theorem spanAll_holds : Rows.SpanAllSaid :=
  OpenClaim.holds_of_wide 3 Tryd.f3 rfl rfl rfl rfl rfl rfl rfl ⟨rfl, rfl, rfl, rfl, rfl⟩ rfl rfl rfl rfl rfl (by kernel_rfl) Tryd.func3 (by kernel_rfl)
    (of_decide_eq_true (by kernel_rfl)) (by unfold Func.isWrapper; first | (rw [if_pos (by decide +kernel)]; kernel_rfl) | (rw [if_neg (by decide +kernel)]; exact ⟨rfl, rfl⟩))
    (fun os started H enc _ => spanAll_lifted os started H enc)
theorem spanAll_card_holds : Rows.SpanAllCardSaid :=
  Claim7.holds_tied_plain_at .later [] [.data, .data, .pinned] true (true, "b7533793832ab39c3d6065818df8c9745e3ddfad514377279559982d1aac5b0d") false
    spanAll_holds (fun _ h => by cases h) (by kernel_rfl) (fun _ h => by cases h) spanAll_row_tie rfl ⟨rfl, rfl⟩ (by kernel_rfl) rfl
    (fun f fn hf hfn => by
      obtain rfl : f = 3 := Option.some.inj ((show Tryd.prog.funcNamed "epitome/epitomelaw03.SpanAll" = some 3 by kernel_rfl).symm.trans hf) |>.symm
      obtain rfl : fn = Tryd.f3 := (Option.some.inj (Tryd.func3.symm.trans hfn)).symm
      exact ⟨by kernel_rfl, fun j t ht => by
        rw [Tryd.params3] at ht
        have h3 : t = 23 := by
          rcases j with _ | j
          · simpa using ht.symm
          · simp at ht
        subst h3
        exact (show Tryd.prog.wantsStandIn 23 = false by kernel_rfl)⟩)
    (by kernel_rfl)
#print axioms spanAll_card_holds
end Go.Proofs.YtdgpilapblipbaaDoor
