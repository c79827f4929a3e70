/- Contracts that the library's shelf gives, told as ours. -/
import Derived.Test.YtdgpilapblipbaaDoorFnV
namespace Go.Proofs.YtdgpilapblipbaaDoor.Abs
open Go
set_option maxRecDepth 100000
set_option linter.unusedSimpArgs false
set_option linter.unusedVariables false
attribute [local irreducible] Ev.FinL Ev.brC Ev.Side Ev.Wp Ev.Again Ev.To Ev.Fin
open Go.Lib Go.RowKit
theorem heap_lt {w : World} {b o : Nat} {u : Value} (h : w.cell? ⟨b, o, none⟩ = some u) : b < w.heap.size := by
  unfold World.cell? at h
  rcases Nat.lt_or_ge b w.heap.size with h' | h'
  · exact h'
  · simp [Array.getElem?_eq_none h'] at h
theorem scal {f : FuncId} {x y : Value} (h : ∀ w : World, (∀ g cs j z, env.G g = some cs → cs[j]? = some (.v z) → w.cell? ⟨g, j, none⟩ = some z) →
    (callFunc f #[x]).run env.P w = .ok (.enter f #[x]) w ∧ Calls env.P f #[x] w fun e w' => e = .returned y ∧ Below w.heap.size w w') : CallW env f [.v x] (fun r hs => r = .v y ∧ hs = []) := by
  intro M w vs hm hg hn hr
  have hv : vs = #[x] := by
    apply Array.ext_getElem?
    intro i
    rcases Nat.lt_or_ge i vs.size with hi | hi
    · have : i = 0 := by simp at hn; omega
      subst this
      have := hr 0 (.v x) vs[0] rfl (Array.getElem?_eq_getElem hi)
      cases this
      rw [Array.getElem?_eq_getElem hi]; rfl
    · rw [Array.getElem?_eq_none hi, Array.getElem?_eq_none (by simp at hn ⊢; omega)]
  subst hv
  obtain ⟨a, b⟩ := h w (fun g cs j z h1 h2 => by
    have hp := hg g cs h1
    cases hp with
    | rptr u hM hc =>
      have hz := hc j _ h2
      have h3 := hM j _ h2
      rw [Nat.zero_add] at h3
      rw [(hm _ _ _ h3).1]
      cases hz; rfl)
  refine ⟨a, b.mono ?_⟩
  rintro e w' ⟨rfl, hb⟩
  refine ⟨y, _, [], M, fun _ => none, rfl, ⟨rfl, rfl⟩, ⟨hb, fun b o u hu => ?_, fun _ _ _ h => .inl h, fun _ _ _ h => h, hg, fun t x h => by simp [get_nil] at h, fun r k h => by simp [heapOf, get_nil] at h,
    fun r r' k k' L L' h => by simp [heapOf, get_nil] at h, fun r k L o u h => by simp [heapOf, get_nil] at h, fun r L h => by simp at h⟩, .pure (.v _)⟩
  obtain ⟨h1, h2⟩ := hm b o u hu
  exact ⟨by rw [hb.cell (heap_lt h1)]; exact h1, h2⟩
end Go.Proofs.YtdgpilapblipbaaDoor.Abs
