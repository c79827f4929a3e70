/- A calculus over values: rows and variables are written, and rows grow. -/
import Derived.Test.YtdgpilapblipbaaDoorAbsConv
namespace Go.Proofs.YtdgpilapblipbaaDoor.Abs
open Go Go.RowKit
set_option linter.unusedVariables false
set_option linter.unusedSimpArgs false

section
variable {E : Env} {M0 : Mem} {w0 : World} {c : Nat} {M : Mem} {J : Locs} {s : St} {tm : Array Value} {w : World}

/-- A row, or a variable, is another one now. -/
theorem Inv.replace (inv : Inv E M0 w0 c M J s tm w) {r : Nat} {k : Blk} {L : Loc} {C : Array Value} (hk : get s.hp r = some k) (hL : J k.ver = some L) (ok : BlkOK M J w L k C)
    {w' : World} (hos : w'.os = w.os) (htape : w'.tape = w.tape) (hout : w'.output = w.output) (hsize : w.heap.size ≤ w'.heap.size)
    (hblk : ∀ b, b < w.heap.size → (L.nil = false → b ≠ L.b) → w'.heap[b]? = w.heap[b]?)
    (hM : L.nil = false → ∀ o, o < k.frz * k.sz → w'.cell? ⟨L.b, o, none⟩ = w.cell? ⟨L.b, o, none⟩)
    {k' : Blk} {L' : Loc} {J' : Locs} {C' : Array Value} {c' : Nat} (hJ : SubJ J J') (hJ' : J' k'.ver = some L') (hc' : ∀ r L, J' r = some L → r < c') (ok' : BlkOK M J' w' L' k' C')
    (hL' : L'.nil = false → (L.nil = false ∧ L'.b = L.b ∧ k.frz * k.sz ≤ k'.frz * k'.sz) ∨ w.heap.size ≤ L'.b) :
    Inv E M0 w0 c' M J' { s with hp := set s.hp r k' } tm w' := by
  have hgs : ∀ r', get (set s.hp r k') r' = if r' = r then some k' else get s.hp r' := fun r' => get_set _ _ _ _ _ hk
  obtain ⟨L1, C1, e1, hb1, ok1⟩ := inv.heap r k hk
  rw [hL] at e1; obtain rfl := Option.some.inj e1
  have hlt : ∀ b o u, M b o = some u → b < w.heap.size := fun b o u h => World.block_lt_of_cell? w _ (inv.mem b o u h).1
  have cellEq : ∀ b o u, M b o = some u → w'.cell? ⟨b, o, none⟩ = w.cell? ⟨b, o, none⟩ := by
    intro b o u h
    by_cases hb : L.nil = false ∧ b = L.b
    · obtain ⟨hn, rfl⟩ := hb
      exact hM hn o (inv.owns r k L o u hk hL hn h)
    · exact World.cell?_of_block (a := ⟨b, o, none⟩) (hblk b (hlt b o u h) (fun hn e => hb ⟨hn, e⟩))
  refine ⟨?_, fun b o u h => ⟨by rw [cellEq b o u h]; exact (inv.mem b o u h).1, (inv.mem b o u h).2⟩, inv.newM, inv.oldM, inv.glob, ?_, ?_, ?_, ?_, hc'⟩
  · refine inv.below.trans ⟨hos, htape, hout, hsize, fun b hb => ?_⟩
    have := inv.below.size
    exact hblk b (by omega) (fun hn e => by have := hb1 hn; omega)
  · intro t x hx
    obtain ⟨v, h1, h2⟩ := inv.slot t x hx
    exact ⟨v, h1, h2.mono (Sub.refl M) hJ⟩
  · intro r' q hq
    rw [hgs] at hq
    split at hq
    · obtain rfl := Option.some.inj hq
      refine ⟨L', C', hJ', fun hn => ?_, ok'⟩
      rcases hL' hn with ⟨h1, h2, _⟩ | h
      · rw [h2]; exact hb1 h1
      · have := inv.below.size; omega
    · rename_i hr
      obtain ⟨L2, C2, e2, hb2, ok2⟩ := inv.heap r' q hq
      exact ⟨L2, C2, hJ _ _ e2, hb2, (ok2.mono (Sub.refl M) hJ).world fun hn => hblk _ (lt_of_blk ok2 hn) fun hn' e => inv.apart r' r q k L2 L hq hk e2 hL hn hn' hr e⟩
  · have side : ∀ r2 q2 L2, r2 ≠ r → get s.hp r2 = some q2 → J' q2.ver = some L2 → L2.nil = false → L'.nil = false → L'.b ≠ L2.b := by
      intro r2 q2 L2 hne hq2 hL2 hn2 hn'
      obtain ⟨L3, C3, e3, _, ok3⟩ := inv.heap r2 q2 hq2
      rw [hJ _ _ e3] at hL2; obtain rfl := Option.some.inj hL2
      rcases hL' hn' with ⟨h1, h2, _⟩ | h
      · rw [h2]; exact fun e => inv.apart r r2 k q2 L L3 hk hq2 hL e3 h1 hn2 (fun e => hne e.symm) e
      · have := lt_of_blk ok3 hn2; omega
    intro r1 r2 q1 q2 L1 L2 h1 h2 hL1 hL2 hn1 hn2 hne
    rw [hgs] at h1 h2
    split at h1
    · rename_i e; subst e
      obtain rfl := Option.some.inj h1
      rw [hJ'] at hL1; obtain rfl := Option.some.inj hL1
      rw [if_neg (fun e => hne e.symm)] at h2
      exact side r2 q2 L2 (fun e => hne e.symm) h2 hL2 hn2 hn1
    · rename_i hr1
      split at h2
      · rename_i e; subst e
        obtain rfl := Option.some.inj h2
        rw [hJ'] at hL2; obtain rfl := Option.some.inj hL2
        exact fun e => side r1 q1 L1 hr1 h1 hL1 hn1 hn2 e.symm
      · obtain ⟨L3, C3, e3, _, ok3⟩ := inv.heap r1 q1 h1
        obtain ⟨L4, C4, e4, _, ok4⟩ := inv.heap r2 q2 h2
        rw [hJ _ _ e3] at hL1; obtain rfl := Option.some.inj hL1
        rw [hJ _ _ e4] at hL2; obtain rfl := Option.some.inj hL2
        exact inv.apart r1 r2 q1 q2 L3 L4 h1 h2 e3 e4 hn1 hn2 hne
  · intro r' q L2 o u hq hL2 hn2 hu
    rw [hgs] at hq
    split at hq
    · obtain rfl := Option.some.inj hq
      rw [hJ'] at hL2; obtain rfl := Option.some.inj hL2
      rcases hL' hn2 with ⟨h1, h2, h3⟩ | h
      · rw [h2] at hu
        exact Nat.lt_of_lt_of_le (inv.owns r k L o u hk hL h1 hu) h3
      · have := hlt _ _ _ hu; omega
    · obtain ⟨L3, C3, e3, _, ok3⟩ := inv.heap r' q hq
      rw [hJ _ _ e3] at hL2; obtain rfl := Option.some.inj hL2
      exact inv.owns r' q L3 o u hq e3 hn2 hu
end
end Go.Proofs.YtdgpilapblipbaaDoor.Abs
