/- A calculus over values: each operation does in memory what is said of it (the operations that call nothing and write nothing old). -/
import Derived.Test.YtdgpilapblipbaaDoorAbsHeap
import Derived.Laws.Tables
namespace Go.Proofs.YtdgpilapblipbaaDoor.Abs
open Go Go.RowKit
set_option linter.unusedVariables false
set_option linter.unusedSimpArgs false

/-- An operation comes to a value of which K holds. -/
def Goes (E : Env) (M0 : Mem) (w0 : World) (c n ver : Nat) (M : Mem) (J : Locs) (tm : Array Value) (r : Result Next) (K : AV → St → Prop) : Prop :=
  ∃ v w' M' J' x s' c', r = .ok (.value v) w' ∧ K x s' ∧ Inv E M0 w0 c' M' J' s' tm w' ∧ Rel M' J' x v ∧ Sub M M' ∧ SubJ J J' ∧ (c' = c ∧ s'.ctr = n ∨ c' = ver + 1 ∧ s'.ctr = ver + 8)

section
variable {E : Env} {M0 : Mem} {w0 : World} {c : Nat} {M : Mem} {J : Locs} {s : St} {tm : Array Value} {w : World} {K : AV → St → Prop}

theorem Goes.here (inv : Inv E M0 w0 c M J s tm w) {ver : Nat} {v : Value} {x : AV} (hk : K x s) (hr : Rel M J x v) :
    Goes E M0 w0 c s.ctr ver M J tm (.ok (.value v) w) K := ⟨v, w, M, J, x, s, c, rfl, hk, inv, hr, Sub.refl M, SubJ.refl J, .inl ⟨rfl, rfl⟩⟩

theorem operL_rel (inv : Inv E M0 w0 c M J s tm w) {ds : List Deferred} : ∀ {parts : List (Nat × Operand)} {l : List (Nat × AV)}, operL E s parts = some l →
    l.length = parts.length ∧ ∀ (i j : Nat) (x : AV), l[i]? = some (j, x) → ∃ o, parts[i]? = some (j, o) ∧ Rel M J x (Act.eval ⟨tm, ds⟩ o)
  | [], l, h => by simp only [operL, Option.some.injEq] at h; subst h; simp
  | (k, x) :: rest, l, h => by
    simp only [operL] at h
    split at h
    · rename_i a l' ha hl
      obtain rfl := Option.some.inj h
      obtain ⟨h1, h2⟩ := operL_rel inv hl
      refine ⟨by simp [h1], fun i j y hy => ?_⟩
      cases i with
      | zero => simp at hy; obtain ⟨rfl, rfl⟩ := hy; exact ⟨x, rfl, inv.oper ha⟩
      | succ i => simpa using h2 i j y (by simpa using hy)
    · cases h

theorem operA_rel (inv : Inv E M0 w0 c M J s tm w) {ds : List Deferred} : ∀ {parts : List Operand} {l : List AV}, operA E s parts = some l →
    l.length = parts.length ∧ ∀ (i : Nat) (x : AV), l[i]? = some x → ∃ o, parts[i]? = some o ∧ Rel M J x (Act.eval ⟨tm, ds⟩ o)
  | [], l, h => by simp only [operA, Option.some.injEq] at h; subst h; simp
  | x :: rest, l, h => by
    simp only [operA] at h
    split at h
    · rename_i a l' ha hl
      obtain rfl := Option.some.inj h
      obtain ⟨h1, h2⟩ := operA_rel inv hl
      refine ⟨by simp [h1], fun i y hy => ?_⟩
      cases i with
      | zero => simp at hy; subst hy; exact ⟨x, rfl, inv.oper ha⟩
      | succ i => simpa using h2 i y (by simpa using hy)
    · cases h

theorem foldl_set (off : Nat) : ∀ (l : List Value) (n : Nat) (C : Array Value), off + n + l.length ≤ C.size →
    ((l.zipIdx n).foldl (fun cs p => cs.setIfInBounds (off + p.2) p.1) C).size = C.size ∧
      ∀ k, ((l.zipIdx n).foldl (fun cs p => cs.setIfInBounds (off + p.2) p.1) C)[k]? = if off + n ≤ k ∧ k < off + n + l.length then l[k - (off + n)]? else C[k]?
  | [], n, C, _ => by
    refine ⟨rfl, fun k => ?_⟩
    simp only [List.zipIdx_nil, List.foldl_nil, List.length_nil]
    rw [if_neg (by omega)]
  | v :: l, n, C, h => by
    simp only [List.length_cons] at h
    obtain ⟨h1, h2⟩ := foldl_set off l (n + 1) (C.setIfInBounds (off + n) v) (by simp; omega)
    simp only [List.zipIdx_cons, List.foldl_cons]
    refine ⟨by simpa using h1, fun k => ?_⟩
    rw [h2 k]
    simp only [List.length_cons]
    by_cases hk : k = off + n
    · subst hk
      rw [if_neg (by omega), if_pos (by omega), Nat.sub_self]
      simp only [List.getElem?_cons_zero]
      rw [Array.getElem?_setIfInBounds]
      simp; omega
    · by_cases hk2 : off + (n + 1) ≤ k ∧ k < off + (n + 1) + l.length
      · rw [if_pos hk2, if_pos (by omega)]
        rw [show k - (off + n) = (k - (off + (n + 1))) + 1 by omega, List.getElem?_cons_succ]
      · rw [if_neg hk2, if_neg (by omega), Array.getElem?_setIfInBounds, if_neg (by omega)]

theorem withCells_get (A : List AV) (off : Nat) (cs : List AV) (h : off + cs.length ≤ A.length) (k : Nat) :
    (withCells A off cs)[k]? = if off ≤ k ∧ k < off + cs.length then cs[k - off]? else A[k]? := by
  unfold withCells
  by_cases h1 : k < off
  · rw [if_neg (by omega), List.append_assoc, List.getElem?_append_left (by simp; omega), List.getElem?_take, if_pos h1]
  · rw [List.append_assoc, List.getElem?_append_right (by simp; omega)]
    have hl : (List.take off A).length = off := by simp; omega
    rw [hl]
    by_cases h2 : k < off + cs.length
    · rw [if_pos (by omega), List.getElem?_append_left (by omega)]
    · rw [if_neg (by omega), List.getElem?_append_right (by omega), List.getElem?_drop]
      congr 1; omega

/-- Cells that stand for a row of values. -/
def Row (M : Mem) (J : Locs) (A : List AV) (C : Array Value) : Prop :=
  C.size = A.length ∧ (∀ (j : Nat) (v : Value), C[j]? = some v → v.oneCell' = true) ∧ ∀ (j : Nat) (x : AV) (v : Value), A[j]? = some x → C[j]? = some v → Rel M J x v

theorem Row.with {A cs : List AV} {C : Array Value} {u : Value} {off : Nat} (hA : Row M J A C) (hc : Row M J cs u.cells) (h : off + cs.length ≤ A.length) :
    Row M J (withCells A off cs) (u.cells.zipIdx.foldl (fun cs (c, j) => cs.setIfInBounds (off + j) c) C) := by
  obtain ⟨a1, a2, a3⟩ := hA
  obtain ⟨c1, c2, c3⟩ := hc
  have he : (u.cells.zipIdx.foldl (fun cs (c, j) => cs.setIfInBounds (off + j) c) C) = ((u.cells.toList.zipIdx 0).foldl (fun cs p => cs.setIfInBounds (off + p.2) p.1) C) := by
    rw [← Array.foldl_toList, Array.toList_zipIdx]
  rw [he]
  have hlen : u.cells.toList.length = cs.length := by simp [c1]
  obtain ⟨f1, f2⟩ := foldl_set off u.cells.toList 0 C (by rw [hlen]; omega)
  refine ⟨?_, fun j v hv => ?_, fun j x v hx hv => ?_⟩
  · rw [f1, a1]; simp [withCells]; omega
  · rw [f2] at hv
    split at hv
    · exact c2 _ v (by simpa using hv)
    · exact a2 _ v hv
  · rw [f2, hlen] at hv
    rw [withCells_get A off cs h] at hx
    simp only [Nat.add_zero] at hv
    split at hx
    · rename_i hc'
      rw [if_pos hc'] at hv
      exact c3 _ x v hx (by simpa using hv)
    · rename_i hc'
      rw [if_neg hc'] at hv
      exact a3 _ x v hx hv

theorem fill_rel {place : Nat → Option (Nat × Nat)} : ∀ {l : List (Nat × AV)} {ps : List (Nat × Value)} {A cs : List AV} {C : Array Value}, ps.length = l.length →
    (∀ (i j : Nat) (x : AV), l[i]? = some (j, x) → ∃ v, ps[i]? = some (j, v) ∧ Rel M J x v) → Row M J A C → fillAV place A l = some cs →
    ∃ C', Instr.fill place C ps = some C' ∧ Row M J cs C'
  | [], ps, A, cs, C, hl, _, hA, h => by
    simp only [fillAV, Option.some.injEq] at h; subst h
    have : ps = [] := List.eq_nil_of_length_eq_zero (by simpa using hl)
    subst this
    exact ⟨C, rfl, hA⟩
  | (i, x) :: rest, ps, A, cs, C, hl, hr, hA, h => by
    match ps, hl with
    | (i', v) :: ps', hl =>
      obtain ⟨v', hv', hrx⟩ := hr 0 i x rfl
      simp only [List.getElem?_cons_zero, Option.some.injEq, Prod.mk.injEq] at hv'
      obtain ⟨rfl, rfl⟩ := hv'
      simp only [fillAV] at h
      split at h
      · rename_i off size cs' hp hcs
        split at h
        · rename_i hc
          have hcr := cells_rel hrx hcs
          have hrow : Row M J cs' v.cells := ⟨hcr.1, hcr.2.1, hcr.2.2⟩
          obtain ⟨C', e1, e2⟩ := fill_rel (l := rest) (ps := ps') (by simpa using hl) (fun k j y hy => by simpa using hr (k + 1) j y (by simpa using hy)) (hA.with hrow (by omega)) h
          refine ⟨C', ?_, e2⟩
          simp only [Instr.fill, hp]
          rw [if_neg]
          · exact e1
          · simp only [hcr.1, bne_iff_ne, ne_eq, gt_iff_lt, Bool.or_eq_true, decide_eq_true_eq, hA.1]; omega
        · cases h
      · cases h

theorem row_const (vs : Array Value) (h : vs.toList.all Value.oneCell' = true) : Row M J (vs.toList.map .v) vs := by
  refine ⟨by simp, fun j v hv => ?_, fun j x v hx hv => ?_⟩
  · rw [List.all_eq_true] at h
    exact h v (by rw [Array.mem_toList_iff]; exact Array.mem_of_getElem? hv)
  · simp only [List.getElem?_map, Array.getElem?_toList, hv, Option.map_some, Option.some.injEq] at hx
    subst hx; exact .pure (.v _)

theorem lay_built {P : Program} {t : TypeId} {z : List AV} {places : List (Nat × Nat)} (h : lay P t = some (z, places)) :
    ∃ i zs, P.info? t = some i ∧ i.zero = some (.agg zs) ∧ z = zs.toList.map .v ∧ zs.toList.all Value.oneCell' = true ∧
      ∀ parts C, Instr.fill (places[·]?) zs parts = some C → (∀ p ∈ parts, p.1 < places.length) → P.built t parts = some C := by
  unfold lay at h
  split at h
  · rename_i fields zs n b hu ht
    obtain ⟨i, hi, hz, hs, _⟩ := ti_some ht
    split at h
    case isFalse => cases h
    rename_i hone
    simp only [Option.map_eq_some_iff, Prod.mk.injEq] at h
    obtain ⟨l, hl, rfl, rfl⟩ := h
    refine ⟨i, zs, hi, hz, rfl, hone, fun parts C hC _ => ?_⟩
    simp only [Program.built, hi, hu, hz, hl]
    simpa [Value.cells] using hC
  · rename_i n e zs m b hu ht
    obtain ⟨i, hi, hz, hs, _⟩ := ti_some ht
    split at h
    case isFalse => cases h
    rename_i hone
    simp only [Option.map_eq_some_iff, Prod.mk.injEq] at h
    obtain ⟨ie, hie, rfl, rfl⟩ := h
    refine ⟨i, zs, hi, hz, rfl, hone, fun parts C hC hlt => ?_⟩
    simp only [Program.built, hi, hu, hz, hie]
    have : ∀ (ps : List (Nat × Value)) (A : Array Value), (∀ p ∈ ps, p.1 < n) →
        Instr.fill (fun i => some (i * ie.size, ie.size)) A ps = Instr.fill (((List.range n).map fun j => (j * ie.size, ie.size))[·]?) A ps := by
      intro ps
      induction ps with
      | nil => intro A _; rfl
      | cons p ps ih =>
        intro A hp
        obtain ⟨k, v⟩ := p
        have hk : k < n := hp (k, v) (by simp)
        have e : ((List.range n).map fun j => (j * ie.size, ie.size))[k]? = some (k * ie.size, ie.size) := by simp [hk]
        simp only [Instr.fill]
        rw [e]
        simp only
        split
        · rfl
        · exact ih _ (fun p hp' => hp p (by simp [hp']))
    show Instr.fill (fun i => some (i * ie.size, ie.size)) (Value.agg zs).cells parts = some C
    rw [show (Value.agg zs).cells = zs from rfl, this parts zs (by simpa using hlt)]
    exact hC
  · cases h
end
end Go.Proofs.YtdgpilapblipbaaDoor.Abs
