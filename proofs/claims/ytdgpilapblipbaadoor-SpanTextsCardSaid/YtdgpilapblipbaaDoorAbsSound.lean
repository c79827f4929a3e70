/- A calculus over values: each operation does in memory what is said of it. -/
import Derived.Test.YtdgpilapblipbaaDoorAbsOps
namespace Go.Proofs.YtdgpilapblipbaaDoor.Abs
open Go Go.RowKit
set_option linter.unusedSimpArgs false
set_option linter.unusedVariables false

/- What a value of each form stands for. -/
theorem Rel.v_inv {M : Mem} {J : Locs} {x u : Value} (h : Rel M J (.v x) u) : u = x := by
  cases h with | pure h => cases h; rfl
theorem Rel.agg_inv {M : Mem} {J : Locs} {cs : List AV} {u : Value} (h : Rel M J (.agg cs) u) :
    ∃ vs : Array Value, u = .agg vs ∧ vs.size = cs.length ∧ (∀ (i : Nat) (v : Value), vs[i]? = some v → v.oneCell' = true) ∧
      ∀ (i : Nat) (c : AV) (v : Value), cs[i]? = some c → vs[i]? = some v → Rel M J c v := by
  cases h with
  | pure h => cases h with | agg hn h1 h => exact ⟨_, rfl, hn, h1, fun i c v a b => .pure (h i c v a b)⟩
  | agg hn h1 h => exact ⟨_, rfl, hn, h1, h⟩
theorem Rel.tup_inv {M : Mem} {J : Locs} {cs : List AV} {u : Value} (h : Rel M J (.tup cs) u) :
    ∃ vs : Array Value, u = .tuple vs ∧ vs.size = cs.length ∧ ∀ (i : Nat) (c : AV) (v : Value), cs[i]? = some c → vs[i]? = some v → Rel M J c v := by
  cases h with
  | pure h => cases h with | tup hn h => exact ⟨_, rfl, hn, fun i c v a b => .pure (h i c v a b)⟩
  | tup hn h => exact ⟨_, rfl, hn, h⟩
theorem Rel.lst_inv {M : Mem} {J : Locs} {sz : Nat} {xs : List (List AV)} {u : Value} (h : Rel M J (.lst sz xs) u) : PRel M (.lst sz xs) u := by
  cases h with | pure h => exact h
theorem Rel.rptr_inv {M : Mem} {J : Locs} {cs : List AV} {u : Value} (h : Rel M J (.rptr cs) u) : PRel M (.rptr cs) u := by
  cases h with | pure h => exact h
theorem PRel.no_own {M : Mem} {r ver off len : Nat} {u : Value} (h : PRel M (.own r ver off len) u) : False := by cases h
theorem PRel.no_ptr {M : Mem} {r ver off len : Nat} {u : Value} (h : PRel M (.ptr r ver off len) u) : False := by cases h
theorem Rel.own_inv {M : Mem} {J : Locs} {r ver off len : Nat} {u : Value} (h : Rel M J (.own r ver off len) u) :
    ∃ L A, u = .slice A len (L.cap - off) ∧ J ver = some L ∧ off + len ≤ L.cap ∧ (L.nil = true → A = none) ∧ (L.nil = false → off = 0 ∨ off < L.cap → A = some ⟨L.b, off * L.sz, none⟩) := by
  cases h with
  | pure h => cases h
  | own hL hl hN hA hc => subst hc; exact ⟨_, _, rfl, hL, hl, hN, hA⟩
theorem Rel.ptr_inv {M : Mem} {J : Locs} {r ver i o : Nat} {u : Value} (h : Rel M J (.ptr r ver i o) u) :
    ∃ L : Loc, u = .pointer (some ⟨L.b, i * L.sz + o, none⟩) ∧ J ver = some L ∧ L.nil = false := by
  cases h with
  | pure h => cases h
  | ptr hL hN => exact ⟨_, rfl, hL, hN⟩
theorem Rel.clo_inv {M : Mem} {J : Locs} {fn : Fn} {a b : List AV} {u : Value} (h : Rel M J (.clo fn a b) u) :
    ∃ fs cs : Array Value, u = .func fn fs cs ∧ fs.size = a.length ∧ cs.size = b.length ∧
      (∀ (i : Nat) (c : AV) (v : Value), a[i]? = some c → fs[i]? = some v → Rel M J c v) ∧ (∀ (i : Nat) (c : AV) (v : Value), b[i]? = some c → cs[i]? = some v → Rel M J c v) := by
  cases h with
  | pure h => cases h with | clo hn hm h h' => exact ⟨_, _, rfl, hn, hm, fun i c v a b => .pure (h i c v a b), fun i c v a b => .pure (h' i c v a b)⟩
  | clo hn hm h h' => exact ⟨_, _, rfl, hn, hm, h, h'⟩

/-- A constant. -/
theorem rel_ofV (M : Mem) (J : Locs) (x : Value) : Rel M J (ofV x) x := by
  cases x <;> try exact .pure (.v _)
  rename_i cs
  simp only [ofV]
  split
  · rename_i h
    refine .agg (by simp) (fun i v hv => ?_) (fun i c v hc hv => ?_)
    · rw [List.all_eq_true] at h
      exact h v (by rw [Array.mem_toList_iff]; exact Array.mem_of_getElem? hv)
    · simp only [List.getElem?_map, Array.getElem?_toList, hv, Option.map_some, Option.some.injEq] at hc
      subst hc; exact .pure (.v _)
  · exact .pure (.v _)

section
variable {E : Env} {M0 : Mem} {w0 : World} {c : Nat} {M : Mem} {J : Locs} {s : St} {tm : Array Value} {w : World}

theorem Inv.oper (inv : Inv E M0 w0 c M J s tm w) {ds : List Deferred} {x : Operand} {a : AV} (h : oper E s x = some a) :
    Rel M J a (Act.eval ⟨tm, ds⟩ x) := by
  cases x with
  | tmp t =>
    obtain ⟨v, hv, hr⟩ := inv.slot t a h
    simpa [Act.eval, Array.getD_eq_getD_getElem?, hv] using hr
  | const v => simp only [Abs.oper, Option.some.injEq] at h; subst h; exact rel_ofV _ _ _
  | global g =>
    simp only [Abs.oper, Option.map_eq_some_iff] at h
    obtain ⟨cs, hg, rfl⟩ := h
    exact .pure (inv.glob g cs hg)
  | func f =>
    simp only [Abs.oper, Option.some.injEq] at h; subst h
    exact .pure (.clo (by rfl) (by rfl) (fun i c v a _ => by simp at a) (fun i c v a _ => by simp at a))

/-- A value's cells stand for the value's. -/
theorem cells_rel {a : AV} {u : Value} {cs : List AV} (hr : Rel M J a u) (h : cellsOf a = some cs) :
    u.cells.size = cs.length ∧ (∀ (j : Nat) (v : Value), u.cells[j]? = some v → v.oneCell' = true) ∧
      ∀ (j : Nat) (c : AV) (v : Value), cs[j]? = some c → u.cells[j]? = some v → Rel M J c v := by
  have one : ∀ {x : Value} {y : AV}, x.oneCell' = true → Rel M J y x → cs = [y] → x.cells.size = cs.length ∧ (∀ (j : Nat) (v : Value), x.cells[j]? = some v → v.oneCell' = true) ∧
      ∀ (j : Nat) (c : AV) (v : Value), cs[j]? = some c → x.cells[j]? = some v → Rel M J c v := by
    intro x y hx hy e
    have hc : x.cells = #[x] := by cases x <;> first | rfl | simp [Value.oneCell'] at hx
    subst e; rw [hc]
    refine ⟨rfl, fun j v hv => ?_, fun j c v h1 h2 => ?_⟩
    · cases j with
      | zero => simp at hv; subst hv; exact hx
      | succ j => simp at hv
    · cases j with
      | zero => simp at h1 h2; subst h1; subst h2; exact hy
      | succ j => simp at h1
  cases a with
  | v x =>
    obtain rfl := hr.v_inv
    simp only [cellsOf] at h
    split at h
    · rename_i hx; exact one hx (.pure (.v _)) (Option.some.inj h).symm
    · cases h
  | agg xs =>
    obtain ⟨vs, rfl, hn, h1, h2⟩ := hr.agg_inv
    obtain rfl := Option.some.inj h
    exact ⟨hn, h1, h2⟩
  | tup xs => cases h
  | lst sz xs =>
    have := hr.lst_inv
    cases this; exact one rfl hr (Option.some.inj h).symm
  | rptr xs =>
    have := hr.rptr_inv
    cases this; exact one rfl hr (Option.some.inj h).symm
  | own r ver off len => obtain ⟨L, A, rfl, _⟩ := hr.own_inv; exact one rfl hr (Option.some.inj h).symm
  | ptr r ver i o => obtain ⟨L, rfl, _⟩ := hr.ptr_inv; exact one rfl hr (Option.some.inj h).symm
  | clo f a b => obtain ⟨fs, cs', rfl, _⟩ := hr.clo_inv; exact one rfl hr (Option.some.inj h).symm

theorem ti_some {P : Program} {t : TypeId} {z : Option Value} {n b : Nat} (h : ti P t = some (z, n, b)) :
    ∃ i, P.info? t = some i ∧ i.zero = z ∧ i.size = n ∧ i.bytes = b := by
  simp only [ti, Option.map_eq_some_iff, Prod.mk.injEq] at h
  obtain ⟨i, h1, h2, h3, h4⟩ := h
  exact ⟨i, h1, h2, h3, h4⟩

/-- What stands behind a pointer is there. -/
theorem cellsAt_rel (inv : Inv E M0 w0 c M J s tm w) {a : AV} {u : Value} {cs : List AV} (hr : Rel M J a u) (h : cellsAt s a = some cs) :
    ∃ b o, u = .pointer (some ⟨b, o, none⟩) ∧ ∀ (j : Nat) (x : AV), cs[j]? = some x → ∃ v, w.cell? ⟨b, o + j, none⟩ = some v ∧ v.oneCell' = true ∧ Rel M J x v := by
  cases a <;> simp only [cellsAt] at h <;> try (cases h; done)
  · obtain rfl := Option.some.inj h
    have hp := hr.rptr_inv
    cases hp with
    | rptr u hM hx => exact ⟨_, _, rfl, fun j x hj => ⟨_, (inv.mem _ _ _ (hM j x hj)).1, (inv.mem _ _ _ (hM j x hj)).2, .pure (hx j x hj)⟩⟩
  · rename_i r ver i o
    obtain ⟨L, rfl, hL, hN⟩ := hr.ptr_inv
    split at h
    · rename_i k hk
      split at h
      · rename_i hv
        simp only [Option.map_eq_some_iff] at h
        obtain ⟨e, he, rfl⟩ := h
        obtain ⟨L', C, hL', hb, ok⟩ := inv.heap r k hk
        rw [hv, hL] at hL'
        obtain rfl := Option.some.inj hL'
        refine ⟨_, _, rfl, fun j x hj => ?_⟩
        rw [List.getElem?_drop] at hj
        obtain ⟨v, h1, h2, h3⟩ := ok.cell i e (o + j) x he hj
        refine ⟨v, ?_, h2, h3.rel⟩
        simp only [World.cell?, ok.blk hN, Option.isSome_none, Bool.false_eq_true, if_false]
        rw [ok.sz, Nat.add_assoc]; exact h1
      · cases h
    · cases h
end
end Go.Proofs.YtdgpilapblipbaaDoor.Abs
