/- A calculus over values: every operation that calls nothing. -/
import Derived.Test.YtdgpilapblipbaaDoorAbsAll
namespace Go.Proofs.YtdgpilapblipbaaDoor.Abs
open Go Go.RowKit
set_option linter.unusedVariables false
set_option linter.unusedSimpArgs false

section
variable {E : Env} {M0 : Mem} {w0 : World} {c : Nat} {M : Mem} {J : Locs} {s : St} {tm : Array Value} {w : World} {K : AV → St → Prop} {ds : List Deferred} {nm ver : Nat}

theorem getD_get {xs : List (List AV)} {i : Nat} (h : i < xs.length) : xs[i]? = some (xs.getD i []) := by
  rw [List.getD_eq_getElem?_getD, List.getElem?_eq_getElem h]; rfl

theorem index_sound (inv : Inv E M0 w0 c M J s tm w) {t : TypeId} {x i : Operand} (h : opw E nm ver (.indexAddr t x i) s K) :
    ∃ v y, (Instr.indexAt t (Act.eval ⟨tm, ds⟩ x) (Act.eval ⟨tm, ds⟩ i)).run E.P w = .ok v w ∧ K y s ∧ Rel M J y v := by
  simp only [opw] at h
  split at h
  · rename_i e z sz b zz xs k n hs hx hi
    obtain ⟨rfl, h0, h1, hk⟩ := h
    obtain ⟨hu, hti⟩ := sle_some hs
    rw [(inv.oper (ds := ds) hi).v_inv]
    have hp := (inv.oper (ds := ds) hx).lst_inv
    generalize Act.eval ⟨tm, ds⟩ x = u at hp
    cases hp with
    | lst uu hn hc hz hA hM hxx =>
      rename_i A m cap
      subst hn
      obtain ⟨b', o', rfl⟩ := hA (by intro e; subst e; simp at h1; omega)
      have hlt : n.toNat < xs.length := by omega
      refine ⟨_, _, by simp [Instr.indexAt, asIntOf, run_underlying hu, h0, h1, run_ti hti, toAdd]; rfl, hk, .pure ?_⟩
      exact .rptr (fun j => uu n.toNat j) (fun j c hj => hM b' o' n.toNat _ j c rfl (getD_get hlt) hj) (fun j c hj => hxx n.toNat _ j c (getD_get hlt) hj)
  · rename_i e z sz b r v off len k n hs hx hi
    obtain ⟨h0, h1, hk, hK⟩ := h
    obtain ⟨hu, hti⟩ := sle_some hs
    rw [(inv.oper (ds := ds) hi).v_inv]
    obtain ⟨L, A, e1, hL, hcap, hLN, hLA⟩ := (inv.oper (ds := ds) hx).own_inv
    rw [e1]
    split at hk
    · rename_i q hq
      obtain ⟨hv, hsz⟩ := hk
      obtain ⟨L', C, hL', hb, ok⟩ := inv.heap r q hq
      rw [hv, hL] at hL'; obtain rfl := Option.some.inj hL'
      have hn : L.nil = false := by
        cases hb : L.nil with
        | false => rfl
        | true => have := ok.none hb; omega
      rw [hLA hn (.inr (by omega))]
      refine ⟨_, _, by simp [Instr.indexAt, asIntOf, run_underlying hu, h0, h1, run_ti hti, toAdd]; rfl, hK, ?_⟩
      have := Rel.ptr (M := M) (r := r) (i := off + n.toNat) (o := 0) hL hn
      rw [ok.sz, hsz, Nat.add_zero, Nat.add_mul] at this
      rw [ok.sz, hsz]; exact this
    · exact hk.elim
  · rename_i m e sz cs k n hs hx hi
    obtain ⟨h0, h1, hK⟩ := h
    obtain ⟨hu, z, b, hti⟩ := arr_some hs
    rw [(inv.oper (ds := ds) hi).v_inv]
    have hp := (inv.oper (ds := ds) hx).rptr_inv
    generalize Act.eval ⟨tm, ds⟩ x = u at hp
    cases hp with
    | rptr uu hM hxx =>
      refine ⟨_, _, by simp [Instr.indexAt, asIntOf, run_underlying hu, Instr.sureAddr, h0, h1, run_ti hti, toAdd]; rfl, hK, .pure ?_⟩
      refine .rptr (fun j => uu (n.toNat * sz + j)) (fun j c hj => ?_) (fun j c hj => ?_)
      · rw [List.getElem?_drop] at hj
        rw [Nat.add_assoc]; exact hM _ c hj
      · rw [List.getElem?_drop] at hj; exact hxx _ c hj
  · rename_i m e sz r v j o k n hs hx hi
    obtain ⟨h0, h1, hK⟩ := h
    obtain ⟨hu, z, b, hti⟩ := arr_some hs
    rw [(inv.oper (ds := ds) hi).v_inv]
    obtain ⟨L, e1, hL, hN⟩ := (inv.oper (ds := ds) hx).ptr_inv
    rw [e1]
    refine ⟨_, _, by simp [Instr.indexAt, asIntOf, run_underlying hu, Instr.sureAddr, h0, h1, run_ti hti, toAdd]; rfl, hK, ?_⟩
    have := Rel.ptr (M := M) (r := r) (i := j) (o := o + n.toNat * sz) hL hN
    rw [← Nat.add_assoc] at this; exact this
  · exact h.elim

theorem field_sound (inv : Inv E M0 w0 c M J s tm w) {t : TypeId} {x : Operand} {f : Nat} (h : opw E nm ver (.fieldAddr t x f) s K) :
    ∃ v y, (Instr.fieldAt t (Act.eval ⟨tm, ds⟩ x) f).run E.P w = .ok v w ∧ K y s ∧ Rel M J y v := by
  simp only [opw] at h
  have run : ∀ {o : Nat} {t' : TypeId} {n : Nat}, fld E.P t f = some (o, t', n) → 0 < n → ∀ b o', (Instr.fieldAt t (.pointer (some ⟨b, o', none⟩)) f).run E.P w = .ok (.pointer (some ⟨b, o' + o, none⟩)) w := by
    intro o t' n hf hn b o'
    obtain ⟨fields, fd, z, by', hu, hfd, rfl, rfl, hti⟩ := fld_some hf
    have : ¬ n = 0 := by omega
    simp [Instr.fieldAt, run_underlying hu, hfd, Instr.sureAddr, fieldPlace, run_ti hti, this, toAdd]
  split at h
  · rename_i o t' n cs hf hx
    obtain ⟨hn, hK⟩ := h
    have hp := (inv.oper (ds := ds) hx).rptr_inv
    generalize Act.eval ⟨tm, ds⟩ x = u at hp
    cases hp with
    | rptr uu hM hxx =>
      refine ⟨_, _, run hf hn _ _, hK, .pure (.rptr (fun j => uu (o + j)) (fun j c hj => ?_) (fun j c hj => ?_))⟩
      · rw [List.getElem?_drop] at hj; rw [Nat.add_assoc]; exact hM _ c hj
      · rw [List.getElem?_drop] at hj; exact hxx _ c hj
  · rename_i o t' n r v i o' hf hx
    obtain ⟨hn, hK⟩ := h
    obtain ⟨L, e1, hL, hN⟩ := (inv.oper (ds := ds) hx).ptr_inv
    rw [e1]
    refine ⟨_, _, run hf hn _ _, hK, ?_⟩
    rw [Nat.add_assoc]; exact .ptr hL hN
  · exact h.elim

/-- A new row of what is known. -/
theorem lit_sound {n : Nat} : ∀ {ys : List AV} {vs : List Value} {es : List (List AV)}, vs.length = ys.length → (∀ (i : Nat) (x : AV) (v : Value), ys[i]? = some x → vs[i]? = some v → PRel M x v) → litAV n ys = some es →
    es.length = ys.length ∧ (∀ (i : Nat) (e : List AV), es[i]? = some e → e.length = n) ∧
    ∀ (i : Nat) (e : List AV) (v : Value), es[i]? = some e → vs[i]? = some v → v.cells.size = n ∧ (∀ (j : Nat) (u : Value), v.cells[j]? = some u → u.oneCell' = true) ∧
      ∀ (j : Nat) (x : AV) (u : Value), e[j]? = some x → v.cells[j]? = some u → PRel M x u
  | [], vs, es, hl, _, h => by
    simp only [litAV, Option.some.injEq] at h; subst h
    exact ⟨rfl, fun i e h => by simp at h, fun i e v h => by simp at h⟩
  | y :: ys, vs, es, hl, hr, h => by
    match vs, hl with
    | v :: vs', hl =>
      simp only [litAV] at h
      split at h
      · rename_i cs l hc hl'
        split at h
        · rename_i hn
          obtain rfl := Option.some.inj h
          obtain ⟨a1, a2, a3⟩ := lit_sound (vs := vs') (by simpa using hl) (fun i x v hx hv => hr (i + 1) x v (by simpa using hx) (by simpa using hv)) hl'
          have hy := hr 0 y v rfl rfl
          have hcr := cells_rel (J := fun _ => none) (.pure hy) hc
          refine ⟨by simp [a1], fun i e he => ?_, fun i e u he hu => ?_⟩
          · cases i with
            | zero => simp at he; subst he; exact hn
            | succ i => exact a2 i e (by simpa using he)
          · cases i with
            | zero =>
              simp at he hu; subst he; subst hu
              refine ⟨by rw [hcr.1, hn], hcr.2.1, fun j x u hx hu => ?_⟩
              have := hcr.2.2 j x u hx hu
              cases this with
              | pure h => exact h
              | agg hn' h1 h =>
                rename_i cs' vs''
                exact absurd (hcr.2.1 j _ hu) (by simp [Value.oneCell'])
              | tup hn' h => exact absurd (hcr.2.1 j _ hu) (by simp [Value.oneCell'])
              | clo hn' hm h h' => 
                cases hy with
                | v => simp only [cellsOf] at hc; split at hc <;> simp at hc; subst hc; cases j <;> simp at hx
                | agg hn2 h12 h2 =>
                  simp only [cellsOf, Option.some.injEq] at hc; subst hc
                  have := h2 j _ _ hx (by simpa [Value.cells] using hu); exact this
                | tup => simp [cellsOf] at hc
                | lst => simp only [cellsOf, Option.some.injEq] at hc; subst hc; cases j <;> simp at hx
                | rptr => simp only [cellsOf, Option.some.injEq] at hc; subst hc; cases j <;> simp at hx
                | clo hn2 hm2 h2 h2' =>
                  simp only [cellsOf, Option.some.injEq] at hc; subst hc
                  cases j with
                  | zero =>
                    simp at hx; obtain ⟨rfl, rfl, rfl⟩ := hx
                    simp [Value.cells] at hu; obtain ⟨rfl, rfl, rfl⟩ := hu
                    exact .clo hn2 hm2 h2 h2'
                  | succ j => simp at hx
              | own hL _ _ _ _ => cases hL
              | ptr hL _ => cases hL
            | succ i => exact a3 i e u (by simpa using he) (by simpa using hu)
        · cases h
      · cases h
end
end Go.Proofs.YtdgpilapblipbaaDoor.Abs
