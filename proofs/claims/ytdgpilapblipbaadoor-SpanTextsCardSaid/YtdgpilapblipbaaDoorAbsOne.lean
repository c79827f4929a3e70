/- A calculus over values: one operation, whatever it is. -/
import Derived.Test.YtdgpilapblipbaaDoorAbsStep
namespace Go.Proofs.YtdgpilapblipbaaDoor.Abs
open Go Go.RowKit
set_option linter.unusedVariables false
set_option linter.unusedSimpArgs false

section
variable {E : Env} {M0 : Mem} {w0 : World} {c : Nat} {M : Mem} {J : Locs} {s : St} {tm : Array Value} {w : World} {K : AV → St → Prop} {ds : List Deferred} {nm ver : Nat}

theorem Rel.pure0 {M : Mem} {x : AV} {v : Value} (h : Rel M (fun _ => none) x v) : PRel M x v := by
  have key : ∀ {J : Locs}, (∀ r, J r = none) → Rel M J x v → PRel M x v := by
    clear h
    intro J hJ h
    induction h with
    | pure h => exact h
    | agg hn h1 _ ih => exact .agg hn h1 ih
    | tup hn _ ih => exact .tup hn ih
    | clo hn hm _ _ ih ih' => exact .clo hn hm ih ih'
    | own hL => rw [hJ] at hL; cases hL
    | ptr hL => rw [hJ] at hL; cases hL
  exact key (fun _ => rfl) h

/-- A variable's one element. -/
theorem box_new (inv : Inv E M0 w0 c M J s tm w) (hv : c ≤ ver) {a : AV} {u : Value} {cs : List AV} {t : TypeId} (hr : Rel M J a u) (hc : cellsOf a = some cs) (hnm : get s.hp nm = none) :
    ∃ J', SubJ J J' ∧ Inv E M0 w0 (ver + 1) M J' (s.new nm ver cs.length t true [cs]) tm (w.alloc (.cells u.cells t)) ∧ Rel M J' (.ptr nm ver 0 0) (.pointer (some ⟨w.heap.size, 0, none⟩)) := by
  obtain ⟨h1, h2, h3⟩ := cells_rel hr hc
  obtain ⟨J', hJ, hJ', hI⟩ := inv.new (es := [cs]) (ty := t) (box := true) (sz := cs.length) (C := u.cells) (cap := 1) hnm hv (by rw [h1]; omega) (by simp)
    (fun i e he => by cases i with | zero => simp at he; subst he; rfl | succ i => simp at he)
    (fun i e j x he hx => by
      cases i with
      | zero =>
        simp at he; subst he
        have hj := (List.getElem?_eq_some_iff.1 hx).1
        obtain ⟨v, hv'⟩ : ∃ v, u.cells[j]? = some v := ⟨_, Array.getElem?_eq_getElem (by omega)⟩
        exact ⟨v, by rw [Nat.zero_mul, Nat.zero_add]; exact hv', h2 j v hv', h3 j x v hx hv'⟩
      | succ i => simp at he) (by unfold maxLen; omega)
  refine ⟨J', hJ, hI, ?_⟩
  have := Rel.ptr (M := M) (r := nm) (i := 0) (o := 0) hJ' rfl
  simpa using this

theorem fill_lit (n : Nat) (hn : 0 < n) : ∀ (vs : List Value) (k : Nat) (C : Array Value), (∀ (i : Nat) (v : Value), vs[i]? = some v → v.cells.size = n) → (k + vs.length) * n ≤ C.size →
    ∃ C', Instr.fill (fun i => some (i * n, n)) C ((vs.zipIdx k).map fun p => (p.2, p.1)) = some C' ∧ C'.size = C.size ∧ (∀ o : Nat, o < k * n → C'[o]? = C[o]?) ∧
      (∀ (i j : Nat) (v : Value), vs[i]? = some v → j < n → C'[(k + i) * n + j]? = v.cells[j]?)
  | [], k, C, _, _ => ⟨C, rfl, rfl, fun _ _ => rfl, fun i j v h => by simp at h⟩
  | v :: vs, k, C, hs, hl => by
    have hv := hs 0 v rfl
    have he : (v.cells.zipIdx.foldl (fun cs (c, j) => cs.setIfInBounds (k * n + j) c) C) = ((v.cells.toList.zipIdx 0).foldl (fun cs p => cs.setIfInBounds (k * n + p.2) p.1) C) := by
      rw [← Array.foldl_toList, Array.toList_zipIdx]
    simp only [List.length_cons] at hl
    have hkn : (k + 1) * n ≤ (k + (vs.length + 1)) * n := Nat.mul_le_mul_right _ (by omega)
    have hk1 : (k + 1) * n = k * n + n := by rw [Nat.add_mul, Nat.one_mul]
    obtain ⟨f1, f2⟩ := foldl_set (k * n) v.cells.toList 0 C (by simp [hv]; omega)
    obtain ⟨C', g1, g2, g4, g3⟩ := fill_lit n hn vs (k + 1) ((v.cells.toList.zipIdx 0).foldl (fun cs p => cs.setIfInBounds (k * n + p.2) p.1) C) (fun i u hu => hs (i + 1) u (by simpa using hu)) (by rw [f1]; rw [show k + 1 + vs.length = k + (vs.length + 1) by omega]; exact hl)
    refine ⟨C', ?_, by rw [g2, f1], fun o ho => ?_, fun i j u hu hj => ?_⟩
    · simp only [List.zipIdx_cons, List.map_cons, Instr.fill]
      rw [if_neg (by simp [hv]; omega), he]; exact g1
    · rw [g4 o (by omega), f2 o, if_neg (by omega)]
    · cases i with
      | zero =>
        simp at hu; subst hu
        rw [Nat.add_zero, g4 _ (by omega), f2, if_pos (by simp [hv]; omega)]
        rw [Nat.add_zero, Nat.add_sub_cancel_left]; simp
      | succ i =>
        have := g3 i j u (by simpa using hu) hj
        rw [show k + 1 + i = k + (i + 1) by omega] at this
        exact this

def Plain (op : Op) : Prop := (∀ f, op ≠ .call f) ∧ (∀ t a b, op ≠ .store t a b)

theorem opw_goes (inv : Inv E M0 w0 c M J s tm w) (hv : c ≤ ver) {o : Oper} (ho : Plain o.op) (h : opw E nm ver o.op s K) :
    Goes E M0 w0 c s.ctr ver M J tm ((execOp (Act.eval ⟨tm, ds⟩) o).run E.P w) K := by
  have here : ∀ {v : Value} {x : AV}, K x s → Rel M J x v → Goes E M0 w0 c s.ctr ver M J tm (.ok (.value v) w) K := fun hk hr => Goes.here inv hk hr
  unfold execOp
  cases hop : o.op <;> simp only [hop] at h ho ⊢ <;> try (simp only [opw] at h)
  case move x =>
    split at h
    · rename_i a hx; exact here h (inv.oper hx)
    · exact h.elim
  case assign x =>
    split at h
    · rename_i a hx; exact here h (inv.oper hx)
    · exact h.elim
  case pick cc a b =>
    split at h
    · rename_i t hx
      have hc := (inv.oper (ds := ds) hx).v_inv
      rw [hc]
      cases t with
      | true =>
        have h := h.1 rfl
        split at h
        · rename_i x hx'; simpa [asBool] using here h (inv.oper (ds := ds) hx')
        · exact h.elim
      | false =>
        have h := h.2 rfl
        split at h
        · rename_i x hx'; simpa [asBool] using here h (inv.oper (ds := ds) hx')
        · exact h.elim
    · exact h.elim
  case alloc t =>
    split at h
    · rename_i z n b hti
      split at h
      · rename_i cs hc
        obtain ⟨hnm, hk⟩ := h
        obtain ⟨J', hJ, hI, hr⟩ := box_new inv hv (t := t) (rel_ofV M J z) hc hnm
        exact ⟨_, _, M, J', _, _, _, by simp [Instr.alloc, run_zero hti, newVar, newRow], hk, hI, hr, Sub.refl M, hJ, .inr ⟨rfl, rfl⟩⟩
      · exact h.elim
    · exact h.elim
  case box t x =>
    split at h
    · rename_i a hx
      split at h
      · rename_i cs hc
        obtain ⟨hnm, hk⟩ := h
        obtain ⟨J', hJ, hI, hr⟩ := box_new inv hv (t := t) (inv.oper (ds := ds) hx) hc hnm
        exact ⟨_, _, M, J', _, _, _, by simp [Instr.box, newVar, newRow], hk, hI, hr, Sub.refl M, hJ, .inr ⟨rfl, rfl⟩⟩
      · exact h.elim
    · exact h.elim
  case build t parts =>
    split at h
    · rename_i z places l hl hp
      split at h
      · rename_i cs hf
        obtain ⟨i, zs, hi, hz, rfl, hone, hb⟩ := lay_built hl
        obtain ⟨h1, h2⟩ := operL_rel inv (ds := ds) hp
        have hget : ∀ (k j : Nat) (x : AV), l[k]? = some (j, x) → ∃ v, (parts.toList.map fun (i, x) => (i, Act.eval ⟨tm, ds⟩ x))[k]? = some (j, v) ∧ Rel M J x v := by
          intro k j x hx
          obtain ⟨o', ho', hr⟩ := h2 k j x hx
          exact ⟨_, by rw [List.getElem?_map, ho']; rfl, hr⟩
        obtain ⟨C, hC, hrow⟩ := fill_rel (M := M) (J := J) (ps := parts.toList.map fun (i, x) => (i, Act.eval ⟨tm, ds⟩ x)) (by simp [h1]) hget (row_const zs hone) hf
        have hlt : ∀ p ∈ (parts.toList.map fun (i, x) => (i, Act.eval ⟨tm, ds⟩ x)), p.1 < places.length := by
          intro p hp'
          obtain ⟨k, hk⟩ := List.getElem?_of_mem hp'
          have hkl : k < l.length := by rw [h1]; have := (List.getElem?_eq_some_iff.1 hk).1; simpa using this
          obtain ⟨v, hv', _⟩ := hget k (l[k]).1 (l[k]).2 (List.getElem?_eq_getElem hkl)
          rw [hk] at hv'; obtain rfl := Option.some.inj hv'
          have := fill_idx hf (l[k]) (List.getElem_mem hkl)
          simp only [ne_eq, List.getElem?_eq_none_iff, Nat.not_le] at this
          exact this
        have hrun := run_build (P := E.P) w t (parts.map fun (i, x) => (i, Act.eval ⟨tm, ds⟩ x)) C (by
          have := hb (parts.toList.map fun (i, x) => (i, Act.eval ⟨tm, ds⟩ x)) C hC hlt
          simpa using this)
        rw [Sem.run_bind, hrun]
        exact here h (.agg hrow.1 hrow.2.1 hrow.2.2)
      · exact h.elim
    · exact h.elim
  case buildSlice t len parts =>
    split at h
    · rename_i e z n by' l hs hp
      obtain ⟨⟨hn24, hn0, hidx, hzs⟩, hpu⟩ := h
      obtain ⟨hu, hti⟩ := sle_some hs
      obtain ⟨h1, h2⟩ := operL_rel inv (ds := ds) hp
      have hfst : ∀ k, k < l.length → (l[k]?).map Prod.fst = some k := by
        intro k hk
        have : (l.map Prod.fst)[k]? = (List.range len)[k]? := by rw [hidx]
        rw [List.getElem?_map] at this
        rw [this, List.getElem?_range]
        have : (l.map Prod.fst).length = (List.range len).length := by rw [hidx]
        simp at this; omega
      have hlen : l.length = len := by
        have : (l.map Prod.fst).length = (List.range len).length := by rw [hidx]
        simpa using this
      obtain ⟨ys, s1, M1, hK, hs1, i1, hyl, hyr⟩ := Inv.pures (l.map Prod.snd) (vs := parts.toList.map fun p => Act.eval ⟨tm, ds⟩ p.2) inv (by simp [h1]) (fun i x v hx hv => by
        rw [List.getElem?_map, Option.map_eq_some_iff] at hx
        obtain ⟨⟨j, x'⟩, hx, rfl⟩ := hx
        obtain ⟨o', ho', hr⟩ := h2 i j x' hx
        rw [List.getElem?_map, ho'] at hv
        simp at hv; subst hv; exact hr) hpu
      split at hK
      case h_2 => exact hK.elim
      rename_i es hes
      obtain ⟨hnm, hK⟩ := hK
      have hpl : parts.size = len := by rw [← hlen, h1]; simp
      have hvl : (parts.toList.map fun p => Act.eval ⟨tm, ds⟩ p.2).length = ys.length := by simp [hyl, h1]
      obtain ⟨e1, e2, e3⟩ := lit_sound hvl hyr hes
      have hesl : es.length = len := by rw [e1, hyl, List.length_map, hlen]
      have hparts : (parts.toList.map fun (i, x) => (i, Act.eval ⟨tm, ds⟩ x)) = ((parts.toList.map fun p => Act.eval ⟨tm, ds⟩ p.2).zipIdx 0).map fun p => (p.2, p.1) := by
        apply List.ext_getElem?
        intro k
        simp only [List.getElem?_map, List.getElem?_zipIdx]
        cases hk : parts.toList[k]? with
        | none => rfl
        | some p =>
          have hkl : k < l.length := by rw [h1]; exact (List.getElem?_eq_some_iff.1 hk).1
          obtain ⟨o', ho', _⟩ := h2 k (l[k]).1 (l[k]).2 (List.getElem?_eq_getElem hkl)
          have hf := hfst k hkl
          rw [List.getElem?_eq_getElem hkl] at hf
          simp at hf
          rw [hk] at ho'
          obtain ⟨a, b⟩ := p
          simp at ho' ⊢
          rw [ho'.1, hf]
      obtain ⟨C, hC, hCs, _, hCg⟩ := fill_lit n hn0 (parts.toList.map fun p => Act.eval ⟨tm, ds⟩ p.2) 0 ((Array.range (len * n)).map (z.cells[· % z.cells.size]!)) (fun k v hv => by
        have hk := (List.getElem?_eq_some_iff.1 hv).1
        exact (e3 k _ v (List.getElem?_eq_getElem (by rw [hesl]; simp at hk; omega)) hv).1) (by simp [hpl])
      have hrun : (Instr.buildSlice t len (parts.map fun (i, x) => (i, Act.eval ⟨tm, ds⟩ x))).run E.P w = .ok (.slice (some ⟨w.heap.size, 0, none⟩) len len) (w.alloc (.cells C e)) := by
        have h24 : ¬ (len * n > 2 ^ 24) := by rw [Nat.mul_comm]; omega
        simp only [Instr.buildSlice, Sem.run_bind, run_underlying hu, Result.andThen_ok, run_ti hti]
        rw [if_neg h24]
        by_cases h0 : len * n = 0
        · have hl0 : len = 0 := by rcases Nat.mul_eq_zero.1 h0 with h | h <;> omega
          subst hl0
          have hp0 : parts = #[] := by
            have : parts.toList.length = 0 := by rw [← h1, hlen]
            simpa using this
          subst hp0
          simp [Instr.fill, newRow] at hC ⊢
          subst hC
          have : ∀ f : Nat → Value, (Array.range 0).map f = #[] := by intro f; apply Array.eq_empty_of_size_eq_zero; simp
          rw [this, this]
        · rw [if_neg h0]
          have hC' : Instr.fill (fun i => some (i * n, n)) ((Array.range (len * n)).map (z.cells[· % z.cells.size]!)) (parts.map fun (i, x) => (i, Act.eval ⟨tm, ds⟩ x)).toList = some C := by
            rw [Array.toList_map, hparts]; exact hC
          have hC2 : Instr.fill (fun i => some (i * n, n)) ((Array.range (len * n)).map (z.cells[· % z.cells.size]!)) (parts.toList.map fun x => (x.fst, Act.eval ⟨tm, ds⟩ x.snd)) = some C := by
            rw [Array.toList_map] at hC'; exact hC'
          simp [run_zero hti, hC2, newRow]
      obtain ⟨J', hJ, hJ', hI⟩ := i1.new (nm := nm) (ver := ver) (es := es) (ty := e) (box := false) (sz := n) (C := C) (cap := len) hnm hv (by rw [hCs]; simp) (by omega) e2 (fun i e j x he hx => by
          have hi := (List.getElem?_eq_some_iff.1 he).1
          obtain ⟨v, hv'⟩ : ∃ v, (parts.toList.map fun p => Act.eval ⟨tm, ds⟩ p.2)[i]? = some v := ⟨_, List.getElem?_eq_getElem (by rw [hvl, ← e1]; exact hi)⟩
          obtain ⟨c1, c2, c3⟩ := e3 i e v he hv'
          have hj : j < n := by rw [← e2 i e he]; exact (List.getElem?_eq_some_iff.1 hx).1
          obtain ⟨u, hu'⟩ : ∃ u, v.cells[j]? = some u := ⟨_, Array.getElem?_eq_getElem (by omega)⟩
          refine ⟨u, ?_, c2 j u hu', by unfold CellRel; simpa using c3 j x u hx hu'⟩
          have := hCg i j v (by simpa using hv') hj
          rw [Nat.zero_add] at this
          rw [this]; exact hu') (by unfold maxLen; have : len ≤ n * len := Nat.le_mul_of_pos_left _ hn0; have := Nat.le_trans this hn24; omega)
      rw [Sem.run_bind, hrun]
      refine ⟨_, _, M1, J', _, _, _, rfl, hK, hI, .own hJ' (by show 0 + len ≤ len; omega) (fun h => by simp at h) (fun _ _ => by simp) (by simp), hs1, hJ, .inr ⟨rfl, rfl⟩⟩
    · exact h.elim
  case load t p =>
    split at h
    · rename_i a hx
      split at h
      · rename_i cs hc
        split at h
        · rename_i y hy
          obtain ⟨v, hr, hv'⟩ := load_rel inv (inv.oper (ds := ds) hx) hc hy
          simpa [hr] using here h hv'
        · exact h.elim
      · exact h.elim
    · exact h.elim
  case nilCheck x =>
    split at h
    · exact h.elim
    · exact h.elim
    · exact h.elim
    · rename_i a _ _ _ hx
      obtain ⟨hp, hk⟩ := h
      have hr := inv.oper (ds := ds) hx
      have : ∃ ad, Act.eval ⟨tm, ds⟩ x = .pointer (some ad) := by
        generalize Act.eval ⟨tm, ds⟩ x = u at hr
        cases a <;> simp [isPtr] at hp
        · have := hr.rptr_inv; cases this; exact ⟨_, rfl⟩
        · obtain ⟨L, rfl, _⟩ := hr.ptr_inv; exact ⟨_, rfl⟩
      obtain ⟨ad, e⟩ := this
      rw [e] at hr ⊢
      exact here hk hr
    · exact h.elim
  case binOp op t x y t' =>
    split at h
    · rename_i a b hx hy
      obtain ⟨r, h1, h2, h3⟩ := run_binw (P := E.P) (X := x) (Y := y) (inv.oper (ds := ds) hx) (inv.oper (ds := ds) hy) h w
      rw [Sem.run_bind, h1]
      exact here h2 (.pure (.v r))
    · exact h.elim
  case unOp op t x =>
    split at h
    · rename_i b hx
      rw [(inv.oper (ds := ds) hx).v_inv]
      simpa [Op.unary] using here h (.pure (.v _))
    · rename_i k n hx
      rw [(inv.oper (ds := ds) hx).v_inv]
      simpa [Op.unary, Op.intArith] using here h (.pure (.v _))
    · exact h.elim
  case convert src dst x =>
    split at h
    · rename_i a hx
      obtain ⟨v, w', M', y, h1, h2, h3, h4, h5⟩ := run_conv inv (inv.oper (ds := ds) hx) h
      exact ⟨v, w', M', J, y, s, c, by rw [Sem.run_bind, h1]; rfl, h2, h4, .pure h5, h3, SubJ.refl J, .inl ⟨rfl, rfl⟩⟩
    · exact h.elim
  case makeFunc fn first caps =>
    split at h
    · rename_i a b ha hb
      obtain ⟨a1, a2⟩ := operA_rel inv (ds := ds) ha
      obtain ⟨b1, b2⟩ := operA_rel inv (ds := ds) hb
      refine here h (.clo (by simp [a1]) (by simp [b1]) (fun i x v hx hv => ?_) (fun i x v hx hv => ?_))
      · obtain ⟨o', ho', hr⟩ := a2 i x hx
        simp only [Array.getElem?_map, Option.map_eq_some_iff] at hv
        obtain ⟨o2, ho2, rfl⟩ := hv
        rw [Array.getElem?_toList] at ho'; rw [ho'] at ho2; obtain rfl := Option.some.inj ho2
        exact hr
      · obtain ⟨o', ho', hr⟩ := b2 i x hx
        simp only [Array.getElem?_map, Option.map_eq_some_iff] at hv
        obtain ⟨o2, ho2, rfl⟩ := hv
        rw [Array.getElem?_toList] at ho'; rw [ho'] at ho2; obtain rfl := Option.some.inj ho2
        exact hr
    · exact h.elim
  case fieldAddr t x f =>
    have h' : opw E nm ver (.fieldAddr t x f) s K := by simp only [opw]; exact h
    obtain ⟨v, y, h1, h2, h3⟩ := field_sound inv (ds := ds) h'
    rw [Sem.run_bind, h1]; exact here h2 h3
  case field t x f =>
    split at h
    · rename_i o' t' n cs hf hx
      split at h
      · rename_i y hy
        obtain ⟨fields, fd, z, b, hu, hfd, ho', ht', hti⟩ := fld_some hf
        obtain ⟨vs, e1, hn, h1, h2⟩ := (inv.oper (ds := ds) hx).agg_inv
        obtain ⟨v, h3, h4⟩ := part_rel (E := E) hn h1 h2 hy w
        rw [e1]
        subst ho'; subst ht'
        simpa [Instr.field, run_underlying hu, hfd, asAgg, h3] using here h h4
      · exact h.elim
    · exact h.elim
  case indexAddr t x i =>
    have h' : opw E nm ver (.indexAddr t x i) s K := by simp only [opw]; exact h
    obtain ⟨v, y, h1, h2, h3⟩ := index_sound inv (ds := ds) h'
    rw [Sem.run_bind, h1]; exact here h2 h3
  case index t x i =>
    split at h
    · rename_i b k n hu hx hi
      obtain ⟨h0, hlt, hk⟩ := h
      rw [(inv.oper (ds := ds) hi).v_inv, (inv.oper (ds := ds) hx).v_inv]
      have hb : b[n.toNat]? = some (b[n.toNat]'hlt) := ByteArray.getElem?_lt' b _ hlt
      simpa [Instr.index, asIntOf, run_underlying hu, h0, hb] using here hk (.pure (.v _))
    · rename_i cs k n hstr hx hi
      split at h
      · rename_i m e sz hs
        obtain ⟨h0, h1, h⟩ := h
        split at h
        · rename_i y hy
          obtain ⟨hu, z, b, hti⟩ := arr_some hs
          obtain ⟨vs, e1, hn, h2, h3⟩ := (inv.oper (ds := ds) hx).agg_inv
          obtain ⟨v, h4, h5⟩ := part_rel (E := E) hn h2 h3 hy w
          rw [(inv.oper (ds := ds) hi).v_inv, e1]
          simpa [Instr.index, asIntOf, run_underlying hu, h0, h1, run_ti hti, h4] using here h h5
        · exact h.elim
      · exact h.elim
    · exact h.elim
  case extract x i =>
    split at h
    · rename_i xs hx
      split at h
      · rename_i a ha
        obtain ⟨vs, e1, hn, h2⟩ := (inv.oper (ds := ds) hx).tup_inv
        have hlt : i < vs.size := by rw [hn]; exact (List.getElem?_eq_some_iff.1 ha).1
        rw [e1]
        simpa [Instr.extract, Array.getElem?_eq_getElem hlt] using here h (h2 i a _ ha (Array.getElem?_eq_getElem hlt))
      · exact h.elim
    · exact h.elim
  case slice t x lo hi mx =>
    split at h
    · rename_i a l hh m hx hl hh' hm
      obtain ⟨k1, e1⟩ := bnd_val inv (ds := ds) hl
      obtain ⟨k2, e2⟩ := bnd_val inv (ds := ds) hh'
      obtain ⟨k3, e3⟩ := bnd_val inv (ds := ds) hm
      obtain ⟨v, y, h1, h2, h3⟩ := slice_sound inv (k1 := k1) (k2 := k2) (k3 := k3) (inv.oper (ds := ds) hx) h
      rw [e1, e2, e3, Sem.run_bind, h1]; exact here h2 h3
    · exact h.elim
  case makeSlice t l cp =>
    split at h
    · rename_i e z n by' a b hs hl hc
      split at h
      · rename_i cs hcs
        obtain ⟨rfl, h0, h1, h2, h3, h4, h5, hk⟩ := h
        obtain ⟨hu, hti⟩ := sle_some hs
        obtain ⟨i, hi, hiz, his, hib⟩ := ti_some hti
        rw [(inv.oper (ds := ds) hl).v_inv, (inv.oper (ds := ds) hc).v_inv]
        obtain ⟨c1, c2, c3⟩ := cells_rel (rel_ofV M J z) hcs
        have hz : z.cells.size = n := by rw [c1, h4]
        have hw : IntKind.i64.wrap b = b := by
          unfold maxLen at h1
          simp only [IntKind.wrap, IntKind.signed, IntKind.bits]
          simp; omega
        have hb48 : ¬ ((by' : Int) * b > 2 ^ 48) := by rw [Int.mul_comm]; omega
        have hrun : (Instr.makeSlice t (.int .i64 b) (.int .i64 b)).run E.P w = .ok (.slice (some ⟨w.heap.size, 0, none⟩) b.toNat b.toNat)
            (w.alloc (.cells ((Array.range (b.toNat * n)).map (z.cells[· % z.cells.size]!)) e)) := by
          have hneg : ¬ (b < 0) := by omega
          simp only [Instr.makeSlice, Sem.run_bind, run_underlying hu, Result.andThen_ok, asInt, asIntOf, Sem.run_pure, typeInfo, run_program, hi, hib, hw]
          rw [if_neg (by simp only [Bool.or_eq_true, decide_eq_true_eq, gt_iff_lt, not_or]; exact ⟨⟨⟨hneg, by omega⟩, hneg⟩, by omega⟩)]
          simp only [Sem.run_bind, run_askRoom, Result.andThen_ok, run_ti hti]
          by_cases hb0 : b.toNat * n = 0
          · have : ∀ f : Nat → Value, (Array.range 0).map f = #[] := by intro f; apply Array.eq_empty_of_size_eq_zero; simp
            rw [hb0]; simp only [if_true, newRow, Sem.run_bind, Sem.run_pure, Result.andThen_ok, run_newObj, this]; rfl
          · rw [if_neg hb0]; simp [run_zero hti, newRow]
        have hget : ∀ i j, i < b.toNat → j < n → ((Array.range (b.toNat * n)).map (z.cells[· % z.cells.size]!))[i * n + j]? = z.cells[j]? := by
          intro i j hi' hj
          have hlt : i * n + j < b.toNat * n := by
            have : (i + 1) * n ≤ b.toNat * n := Nat.mul_le_mul_right _ hi'
            rw [Nat.add_mul] at this; omega
          have hmod : (i * n + j) % n = j := by rw [Nat.add_comm, Nat.add_mul_mod_self_right, Nat.mod_eq_of_lt hj]
          rw [Array.getElem?_map, Array.getElem?_range, if_pos hlt]
          simp only [Option.map_some]
          rw [hz, hmod, getElem!_pos z.cells j (by omega), Array.getElem?_eq_getElem (by omega)]
        obtain ⟨J', hJ, hJ', hI⟩ := inv.new (nm := nm) (ver := ver) (es := List.replicate b.toNat cs) (ty := e) (box := false) (sz := n) (C := (Array.range (b.toNat * n)).map (z.cells[· % z.cells.size]!)) (cap := b.toNat)
          h5 hv (by simp) (by simp) (fun i e he => by
            rw [List.getElem?_replicate] at he
            split at he
            · obtain rfl := Option.some.inj he; exact h4
            · cases he) (fun i e j x he hx => by
            rw [List.getElem?_replicate] at he
            split at he
            · rename_i hi'
              obtain rfl := Option.some.inj he
              have hj : j < n := by rw [← h4]; exact (List.getElem?_eq_some_iff.1 hx).1
              obtain ⟨u, hu'⟩ : ∃ u, z.cells[j]? = some u := ⟨_, Array.getElem?_eq_getElem (by omega)⟩
              refine ⟨u, by rw [hget i j hi' hj]; exact hu', c2 j u hu', ?_⟩
              have hcr := cells_rel (rel_ofV M (fun _ => none) z) hcs
              unfold CellRel; simpa using (hcr.2.2 j x u hx hu').pure0
            · cases he) (by unfold maxLen at h1 ⊢; omega)
        rw [Sem.run_bind, hrun]
        exact ⟨_, _, M, J', _, _, _, rfl, hk, hI, .own hJ' (by show 0 + b.toNat ≤ b.toNat; omega) (fun h => by simp at h) (fun _ _ => by simp) (by simp), Sub.refl M, hJ, .inr ⟨rfl, rfl⟩⟩
      · exact h.elim
    · exact h.elim
  case call cl => exact absurd rfl (ho.1 cl)
end
end Go.Proofs.YtdgpilapblipbaaDoor.Abs
