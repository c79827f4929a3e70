/- A calculus over values: each operation does in memory what is said of it. -/
import Derived.Test.YtdgpilapblipbaaDoorAbsRun
namespace Go.Proofs.YtdgpilapblipbaaDoor.Abs
open Go Go.RowKit
set_option linter.unusedVariables false
set_option linter.unusedSimpArgs false

section
variable {E : Env} {M0 : Mem} {w0 : World} {c : Nat} {M : Mem} {J : Locs} {s : St} {tm : Array Value} {w : World} {K : AV → St → Prop} {ds : List Deferred} {nm ver : Nat}

theorem fill_idx {place : Nat → Option (Nat × Nat)} : ∀ {l : List (Nat × AV)} {A cs : List AV}, fillAV place A l = some cs → ∀ p ∈ l, place p.1 ≠ none
  | [], _, _, _, p, hp => by simp at hp
  | (i, x) :: rest, A, cs, h, p, hp => by
    simp only [fillAV] at h
    split at h
    · rename_i off size cs' hpl _
      split at h
      · rcases List.mem_cons.1 hp with rfl | hp
        · simp [hpl]
        · exact fill_idx h p hp
      · cases h
    · cases h

theorem run_ti {P : Program} {t : TypeId} {z : Option Value} {n b : Nat} (h : ti P t = some (z, n, b)) (w : World) : (sizeOf t).run P w = .ok n w := by
  obtain ⟨i, hi, _, hs, _⟩ := ti_some h
  simp [sizeOf, typeInfo, hi, hs]
theorem run_zero {P : Program} {t : TypeId} {z : Value} {n b : Nat} (h : ti P t = some (some z, n, b)) (w : World) : (zeroValue t).run P w = .ok z w := by
  obtain ⟨i, hi, hz, _, _⟩ := ti_some h
  simp [zeroValue, typeInfo, hi, hz]

theorem tsz_some {P : Program} {t : TypeId} {g : Bool} {n : Nat} (h : tsz P t = some (g, n)) :
    ∃ d z b, P.underlying t = some d ∧ ti P t = some (z, n, b) ∧ isAggT d = g := by
  unfold tsz at h
  split at h
  · rename_i d z n' b h1 h2
    simp only [Option.some.injEq, Prod.mk.injEq] at h
    obtain ⟨rfl, rfl⟩ := h
    exact ⟨d, z, b, h1, h2, rfl⟩
  · cases h
theorem run_isAgg {P : Program} {t : TypeId} {d : TypeDesc} (h : P.underlying t = some d) (w : World) : (isAgg t).run P w = .ok (isAggT d) w := by
  unfold isAgg
  simp only [Sem.run_bind, run_underlying h, Result.andThen_ok]
  cases d <;> rfl
theorem fld_some {P : Program} {t : TypeId} {f o : Nat} {t' : TypeId} {n : Nat} (h : fld P t f = some (o, t', n)) :
    ∃ fields fd z b, P.underlying t = some (.struct fields) ∧ fields[f]? = some fd ∧ fd.offset = o ∧ fd.type = t' ∧ ti P t' = some (z, n, b) := by
  unfold fld at h
  split at h
  · rename_i fields hu
    split at h
    · rename_i fd hf
      simp only [Option.map_eq_some_iff, Prod.mk.injEq] at h
      obtain ⟨⟨z, n', b⟩, h1, h2, h3, h4⟩ := h
      subst h3
      simp only at h4; subst h4
      exact ⟨fields, fd, z, b, hu, hf, h2, rfl, h1⟩
    · cases h
  · cases h
theorem sle_some {P : Program} {t e : TypeId} {z : Option Value} {n b : Nat} (h : sle P t = some (e, z, n, b)) :
    P.underlying t = some (.slice e) ∧ ti P e = some (z, n, b) := by
  unfold sle at h
  split at h
  · rename_i e' hu
    simp only [Option.map_eq_some_iff, Prod.mk.injEq] at h
    obtain ⟨x, h1, rfl, rfl⟩ := h
    exact ⟨hu, h1⟩
  · cases h
theorem arr_some {P : Program} {t e : TypeId} {m n : Nat} (h : arr P t = some (m, e, n)) :
    P.underlying t = some (.array m e) ∧ ∃ z b, ti P e = some (z, n, b) := by
  unfold arr at h
  split at h
  · rename_i m' e' hu
    simp only [Option.map_eq_some_iff, Prod.mk.injEq] at h
    obtain ⟨⟨z, n', b⟩, h1, rfl, rfl, rfl⟩ := h
    exact ⟨hu, z, b, h1⟩
  · cases h

/-- What is loaded. -/
theorem load_rel {a : AV} {u : Value} {cs : List AV} {t : TypeId} {x : AV} (inv : Inv E M0 w0 c M J s tm w) (hr : Rel M J a u) (h1 : cellsAt s a = some cs) (h2 : partOf E.P t cs = some x) :
    ∃ v, (Instr.loadAt t u).run E.P w = .ok v w ∧ Rel M J x v := by
  obtain ⟨b, o, rfl, hc⟩ := cellsAt_rel inv hr h1
  unfold partOf at h2
  split at h2
  · rename_i n ht
    obtain ⟨d, z, by', hu, hti, hg⟩ := tsz_some ht
    split at h2
    · rename_i hn
      obtain rfl := Option.some.inj h2
      have hf : ∀ j, j < n → ∃ v, w.cell? ⟨b, o + j, none⟩ = some v ∧ v.oneCell' = true ∧ ∀ y, cs[j]? = some y → Rel M J y v := by
        intro j hj
        obtain ⟨y, hy⟩ : ∃ y, cs[j]? = some y := ⟨_, List.getElem?_eq_getElem (by omega)⟩
        obtain ⟨v, a1, a2, a3⟩ := hc j y hy
        exact ⟨v, a1, a2, fun y' hy' => by rw [hy] at hy'; obtain rfl := Option.some.inj hy'; exact a3⟩
      have hfun : ∃ f : Nat → Value, ∀ j, j < n → w.cell? ⟨b, o + j, none⟩ = some (f j) ∧ (f j).oneCell' = true ∧ ∀ y, cs[j]? = some y → Rel M J y (f j) := by
        refine ⟨fun j => if h : j < n then Classical.choose (hf j h) else undef, fun j hj => ?_⟩
        simp only [dif_pos hj]
        exact Classical.choose_spec (hf j hj)
      obtain ⟨f, hf⟩ := hfun
      have hadd : ∀ j, (⟨b, o, none⟩ : Addr).add j = ⟨b, o + j, none⟩ := by
        intro j; unfold Addr.add; split
        · rename_i h0; subst h0; rfl
        · rfl
      have hrun := run_loadCells (P := E.P) (w := w) ⟨b, o, none⟩ n f (fun j hj => by rw [hadd]; exact (hf j hj).1)
      refine ⟨.agg ((List.range n).map f).toArray, ?_, ?_⟩
      · simp [Instr.loadAt, Instr.sureAddr, loadVar, run_isAgg hu, hg, run_ti hti, hrun]
      · refine .agg (by simp; omega) (fun i v hv => ?_) (fun i y v hy hv => ?_)
        · simp only [List.getElem?_toArray, List.getElem?_map, Option.map_eq_some_iff] at hv
          obtain ⟨j, hj, rfl⟩ := hv
          obtain ⟨hlt, rfl⟩ := List.getElem?_eq_some_iff.1 hj
          simp at hlt ⊢
          exact (hf _ (by simpa using hlt)).2.1
        · simp only [List.getElem?_toArray, List.getElem?_map, Option.map_eq_some_iff] at hv
          obtain ⟨j, hj, rfl⟩ := hv
          obtain ⟨hlt, rfl⟩ := List.getElem?_eq_some_iff.1 hj
          simp at hlt ⊢
          rw [List.getElem?_take, if_pos hlt] at hy
          exact (hf _ (by simpa using hlt)).2.2 y hy
    · cases h2
  · rename_i n ht
    obtain ⟨d, z, by', hu, hti, hg⟩ := tsz_some ht
    obtain ⟨v, a1, a2, a3⟩ := hc 0 x (by rw [← List.head?_eq_getElem?]; exact h2)
    refine ⟨v, ?_, a3⟩
    simp only [Nat.add_zero] at a1
    simp [Instr.loadAt, Instr.sureAddr, loadVar, run_isAgg hu, hg, a1]
  · cases h2

/-- A part of a value. -/
theorem part_rel {vs : Array Value} {cs : List AV} {t : TypeId} {o : Nat} {x : AV} (hn : vs.size = cs.length) (h1 : ∀ (i : Nat) (v : Value), vs[i]? = some v → v.oneCell' = true)
    (h : ∀ (i : Nat) (c : AV) (v : Value), cs[i]? = some c → vs[i]? = some v → Rel M J c v) (hp : partOf E.P t (cs.drop o) = some x) (w : World) :
    ∃ v, (part t vs o).run E.P w = .ok v w ∧ Rel M J x v := by
  unfold partOf at hp
  split at hp
  · rename_i n ht
    obtain ⟨d, z, by', hu, hti, hg⟩ := tsz_some ht
    split at hp
    · rename_i hl
      obtain rfl := Option.some.inj hp
      simp only [List.length_drop] at hl
      refine ⟨.agg (vs.extract o (o + n)), by simp [part, run_isAgg hu, hg, run_ti hti], ?_⟩
      have hg : ∀ i v, (vs.extract o (o + n))[i]? = some v → vs[o + i]? = some v ∧ i < n := by
        intro i v hv
        rw [Array.getElem?_extract] at hv
        split at hv
        · exact ⟨hv, by omega⟩
        · cases hv
      refine .agg (by simp; omega) (fun i v hv => h1 _ v (hg i v hv).1) (fun i y v hy hv => ?_)
      obtain ⟨hv', hi⟩ := hg i v hv
      rw [List.getElem?_take, if_pos hi, List.getElem?_drop] at hy
      exact h _ y v hy hv'
    · cases hp
  · rename_i n ht
    obtain ⟨d, z, by', hu, hti, hg⟩ := tsz_some ht
    rw [List.head?_eq_getElem?, List.getElem?_drop, Nat.add_zero] at hp
    have hlt : o < vs.size := by rw [hn]; exact (List.getElem?_eq_some_iff.1 hp).1
    refine ⟨vs[o], ?_, h o x _ hp (Array.getElem?_eq_getElem hlt)⟩
    simp [part, run_isAgg hu, hg, Array.getElem?_eq_getElem hlt]
  · cases hp

/-- A slice's elements are there. -/
theorem elems_rel (inv : Inv E M0 w0 c M J s tm w) {a : AV} {u : Value} {xs : List (List AV)} (hr : Rel M J a u) (h : elems s a = some xs) :
    ∃ A cap sz, u = .slice A xs.length cap ∧ xs.length ≤ cap ∧ (∀ (i : Nat) (e : List AV), xs[i]? = some e → e.length = sz) ∧ (xs ≠ [] → ∃ b o, A = some ⟨b, o, none⟩) ∧
      ∀ (b o i : Nat) (e : List AV) (j : Nat) (x : AV), A = some ⟨b, o, none⟩ → xs[i]? = some e → e[j]? = some x →
        ∃ v, w.cell? ⟨b, o + i * sz + j, none⟩ = some v ∧ v.oneCell' = true ∧ PRel M x v := by
  unfold elems at h
  split at h
  · rename_i sz xs'
    obtain rfl := Option.some.inj h
    have hp := hr.lst_inv
    cases hp with
    | lst u hn hc hz hA hM hx =>
      subst hn
      exact ⟨_, _, sz, rfl, hc, hz, hA, fun b o i e j x h1 h2 h3 => ⟨_, (inv.mem _ _ _ (hM b o i e j x h1 h2 h3)).1, (inv.mem _ _ _ (hM b o i e j x h1 h2 h3)).2, hx i e j x h2 h3⟩⟩
  · obtain rfl := Option.some.inj h
    obtain rfl := hr.v_inv
    exact ⟨none, 0, 0, rfl, Nat.le_refl _, fun i e he => by simp at he, fun hne => absurd rfl hne, fun b o i e j x h1 => by cases h1⟩
  · rename_i r ver off len
    split at h
    · rename_i k hk
      split at h
      · rename_i hc
        obtain ⟨hv, hl, hb⟩ := hc
        obtain rfl := Option.some.inj h
        obtain ⟨L, A, rfl, hL, hcap, hN, hA⟩ := hr.own_inv
        obtain ⟨L', C, hL', _, ok⟩ := inv.heap r k hk
        rw [hv, hL] at hL'; obtain rfl := Option.some.inj hL'
        have hlen : ((k.es.drop off).take len).length = len := by simp; omega
        have hget : ∀ (i : Nat) (e : List AV), ((k.es.drop off).take len)[i]? = some e → i < len ∧ k.es[off + i]? = some e := by
          intro i e he
          have hi : i < len := by have := (List.getElem?_eq_some_iff.1 he).1; omega
          rw [List.getElem?_take, if_pos hi, List.getElem?_drop] at he
          exact ⟨hi, he⟩
        have hnn : 0 < len → L.nil = false := by
          intro h0
          cases hb : L.nil with
          | false => rfl
          | true => have := ok.none hb; omega
        refine ⟨A, L.cap - off, k.sz, by rw [hlen], by rw [hlen]; omega, fun i e he => ok.len _ _ (hget i e he).2, ?_, ?_⟩
        · intro hne
          have : 0 < len := by rcases Nat.eq_zero_or_pos len with h0 | h0
                               · subst h0; simp at hne
                               · exact h0
          exact ⟨_, _, hA (hnn this) (by omega)⟩
        · intro b o i e j x hAb he hj
          obtain ⟨hi, he'⟩ := hget i e he
          have hn := hnn (by omega)
          rw [hA hn (by omega)] at hAb
          simp only [Option.some.injEq, Addr.mk.injEq, and_true] at hAb
          obtain ⟨rfl, rfl⟩ := hAb
          obtain ⟨v, hv1, hv2, hv3⟩ := ok.cell _ _ _ _ he' hj
          refine ⟨v, ?_, hv2, ?_⟩
          · rw [cell_of_row w _ _ C k.ty (0, 0) (ok.blk hn), ok.sz, ← hv1, Nat.add_mul]
          · unfold CellRel at hv3; rw [hb] at hv3; simpa using hv3
      · cases h
    · cases h
  · cases h
end
end Go.Proofs.YtdgpilapblipbaaDoor.Abs
