/- A calculus over values: append. -/
import Derived.Test.YtdgpilapblipbaaDoorAbsWrite
namespace Go.Proofs.YtdgpilapblipbaaDoor.Abs
open Go Go.RowKit
set_option linter.unusedVariables false
set_option linter.unusedSimpArgs false

section
variable {P : Program}

theorem toAdd (b o j : Nat) : (⟨b, o, none⟩ : Addr).add j = ⟨b, o + j, none⟩ := by
  unfold Addr.add; split
  · rename_i h0; subst h0; rfl
  · rfl

/-- What is appended: its length, and its cells, in whatever world that holds the same. -/
structure News (P : Program) (w : World) (size : Nat) (x : Value) (m : Nat) (news : List Value) : Prop where
  len : (Builtin.lenOf x).run P w = .ok m w
  cells : (Builtin.firstCells size m x).run P w = .ok news.toArray w
  drew : (Builtin.firstCells size m x).run P w.drew = .ok news.toArray w.drew
  size : news.length = m * size
  one : ∀ u ∈ news, u.oneCell' = true

theorem run_append_room' {t t' ty e : TypeId} {d : TypeDesc} {z : Option Value} {size by' : Nat} (ht : P.underlying t = some (.slice e)) (ht' : P.underlying t' = some d) (hd : ∀ k, d ≠ .int k)
    (hti : ti P e = some (z, size, by')) {w : World} {g sLen sCap m : Nat} {x : Value} {news : List Value} {C : Array Value} (hg : w.heap[g]? = some (.cells C e (0, 0)))
    (hx : News P w size x m news) (hroom : sLen + m ≤ sCap) (hfit : sCap * size ≤ C.size) :
    (Builtin.append_ #[t, t'] ty #[.slice (some ⟨g, 0, none⟩) sLen sCap, x]).run P w =
      .ok (.slice (some ⟨g, 0, none⟩) (sLen + m) sCap) (w.setRow g (C.toList.take (sLen * size) ++ news ++ C.toList.drop (sLen * size + news.length)).toArray) := by
  have hf : sLen * size + news.length ≤ C.size := by
    rw [hx.size, ← Nat.add_mul]; exact Nat.le_trans (Nat.mul_le_mul_right _ hroom) hfit
  have hst := run_storeCells_at P g (sLen * size) e news 0 C w hg (by simpa using hf) hx.one
  simp only [Nat.add_zero] at hst
  have hz : (match d with | .int _ => true | _ => false) = false := by cases d <;> first | rfl | exact absurd rfl (hd _)
  simp only [Builtin.append_, Sem.run_bind, run_underlying ht, Result.andThen_ok, run_ti hti, run_underlying ht', Sem.run_pure, List.getElem?_toArray, List.getElem?_cons_zero, List.getElem?_cons_succ]
  simp [hz, hx.len, hroom, hx.cells, toAdd, hst]

theorem run_append_grow' {t t' ty e : TypeId} {d : TypeDesc} {z : Value} {size by' : Nat} (ht : P.underlying t = some (.slice e)) (ht' : P.underlying t' = some d) (hd : ∀ k, d ≠ .int k)
    (hti : ti P e = some (some z, size, by')) {w : World} {A : Option Addr} {sLen sCap m : Nat} {x : Value} {news old : List Value}
    (hx : News P w size x m news) (hold : (Builtin.firstCells size sLen (.slice A sLen sCap)).run P w.drew = .ok old.toArray w.drew) (hroom : sCap < sLen + m) (hb : (sLen + m) * by' ≤ 140737488355328) (hm : sLen + m ≤ maxLen) :
    (Builtin.append_ #[t, t'] ty #[.slice A sLen sCap, x]).run P w =
      .ok (.slice (some ⟨w.heap.size, 0, none⟩) (sLen + m) (grownCap w (sLen + m) sCap e))
        (w.drew.alloc (.cells (old.toArray ++ news.toArray ++ Builtin.zeroCells z.cells (grownCap w (sLen + m) sCap e - (sLen + m))) e)) := by
  have hz : (match d with | .int _ => true | _ => false) = false := by cases d <;> first | rfl | exact absurd rfl (hd _)
  obtain ⟨i, hi, hiz, his, hib⟩ := ti_some hti
  have hbig := growslice_fits (old := sCap) hroom hb
  unfold maxLen at hm
  have h1 : ¬ (((sLen + m : Nat) : Int) > IntKind.i64.max) := by simp only [IntKind.max, IntKind.signed, IntKind.bits]; simp; omega
  have h1' : ¬ (IntKind.i64.max < ((sLen : Int) + (m : Int))) := by simp only [IntKind.max, IntKind.signed, IntKind.bits]; simp; omega
  have h2 : ¬ (Builtin.nextslicecap (sLen + m) sCap * by' > 2 ^ 48) := by omega
  have hcut : (Question.appendCap (sLen + m) sCap e).forced = false := rfl
  have hdr : ({ w with drawn := w.drawn + 1 } : World) = w.drew := rfl
  simp only [Builtin.append_, Sem.run_bind, run_underlying ht, Result.andThen_ok, run_ti hti, run_underlying ht', Sem.run_pure, List.getElem?_toArray, List.getElem?_cons_zero, List.getElem?_cons_succ, hz, Bool.false_eq_true, if_false, hx.len]
  rw [if_neg (by omega)]
  simp only [Sem.run_bind, typeInfo, run_program, Result.andThen_ok, hi, Sem.run_pure, hib, h2, h1, h1', if_false, false_and, Sem.run_ite, run_choose, hcut, Bool.false_eq_true, hdr, run_askRoom, hold, hx.drew, hiz, zeroValue, newRow, run_newObj, if_neg h2]
  rfl
end

section
variable {E : Env} {M0 : Mem} {w0 : World} {c : Nat} {M : Mem} {J : Locs} {s : St} {tm : Array Value} {w : World}

theorem Inv.ctrN (n : Nat) (inv : Inv E M0 w0 c M J s tm w) : Inv E M0 w0 c M J { s with ctr := n } tm w := { inv with }

theorem Inv.drew (inv : Inv E M0 w0 c M J s tm w) : Inv E M0 w0 c M J s tm w.drew :=
  ⟨inv.below.drew, fun b o u h => inv.mem b o u h, inv.newM, inv.oldM, inv.glob, inv.slot,
    fun r k hk => let ⟨L, C, a1, a2, a3⟩ := inv.heap r k hk; ⟨L, C, a1, a2, a3.world fun _ => rfl⟩, inv.apart, inv.owns, inv.vers⟩

/-- What is appended stands for elements. -/
structure NewsOK (M : Mem) (n : Nat) (ys : List (List AV)) (news : List Value) : Prop where
  len : ∀ (i : Nat) (e : List AV), ys[i]? = some e → e.length = n
  size : news.length = ys.length * n
  cell : ∀ (i : Nat) (e : List AV) (j : Nat) (x : AV), ys[i]? = some e → e[j]? = some x → ∃ u, news[i * n + j]? = some u ∧ u.oneCell' = true ∧ PRel M x u

theorem NewsOK.one {n : Nat} {ys : List (List AV)} {news : List Value} (h : NewsOK M n ys news) (hn : 0 < n) : ∀ u ∈ news, u.oneCell' = true := by
  intro u hu
  obtain ⟨o, ho, rfl⟩ := List.getElem_of_mem hu
  have hq : o / n < ys.length := (Nat.div_lt_iff_lt_mul hn).2 (by rw [← h.size]; exact ho)
  obtain ⟨e, he⟩ : ∃ e, ys[o / n]? = some e := ⟨_, List.getElem?_eq_getElem hq⟩
  obtain ⟨x, hx⟩ : ∃ x, e[o % n]? = some x := ⟨_, List.getElem?_eq_getElem (by rw [h.len _ _ he]; exact Nat.mod_lt _ hn)⟩
  obtain ⟨u', h1, h2, _⟩ := h.cell _ _ _ _ he hx
  rw [Nat.div_add_mod' o n, List.getElem?_eq_getElem ho] at h1
  rw [Option.some.inj h1]; exact h2

/-- A grown row's cells. -/
theorem grown_cells {box : Bool} {n : Nat} {es ys : List (List AV)} {old news rest : List Value} {D : Array Value} (hb : box = false) (hold : old.length = es.length * n)
    (hes : ∀ (i : Nat) (e : List AV), es[i]? = some e → e.length = n)
    (hcell : ∀ (i : Nat) (e : List AV) (j : Nat) (x : AV), es[i]? = some e → e[j]? = some x → ∃ u, old[i * n + j]? = some u ∧ u.oneCell' = true ∧ PRel M x u)
    (hn : NewsOK M n ys news) (hD : D.toList = old ++ news ++ rest) :
    (∀ (i : Nat) (e : List AV), (es ++ ys)[i]? = some e → e.length = n) ∧
    ∀ (i : Nat) (e : List AV) (j : Nat) (x : AV), (es ++ ys)[i]? = some e → e[j]? = some x → ∃ u, D[i * n + j]? = some u ∧ u.oneCell' = true ∧ CellRel M J box x u := by
  have hDg : ∀ o : Nat, D[o]? = (old ++ news ++ rest)[o]? := by intro o; rw [← hD]; simp
  refine ⟨fun i e he => ?_, fun i e j x he hx => ?_⟩
  · rcases Nat.lt_or_ge i es.length with h | h
    · rw [List.getElem?_append_left h] at he; exact hes i e he
    · rw [List.getElem?_append_right h] at he; exact hn.len _ e he
  · rcases Nat.lt_or_ge i es.length with h | h
    · rw [List.getElem?_append_left h] at he
      obtain ⟨u, h1, h2, h3⟩ := hcell i e j x he hx
      refine ⟨u, ?_, h2, by unfold CellRel; rw [hb]; simpa using h3⟩
      rw [hDg, List.append_assoc, List.getElem?_append_left (List.getElem?_eq_some_iff.1 h1).1]; exact h1
    · rw [List.getElem?_append_right h] at he
      obtain ⟨u, h1, h2, h3⟩ := hn.cell _ e j x he hx
      refine ⟨u, ?_, h2, by unfold CellRel; rw [hb]; simpa using h3⟩
      have hlt := (List.getElem?_eq_some_iff.1 h1).1
      have hge : es.length * n ≤ i * n := Nat.mul_le_mul_right _ h
      rw [hDg, List.append_assoc, List.getElem?_append_right (by rw [hold]; omega), List.getElem?_append_left (by rw [hold]; rw [Nat.sub_mul] at hlt; omega), hold, ← h1]
      congr 1
      rw [Nat.sub_mul]; omega

theorem zeroCells_size (z : Array Value) (n : Nat) : (Builtin.zeroCells z n).size = n * z.size := by simp [Builtin.zeroCells]

/-- What has been read of a row. -/
theorem first_row {n len cap : Nat} {es : List (List AV)} {C : Array Value} {b : Nat} {ty : TypeId} (hg : w.heap[b]? = some (.cells C ty (0, 0))) (hlen : len * n ≤ C.size) :
    (Builtin.firstCells n len (.slice (some ⟨b, 0, none⟩) len cap)).run E.P w = .ok (C.toList.take (len * n)).toArray w := by
  have := run_firstCells_some (P := E.P) w n len ⟨b, 0, none⟩ len cap (C.toList.take (len * n)) (by simp; omega) (fun j u hj => by
    rw [List.getElem?_take] at hj
    split at hj
    · rw [toAdd, Nat.zero_add, cell_of_row w b j C ty (0, 0) hg]; simpa using hj
    · cases hj)
  exact this

theorem app_sound (inv : Inv E M0 w0 c M J s tm w) {nm ver : Nat} (hv : c ≤ ver) {t t' ty : TypeId} {d : TypeDesc} {a : AV} {u x : Value} {ys : List (List AV)} {K : AV → St → Prop}
    (ht' : E.P.underlying t' = some d) (hd : ∀ k, d ≠ .int k) (hr : Rel M J a u) (h : appw E nm ver t s a ys K)
    (hx : ∀ n, 0 < n → (∀ y ∈ ys, y.length = n) → ∃ news, News E.P w n x ys.length news ∧ NewsOK M n ys news) :
    ∃ v w' J' y s', (Builtin.append_ #[t, t'] ty #[u, x]).run E.P w = .ok v w' ∧ K y s' ∧ Inv E M0 w0 (ver + 1) M J' s' tm w' ∧ Rel M J' y v ∧ SubJ J J' ∧ s'.ctr = ver + 8 := by
  unfold appw at h
  split at h
  case h_2 => exact h.elim
  rename_i e z n by' hsle
  obtain ⟨hut, hti⟩ := sle_some hsle
  obtain ⟨hn0, hzn, hlen, h⟩ := h
  obtain ⟨news, hN, hOK⟩ := hx n hn0 hlen
  split at h
  · -- nil
    obtain ⟨h1, h2, h3, hK⟩ := h
    obtain rfl := hr.v_inv
    rcases Nat.eq_zero_or_pos ys.length with h0 | h0
    · have : ys = [] := List.eq_nil_of_length_eq_zero h0
      subst this
      obtain ⟨J', hJ, hJ', hI⟩ := inv.newNil (sz := n) (ty := e) (box := false) h3 hv
      refine ⟨.slice none 0 0, w, J', _, _, ?_, hK, hI, .own hJ' (by simp) (fun _ => rfl) (fun h => by simp at h) rfl, hJ, rfl⟩
      have hz : (match d with | .int _ => true | _ => false) = false := by cases d <;> first | rfl | exact absurd rfl (hd _)
      have hnl : news = [] := List.eq_nil_of_length_eq_zero (by rw [hOK.size]; simp)
      subst hnl
      have hl := hN.len; have hc := hN.cells
      simp only [List.length_nil] at hl hc
      simp only [Builtin.append_, Sem.run_bind, run_underlying hut, Result.andThen_ok, run_ti hti, run_underlying ht', Sem.run_pure, List.getElem?_toArray, List.getElem?_cons_zero, List.getElem?_cons_succ]
      simp [hz, hl, hc]
    · have hg := run_append_grow' (ty := ty) (t := t) hut ht' hd hti (w := w) (A := none) (sLen := 0) (sCap := 0) hN (old := []) (by simp [Builtin.firstCells]) (by omega) (by simpa using h2) (by simpa using h1)
      simp only [Nat.zero_add] at hg
      obtain ⟨c1, c2⟩ := grown_cells (M := M) (J := J) (box := false) (es := []) (old := []) (rest := (Builtin.zeroCells z.cells (grownCap w ys.length 0 e - ys.length)).toList) (D := (#[] ++ news.toArray ++ Builtin.zeroCells z.cells (grownCap w ys.length 0 e - ys.length))) rfl (by simp) (by simp) (by simp) hOK (by simp)
      simp only [List.nil_append] at c1 c2
      have hcap := grownCap_ge w ys.length 0 e
      have hcm := grownCap_le_maxLen w ys.length 0 e h1
      obtain ⟨J', hJ, hJ', hI⟩ := inv.drew.new (ty := e) (box := false) (sz := n) (cap := grownCap w ys.length 0 e) h3 hv (by
        simp only [Array.size_append, zeroCells_size, hzn, List.size_toArray, hOK.size]
        simp only [List.length_nil, Nat.zero_add, ← Nat.add_mul]; congr 1; omega) hcap c1 c2 hcm
      exact ⟨_, _, J', _, _, hg, hK, hI, .own hJ' (by simp [hcap]) (fun h => by simp at h) (fun _ _ => by simp) (by simp), hJ, rfl⟩
  · -- our own
    rename_i r v off len
    split at h
    case h_2 => exact h.elim
    rename_i k hk
    obtain ⟨hkv, hbox, hksz, hkty, rfl, rfl, h1, h2, hK⟩ := h
    obtain ⟨L, A, rfl, hL, hcap, hLN, hLA⟩ := hr.own_inv
    obtain ⟨L', C, hL', hb, ok⟩ := inv.heap r k hk
    rw [hkv, hL] at hL'; obtain rfl := Option.some.inj hL'
    have hLk : J k.ver = some L := by rw [hkv]; exact hL
    subst hksz; subst hkty
    have hfr : ∀ J' : Locs, SubJ J J' → ∀ k' : Blk, True := fun _ _ _ => trivial
    simp only [Nat.sub_zero]
    rw [Nat.zero_add] at hcap
    have hJ0 : ∀ Lx : Loc, SubJ J (fun r => if r = ver then some Lx else J r) := by
      intro Lx r' L2 h
      have := inv.vers r' L2 h
      show (if r' = ver then some Lx else J r') = some L2
      rw [if_neg (by omega)]; exact h
    have hv0 : ∀ Lx : Loc, ∀ r' L2, (fun r => if r = ver then some Lx else J r) r' = some L2 → r' < ver + 1 := by
      intro Lx r' L2 h
      simp only at h
      split at h
      · omega
      · have := inv.vers r' L2 h; omega
    cases hnil : L.nil with
    | true =>
      have hc0 : L.cap = 0 := ok.none hnil
      have hes0 : k.es = [] := List.eq_nil_of_length_eq_zero (by have := ok.fits; omega)
      obtain rfl := hLN hnil
      rcases Nat.eq_zero_or_pos ys.length with h0 | h0
      · have : ys = [] := List.eq_nil_of_length_eq_zero h0
        subst this
        have hnl : news = [] := List.eq_nil_of_length_eq_zero (by rw [hOK.size]; simp)
        subst hnl
        refine ⟨.slice none (k.es.length + ([] : List (List AV)).length) (L.cap - 0), w, fun r => if r = ver then some L else J r, _, _, ?_, hK, ?_, .own (L := L) (by simp) (by simpa using hcap) (fun _ => rfl) (fun h => by rw [hnil] at h; cases h) rfl, hJ0 L, rfl⟩
        · have hz : (match d with | .int _ => true | _ => false) = false := by cases d <;> first | rfl | exact absurd rfl (hd _)
          have hl := hN.len; have hc := hN.cells
          simp only [List.length_nil] at hl hc
          simp only [Builtin.append_, Sem.run_bind, run_underlying hut, Result.andThen_ok, run_ti hti, run_underlying ht', Sem.run_pure, List.getElem?_toArray, List.getElem?_cons_zero, List.getElem?_cons_succ, hes0, hc0]
          simp [hz, hl, hc]
        · refine Inv.ctrN (s := { s with hp := set s.hp r { k with ver := ver, es := k.es ++ [] } }) (ver + 8) ?_
          refine inv.replace hk hLk ok rfl rfl rfl (Nat.le_refl _) (fun _ _ _ => rfl) (fun h => by rw [hnil] at h; cases h) (k' := { k with ver := ver, es := k.es ++ [] }) (L' := L) (hJ0 L) (by simp) (hv0 L) (C' := C) ?_ (fun h => by rw [hnil] at h; cases h)
          exact ⟨ok.blk, ok.none, ok.size, by simpa using ok.fits, by simpa using ok.frz, ok.sz, by simpa using ok.len, by
            intro i e j x he; simp [hes0] at he, ok.cap⟩
      · have hg := run_append_grow' (ty := ty) (t := t) hut ht' hd hti (w := w) (A := none) (sLen := k.es.length) (sCap := L.cap) hN (old := []) (by rw [hes0]; simp [Builtin.firstCells]) (by omega) h2 h1
        obtain ⟨c1, c2⟩ := grown_cells (M := M) (J := fun r => if r = ver then some (⟨w.heap.size, grownCap w (k.es.length + ys.length) L.cap k.ty, k.sz, false⟩ : Loc) else J r) (box := k.box) (es := []) (old := []) (rest := (Builtin.zeroCells z.cells (grownCap w (k.es.length + ys.length) L.cap k.ty - (k.es.length + ys.length))).toList) (D := (#[] ++ news.toArray ++ Builtin.zeroCells z.cells (grownCap w (k.es.length + ys.length) L.cap k.ty - (k.es.length + ys.length)))) hbox (by simp) (by simp) (by simp) hOK (by simp)
        simp only [List.nil_append] at c1 c2
        have hcap := grownCap_ge w (k.es.length + ys.length) L.cap k.ty
        have hcm := grownCap_le_maxLen w (k.es.length + ys.length) L.cap k.ty h1
        refine ⟨_, _, fun r => if r = ver then some (⟨w.heap.size, grownCap w (k.es.length + ys.length) L.cap k.ty, k.sz, false⟩ : Loc) else J r, _, _, hg, hK, ?_, .own (L := ⟨w.heap.size, grownCap w (k.es.length + ys.length) L.cap k.ty, k.sz, false⟩) (by simp) (by simpa using hcap) (fun h => by simp at h) (fun _ _ => by simp) (by simp), hJ0 _, rfl⟩
        refine Inv.ctrN (s := { s with hp := set s.hp r { k with ver := ver, es := k.es ++ ys } }) (ver + 8) ?_
        refine inv.replace hk hLk ok (w' := w.drew.alloc _) rfl rfl rfl (by simp) (fun b hb _ => Below.heap_alloc w.drew _ b hb) (fun h => by rw [hnil] at h; cases h) (k' := { k with ver := ver, es := k.es ++ ys }) (L' := ⟨w.heap.size, grownCap w (k.es.length + ys.length) L.cap k.ty, k.sz, false⟩) (hJ0 _) (by simp) (hv0 _)
          (C' := (#[] ++ news.toArray ++ Builtin.zeroCells z.cells (grownCap w (k.es.length + ys.length) L.cap k.ty - (k.es.length + ys.length)))) ?_ (fun _ => .inr (Nat.le_refl _))
        refine ⟨fun _ => heap_alloc_new w.drew _, fun h => by simp at h, ?_, by simpa using hcap, by have := ok.frz; simp; omega, rfl, by simpa [hes0] using c1, by simpa [hes0] using c2, hcm⟩
        simp only [Array.size_append, zeroCells_size, hzn, List.size_toArray, hOK.size, hes0]
        simp only [List.length_nil, Nat.zero_add, ← Nat.add_mul]; congr 1
        rw [hes0] at hcap; simp at hcap; omega
    | false =>
      obtain rfl := hLA hnil (.inl rfl)
      simp only [Nat.zero_mul]
      have hblk := ok.blk hnil
      have holdlen : (C.toList.take (k.es.length * k.sz)).length = k.es.length * k.sz := by
        simp only [List.length_take, Array.length_toList, ok.size]
        have : k.es.length * k.sz ≤ L.cap * k.sz := Nat.mul_le_mul_right _ ok.fits
        omega
      have holdcell : ∀ (i : Nat) (e : List AV) (j : Nat) (x : AV), k.es[i]? = some e → e[j]? = some x → ∃ u, (C.toList.take (k.es.length * k.sz))[i * k.sz + j]? = some u ∧ u.oneCell' = true ∧ PRel M x u := by
        intro i e j x he hx
        obtain ⟨u, a1, a2, a3⟩ := ok.cell i e j x he hx
        have hi := (List.getElem?_eq_some_iff.1 he).1
        have hj := (List.getElem?_eq_some_iff.1 hx).1
        rw [ok.len i e he] at hj
        have : (i + 1) * k.sz ≤ k.es.length * k.sz := Nat.mul_le_mul_right _ hi
        rw [Nat.add_mul] at this
        refine ⟨u, ?_, a2, ?_⟩
        · rw [List.getElem?_take, if_pos (by omega)]; simpa using a1
        · unfold CellRel at a3; rw [hbox] at a3; simpa using a3
      by_cases hroom : k.es.length + ys.length ≤ L.cap
      · have hg := run_append_room' (ty := ty) (t := t) hut ht' hd hti hblk hN hroom (by rw [ok.size]; exact Nat.le_refl _)
        have hDl : (C.toList.take (k.es.length * k.sz) ++ news ++ C.toList.drop (k.es.length * k.sz + news.length)).length = C.size := by
          simp only [List.length_append, holdlen, List.length_drop, Array.length_toList, hOK.size, ok.size]
          have : (k.es.length + ys.length) * k.sz ≤ L.cap * k.sz := Nat.mul_le_mul_right _ hroom
          rw [Nat.add_mul] at this; omega
        obtain ⟨c1, c2⟩ := grown_cells (M := M) (J := fun r => if r = ver then some L else J r) (box := k.box) (rest := C.toList.drop (k.es.length * k.sz + news.length)) (D := (C.toList.take (k.es.length * k.sz) ++ news ++ C.toList.drop (k.es.length * k.sz + news.length)).toArray) hbox holdlen ok.len holdcell hOK (by simp)
        refine ⟨_, _, fun r => if r = ver then some L else J r, _, _, hg, hK, ?_, .own (L := L) (by simp) (by simpa using hroom) (fun h => by rw [hnil] at h; cases h) (fun _ _ => by rw [Nat.zero_mul]) rfl, hJ0 L, rfl⟩
        refine Inv.ctrN (s := { s with hp := set s.hp r { k with ver := ver, es := k.es ++ ys } }) (ver + 8) ?_
        refine inv.replace hk hLk ok (w' := w.setRow L.b _) rfl rfl rfl (by simp) (fun b hb hne => setRow_other w L.b b _ (hne hnil)) ?_ (k' := { k with ver := ver, es := k.es ++ ys }) (L' := L) (hJ0 L) (by simp) (hv0 L)
          (C' := (C.toList.take (k.es.length * k.sz) ++ news ++ C.toList.drop (k.es.length * k.sz + news.length)).toArray) ?_ (fun _ => .inl ⟨hnil, rfl, Nat.le_refl _⟩)
        · intro _ o ho
          rw [cell_setRow_same w L.b o C _ _ _ hblk, cell_of_row w L.b o C _ _ hblk]
          have hfk : k.frz * k.sz ≤ k.es.length * k.sz := Nat.mul_le_mul_right _ ok.frz
          simp only [List.getElem?_toArray, List.append_assoc]
          rw [List.getElem?_append_left (by omega), List.getElem?_take, if_pos (by omega)]; simp
        · refine ⟨fun _ => setRow_heap w L.b C _ _ _ hblk, (fun h => by rw [hnil] at h; cases h), ?_, ?_, ?_, ok.sz, c1, c2, ok.cap⟩
          · rw [List.size_toArray, hDl]; exact ok.size
          · rw [List.length_append]; exact hroom
          · rw [List.length_append]; have := ok.frz; exact Nat.le_trans this (Nat.le_add_right _ _)
      · have hg := run_append_grow' (ty := ty) (t := t) hut ht' hd hti (w := w) (A := some ⟨L.b, 0, none⟩) (sLen := k.es.length) (sCap := L.cap) hN (old := C.toList.take (k.es.length * k.sz)) (by
            have := first_row (E := E) (w := w.drew) (n := k.sz) (len := k.es.length) (cap := L.cap) (es := k.es) (C := C) (b := L.b) (ty := k.ty) hblk (by rw [ok.size]; exact Nat.mul_le_mul_right _ ok.fits)
            exact this) (by omega) h2 h1
        obtain ⟨c1, c2⟩ := grown_cells (M := M) (J := fun r => if r = ver then some (⟨w.heap.size, grownCap w (k.es.length + ys.length) L.cap k.ty, k.sz, false⟩ : Loc) else J r) (box := k.box) (rest := (Builtin.zeroCells z.cells (grownCap w (k.es.length + ys.length) L.cap k.ty - (k.es.length + ys.length))).toList) (D := ((C.toList.take (k.es.length * k.sz)).toArray ++ news.toArray ++ Builtin.zeroCells z.cells (grownCap w (k.es.length + ys.length) L.cap k.ty - (k.es.length + ys.length)))) hbox holdlen ok.len holdcell hOK (by simp)
        have hcap := grownCap_ge w (k.es.length + ys.length) L.cap k.ty
        have hcm := grownCap_le_maxLen w (k.es.length + ys.length) L.cap k.ty h1
        refine ⟨_, _, fun r => if r = ver then some (⟨w.heap.size, grownCap w (k.es.length + ys.length) L.cap k.ty, k.sz, false⟩ : Loc) else J r, _, _, hg, hK, ?_, .own (L := ⟨w.heap.size, grownCap w (k.es.length + ys.length) L.cap k.ty, k.sz, false⟩) (by simp) (by simpa using hcap) (fun h => by simp at h) (fun _ _ => by simp) (by simp), hJ0 _, rfl⟩
        refine Inv.ctrN (s := { s with hp := set s.hp r { k with ver := ver, es := k.es ++ ys } }) (ver + 8) ?_
        refine inv.replace hk hLk ok (w' := w.drew.alloc _) rfl rfl rfl (by simp) (fun b hb _ => Below.heap_alloc w.drew _ b hb) ?_ (k' := { k with ver := ver, es := k.es ++ ys }) (L' := ⟨w.heap.size, grownCap w (k.es.length + ys.length) L.cap k.ty, k.sz, false⟩) (hJ0 _) (by simp) (hv0 _)
          (C' := ((C.toList.take (k.es.length * k.sz)).toArray ++ news.toArray ++ Builtin.zeroCells z.cells (grownCap w (k.es.length + ys.length) L.cap k.ty - (k.es.length + ys.length)))) ?_ (fun _ => .inr (Nat.le_refl _))
        · intro _ o _
          exact World.cell?_of_block (a := ⟨L.b, o, none⟩) (Below.heap_alloc w.drew _ L.b (by have := lt_of_blk ok hnil; exact this))
        · refine ⟨fun _ => heap_alloc_new w.drew _, fun h => by simp at h, ?_, by simpa using hcap, by have := ok.frz; simp; omega, rfl, c1, c2, hcm⟩
          simp only [Array.size_append, zeroCells_size, hzn, List.size_toArray, hOK.size, holdlen]
          simp only [← Nat.add_mul]; congr 1; omega
  · exact h.elim
end
end Go.Proofs.YtdgpilapblipbaaDoor.Abs
