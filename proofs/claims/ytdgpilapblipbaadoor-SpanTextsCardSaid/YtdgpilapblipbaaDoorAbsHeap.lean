/- A calculus over values: new rows and variables; rows that are written no more. -/
import Derived.Test.YtdgpilapblipbaaDoorAbsSound
namespace Go.Proofs.YtdgpilapblipbaaDoor.Abs
open Go Go.RowKit
set_option linter.unusedSimpArgs false
set_option linter.unusedVariables false

theorem get_append {α : Type} (l : List (Nat × α)) (k t : Nat) (x : α) :
    get (l ++ [(k, x)]) t = match get l t with | some y => some y | none => if t = k then some x else none := by
  induction l with
  | nil => simp [get_nil, get_cons]
  | cons p l ih =>
    obtain ⟨k', x'⟩ := p
    simp only [List.cons_append, get_nil, get_cons]
    split
    · rfl
    · exact ih
theorem get_set {α : Type} (l : List (Nat × α)) (k t : Nat) (x y : α) (h : get l k = some y) : get (set l k x) t = if t = k then some x else get l t := get_cons _ _ _ _
theorem get_del {α : Type} (l : List (Nat × α)) (k t : Nat) : get (del l k) t = if t = k then none else get l t := by
  induction l with
  | nil => simp [get, del]
  | cons p l ih =>
    obtain ⟨k', x'⟩ := p
    simp only [del]
    by_cases hk : k = k'
    · rw [if_pos hk, ih]; subst hk
      simp only [get_nil, get_cons]
      by_cases ht : t = k
      · rw [if_pos ht, if_pos ht]
      · rw [if_neg ht, if_neg ht, if_neg ht]
    · rw [if_neg hk]
      simp only [get_nil, get_cons]
      by_cases ht : t = k'
      · rw [if_pos ht, if_pos ht, if_neg (by omega)]
      · rw [if_neg ht, if_neg ht]; exact ih

theorem mapM_some {α β : Type} {f : α → Option β} : ∀ {l : List α} {l' : List β}, l.mapM f = some l' →
    l'.length = l.length ∧ ∀ (i : Nat) (y : β), l'[i]? = some y → ∃ x, l[i]? = some x ∧ f x = some y
  | [], l', h => by simp at h; subst h; simp
  | x :: l, l', h => by
    rw [List.mapM_cons] at h
    cases hx : f x with
    | none => simp [hx] at h
    | some y =>
      cases hl : l.mapM f with
      | none => simp [hx, hl] at h
      | some ys =>
        simp [hx, hl] at h
        subst h
        obtain ⟨h1, h2⟩ := mapM_some hl
        refine ⟨by simp [h1], fun i z hz => ?_⟩
        cases i with
        | zero => simp at hz; subst hz; exact ⟨x, rfl, hx⟩
        | succ i => simpa using h2 i z (by simpa using hz)

section
variable {E : Env} {M0 : Mem} {w0 : World} {c : Nat} {M : Mem} {J : Locs} {s : St} {tm : Array Value} {w : World}

theorem BlkOK.mono {M' : Mem} {J' : Locs} {L : Loc} {k : Blk} {C : Array Value} (hM : Sub M M') (hJ : SubJ J J') (h : BlkOK M J w L k C) : BlkOK M' J' w L k C :=
  { h with cell := fun i e j x h1 h2 => let ⟨u, a, b, d⟩ := h.cell i e j x h1 h2; ⟨u, a, b, d.mono hM hJ⟩ }
theorem BlkOK.world {w' : World} {L : Loc} {k : Blk} {C : Array Value} (h : BlkOK M J w L k C) (hw : L.nil = false → w'.heap[L.b]? = w.heap[L.b]?) : BlkOK M J w' L k C :=
  { h with blk := fun hn => (hw hn).trans (h.blk hn) }

theorem lt_of_blk {L : Loc} {k : Blk} {C : Array Value} (h : BlkOK M J w L k C) (hn : L.nil = false) : L.b < w.heap.size := by
  have := h.blk hn
  rcases Nat.lt_or_ge L.b w.heap.size with h | h
  · exact h
  · rw [Array.getElem?_eq_none h] at this; cases this

theorem Inv.weaken {c' : Nat} (inv : Inv E M0 w0 c M J s tm w) (h : c ≤ c') : Inv E M0 w0 c' M J s tm w :=
  { inv with vers := fun r L hr => Nat.lt_of_lt_of_le (inv.vers r L hr) h }

theorem cell_push (w : World) (o : Obj) (b off : Nat) (u : Value) (h : w.cell? ⟨b, off, none⟩ = some u) : (w.alloc o).cell? ⟨b, off, none⟩ = some u := by
  have := World.block_lt_of_cell? w ⟨b, off, none⟩ h
  rw [World.cell?_alloc_lt w _ (a := ⟨b, off, none⟩) this]; exact h

/-- A new row, or variable. -/
theorem Inv.new (inv : Inv E M0 w0 c M J s tm w) {nm ver sz : Nat} {ty : TypeId} {box : Bool} {es : List (List AV)} {C : Array Value} {cap : Nat}
    (hnm : get s.hp nm = none) (hv : c ≤ ver) (hC : C.size = cap * sz) (hes : es.length ≤ cap) (hlen : ∀ (i : Nat) (e : List AV), es[i]? = some e → e.length = sz)
    (hcell : ∀ (i : Nat) (e : List AV) (j : Nat) (x : AV), es[i]? = some e → e[j]? = some x → ∃ u, C[i * sz + j]? = some u ∧ u.oneCell' = true ∧ CellRel M J box x u)
    (hcap : cap ≤ maxLen) :
    ∃ J', SubJ J J' ∧ J' ver = some ⟨w.heap.size, cap, sz, false⟩ ∧ Inv E M0 w0 (ver + 1) M J' (s.new nm ver sz ty box es) tm (w.alloc (.cells C ty)) := by
  refine ⟨fun r => if r = ver then some ⟨w.heap.size, cap, sz, false⟩ else J r, ?_, by simp, ?_⟩
  · intro r L h
    have := inv.vers r L h
    simp only
    rw [if_neg (by omega)]; exact h
  · have hJ : SubJ J (fun r => if r = ver then some ⟨w.heap.size, cap, sz, false⟩ else J r) := by
      intro r L h
      have := inv.vers r L h
      simp only
      rw [if_neg (by omega)]; exact h
    have hold : ∀ r k, get s.hp r = some k → k.ver ≠ ver := by
      intro r k hk e
      obtain ⟨L, C', hL, _⟩ := inv.heap r k hk
      have := inv.vers _ _ hL
      omega
    have hget : ∀ r k, get (s.new nm ver sz ty box es).hp r = some k → (get s.hp r = some k ∧ k.ver ≠ ver) ∨ (r = nm ∧ k = ⟨sz, ty, ver, 0, box, es⟩) := by
      intro r k hk
      simp only [St.new, get_nil, get_cons] at hk
      split at hk
      · rename_i hr; exact .inr ⟨hr, (Option.some.inj hk).symm⟩
      · exact .inl ⟨hk, hold r _ hk⟩
    refine ⟨inv.below.alloc inv.below.size _, fun b o u h => ⟨cell_push _ _ _ _ _ (inv.mem b o u h).1, (inv.mem b o u h).2⟩, inv.newM, inv.oldM, inv.glob, ?_, ?_, ?_, ?_, ?_⟩
    · intro t x hx
      obtain ⟨v, h1, h2⟩ := inv.slot t x hx
      exact ⟨v, h1, h2.mono (Sub.refl M) hJ⟩
    · intro r k hk
      rcases hget r k hk with ⟨hk', hne⟩ | ⟨rfl, rfl⟩
      · obtain ⟨L, C', hL, hb, ok⟩ := inv.heap r k hk'
        refine ⟨L, C', by rw [if_neg hne]; exact hL, hb, ?_⟩
        exact (ok.mono (Sub.refl M) hJ).world (fun hn => Below.heap_alloc w _ _ (lt_of_blk ok hn))
      · refine ⟨⟨w.heap.size, cap, sz, false⟩, C, by simp, fun _ => inv.below.size, ⟨fun _ => heap_alloc_new w _, fun h => by simp at h, hC, hes, Nat.zero_le _, rfl, hlen, ?_, hcap⟩⟩
        intro i e j x h1 h2
        obtain ⟨u, a1, a2, a3⟩ := hcell i e j x h1 h2
        exact ⟨u, a1, a2, a3.mono (Sub.refl M) hJ⟩
    · intro r r' k k' L L' hk hk' hL hL' hN hN' hne
      rcases hget r k hk with ⟨h1, n1⟩ | ⟨rfl, rfl⟩ <;> rcases hget r' k' hk' with ⟨h2, n2⟩ | ⟨rfl, rfl⟩
      · simp only [if_neg n1, if_neg n2] at hL hL'
        exact inv.apart r r' k k' L L' h1 h2 hL hL' hN hN' hne
      · simp only [if_neg n1, if_true, Option.some.injEq] at hL hL'
        obtain ⟨L1, C1, e1, _, ok⟩ := inv.heap r k h1
        rw [e1] at hL; obtain rfl := Option.some.inj hL
        have := lt_of_blk ok hN
        subst hL'; simp; omega
      · simp only [if_neg n2, if_true, Option.some.injEq] at hL hL'
        obtain ⟨L1, C1, e1, _, ok⟩ := inv.heap r' k' h2
        rw [e1] at hL'; obtain rfl := Option.some.inj hL'
        have := lt_of_blk ok hN'
        subst hL; simp; omega
      · exact absurd rfl hne
    · intro r k L o u hk hL hN hu
      rcases hget r k hk with ⟨h1, n1⟩ | ⟨rfl, rfl⟩
      · simp only [if_neg n1] at hL; exact inv.owns r k L o u h1 hL hN hu
      · simp only [if_true, Option.some.injEq] at hL
        subst hL
        have := World.block_lt_of_cell? w _ (inv.mem _ _ _ hu).1
        simp at this
    · intro r L h
      split at h
      · omega
      · have := inv.vers r L h; omega

/-- A row that is nil. -/
theorem Inv.newNil (inv : Inv E M0 w0 c M J s tm w) {nm ver sz : Nat} {ty : TypeId} {box : Bool} 
    (hnm : get s.hp nm = none) (hv : c ≤ ver) :
    ∃ J', SubJ J J' ∧ J' ver = some ⟨0, 0, sz, true⟩ ∧ Inv E M0 w0 (ver + 1) M J' (s.new nm ver sz ty box []) tm w := by
  refine ⟨fun r => if r = ver then some ⟨0, 0, sz, true⟩ else J r, ?_, by simp, ?_⟩
  · intro r L h
    have := inv.vers r L h
    simp only
    rw [if_neg (by omega)]; exact h
  · have hJ : SubJ J (fun r => if r = ver then some ⟨0, 0, sz, true⟩ else J r) := by
      intro r L h
      have := inv.vers r L h
      simp only
      rw [if_neg (by omega)]; exact h
    have hold : ∀ r k, get s.hp r = some k → k.ver ≠ ver := by
      intro r k hk e
      obtain ⟨L, C', hL, _⟩ := inv.heap r k hk
      have := inv.vers _ _ hL
      omega
    have hget : ∀ r k, get (s.new nm ver sz ty box []).hp r = some k → (get s.hp r = some k ∧ k.ver ≠ ver) ∨ (r = nm ∧ k = ⟨sz, ty, ver, 0, box, []⟩) := by
      intro r k hk
      simp only [St.new, get_nil, get_cons] at hk
      split at hk
      · rename_i hr; exact .inr ⟨hr, (Option.some.inj hk).symm⟩
      · exact .inl ⟨hk, hold r _ hk⟩
    refine ⟨inv.below, inv.mem, inv.newM, inv.oldM, inv.glob, ?_, ?_, ?_, ?_, ?_⟩
    · intro t x hx
      obtain ⟨v, h1, h2⟩ := inv.slot t x hx
      exact ⟨v, h1, h2.mono (Sub.refl M) hJ⟩
    · intro r k hk
      rcases hget r k hk with ⟨hk', hne⟩ | ⟨rfl, rfl⟩
      · obtain ⟨L, C', hL, hb, ok⟩ := inv.heap r k hk'
        refine ⟨L, C', by rw [if_neg hne]; exact hL, hb, ?_⟩
        exact ok.mono (Sub.refl M) hJ
      · exact ⟨⟨0, 0, sz, true⟩, #[], by simp, fun h => by simp at h, ⟨fun h => by simp at h, fun _ => rfl, by simp, by simp, Nat.zero_le _, rfl, fun i e h => by simp at h, fun i e j x h => by simp at h, Nat.zero_le _⟩⟩
    · intro r r' k k' L L' hk hk' hL hL' hN hN' hne
      rcases hget r k hk with ⟨h1, n1⟩ | ⟨rfl, rfl⟩ <;> rcases hget r' k' hk' with ⟨h2, n2⟩ | ⟨rfl, rfl⟩
      · simp only [if_neg n1, if_neg n2] at hL hL'
        exact inv.apart r r' k k' L L' h1 h2 hL hL' hN hN' hne
      · simp only [if_true, Option.some.injEq] at hL'
        subst hL'; simp at hN'
      · simp only [if_true, Option.some.injEq] at hL
        subst hL; simp at hN
      · exact absurd rfl hne
    · intro r k L o u hk hL hN hu
      rcases hget r k hk with ⟨h1, n1⟩ | ⟨rfl, rfl⟩
      · simp only [if_neg n1] at hL; exact inv.owns r k L o u h1 hL hN hu
      · simp only [if_true, Option.some.injEq] at hL
        subst hL; simp at hN
    · intro r L h
      split at h
      · omega
      · have := inv.vers r L h; omega

/-- Rows that are written no more, so far. -/
theorem Inv.freeze1 (inv : Inv E M0 w0 c M J s tm w) {r n : Nat} {k : Blk} (hk : get s.hp r = some k) :
    ∃ M', Sub M M' ∧ Inv E M0 w0 c M' J { s with hp := set s.hp r { k with frz := max k.frz (min n k.es.length) } } tm w ∧
      ∀ L C, J k.ver = some L → L.nil = false → w.heap[L.b]? = some (.cells C k.ty (0, 0)) → ∀ i j, i < n → i < k.es.length → j < k.sz → M' L.b (i * k.sz + j) = C[i * k.sz + j]? := by
  obtain ⟨L, C, hL, hb, ok⟩ := inv.heap r k hk
  have hgs : ∀ r', get (set s.hp r { k with frz := max k.frz (min n k.es.length) }) r' = if r' = r then some { k with frz := max k.frz (min n k.es.length) } else get s.hp r' := fun r' => get_set _ _ _ _ _ hk
  have hcell : L.nil = false → ∀ o, w.cell? ⟨L.b, o, none⟩ = C[o]? := fun hn o => cell_of_row w L.b o C k.ty (0, 0) (ok.blk hn)
  have hsub : Sub M (fun b o => if L.nil = false ∧ b = L.b ∧ o < min n k.es.length * k.sz then C[o]? else M b o) := by
    intro b o u h
    show (if L.nil = false ∧ b = L.b ∧ o < min n k.es.length * k.sz then C[o]? else M b o) = some u
    split
    · rename_i hc; obtain ⟨hn, rfl, _⟩ := hc; rw [← hcell hn]; exact (inv.mem _ _ _ h).1
    · exact h
  have hone : ∀ o u, o < min n k.es.length * k.sz → C[o]? = some u → u.oneCell' = true := by
    intro o u ho hu
    have hz : 0 < k.sz := by rcases Nat.eq_zero_or_pos k.sz with h | h; · rw [h] at ho; simp at ho
                             · exact h
    have hq : o / k.sz < k.es.length := by
      have : o / k.sz < min n k.es.length := (Nat.div_lt_iff_lt_mul hz).2 ho
      omega
    have hm : o % k.sz < k.sz := Nat.mod_lt _ hz
    obtain ⟨e, he⟩ : ∃ e, k.es[o / k.sz]? = some e := ⟨_, List.getElem?_eq_getElem hq⟩
    have hl := ok.len _ _ he
    obtain ⟨x, hx⟩ : ∃ x, e[o % k.sz]? = some x := ⟨_, List.getElem?_eq_getElem (by omega)⟩
    obtain ⟨u', h1, h2, _⟩ := ok.cell _ _ _ _ he hx
    rw [Nat.div_add_mod' o k.sz] at h1
    rw [h1] at hu; obtain rfl := Option.some.inj hu; exact h2
  refine ⟨_, hsub, ⟨inv.below, ?_, ?_, fun b o u h => hsub _ _ _ (inv.oldM b o u h), fun g cs h => (inv.glob g cs h).mono hsub, ?_, ?_, ?_, ?_, inv.vers⟩, ?_⟩
  · intro b o u h
    split at h
    · rename_i hc; obtain ⟨hn, rfl, ho⟩ := hc; exact ⟨by rw [hcell hn]; exact h, hone o u ho h⟩
    · exact inv.mem b o u h
  · intro b o u h
    split at h
    · rename_i hc; obtain ⟨hn, rfl, ho⟩ := hc; exact .inr (hb hn)
    · exact inv.newM b o u h
  · intro t x hx
    obtain ⟨v, h1, h2⟩ := inv.slot t x hx
    exact ⟨v, h1, h2.mono hsub (SubJ.refl J)⟩
  · intro r' k' hk'
    rw [hgs] at hk'
    split at hk'
    · obtain rfl := Option.some.inj hk'
      exact ⟨L, C, hL, hb, { (ok.mono hsub (SubJ.refl J)) with frz := by have := ok.frz; simp only; omega }⟩
    · obtain ⟨L', C', a1, a2, a3⟩ := inv.heap r' k' hk'
      exact ⟨L', C', a1, a2, a3.mono hsub (SubJ.refl J)⟩
  · intro r1 r2 k1 k2 L1 L2 h1 h2 hL1 hL2 hN1 hN2 hne
    rw [hgs] at h1 h2
    have f : ∀ r' k', (if r' = r then some { k with frz := max k.frz (min n k.es.length) } else get s.hp r') = some k' → ∃ k0, get s.hp r' = some k0 ∧ k0.ver = k'.ver := by
      intro r' k' h
      split at h
      · rename_i e; subst e; exact ⟨k, hk, by rw [← Option.some.inj h]⟩
      · exact ⟨k', h, rfl⟩
    obtain ⟨a, ha, ea⟩ := f _ _ h1
    obtain ⟨b, hb', eb⟩ := f _ _ h2
    exact inv.apart r1 r2 a b L1 L2 ha hb' (by rw [ea]; exact hL1) (by rw [eb]; exact hL2) hN1 hN2 hne
  · intro r' k' L' o u hk' hL' hN' hu
    rw [hgs] at hk'
    split at hk'
    · obtain rfl := Option.some.inj hk'
      have hL'' : J k.ver = some L' := hL'
      rw [hL] at hL''; obtain rfl := Option.some.inj hL''
      show o < max k.frz (min n k.es.length) * k.sz
      split at hu
      · rename_i hc
        refine Nat.lt_of_lt_of_le hc.2.2 (Nat.mul_le_mul_right _ ?_)
        omega
      · refine Nat.lt_of_lt_of_le (inv.owns r k L o u hk hL hN' hu) (Nat.mul_le_mul_right _ ?_)
        omega
    · rename_i hr
      split at hu
      · rename_i hc
        exact absurd hc.2.1 (inv.apart r' r k' k L' L hk' hk hL' hL hN' hc.1 hr)
      · exact inv.owns r' k' L' o u hk' hL' hN' hu
  · intro L' C' hL' hN' hC' i j hi hi' hj
    rw [hL] at hL'; obtain rfl := Option.some.inj hL'
    rw [ok.blk hN'] at hC'; cases hC'
    have : (i + 1) * k.sz ≤ min n k.es.length * k.sz := Nat.mul_le_mul_right _ (by omega)
    rw [Nat.add_mul] at this
    exact if_pos ⟨hN', rfl, by omega⟩

theorem Inv.freeze : ∀ (l : List (Nat × Nat)) {M : Mem} {s : St}, Inv E M0 w0 c M J s tm w →
    ∃ M', Sub M M' ∧ Inv E M0 w0 c M' J (s.freeze l) tm w ∧
      ∀ r n k L C, (r, n) ∈ l → get s.hp r = some k → J k.ver = some L → L.nil = false → w.heap[L.b]? = some (.cells C k.ty (0, 0)) →
        ∀ i j u, i < n → i < k.es.length → j < k.sz → C[i * k.sz + j]? = some u → M' L.b (i * k.sz + j) = some u
  | [], M, s, inv => ⟨M, Sub.refl M, inv, fun _ _ _ _ _ h => by simp at h⟩
  | (r, n) :: l, M, s, inv => by
    simp only [St.freeze]
    split
    · rename_i k hk
      obtain ⟨M1, h1, i1, f1⟩ := inv.freeze1 (n := n) hk
      obtain ⟨M2, h2, i2, f2⟩ := Inv.freeze l i1
      refine ⟨M2, h1.trans h2, i2, fun r' n' k' L C hm hk' hL hN hC i j u hi hi' hj hu => ?_⟩
      rcases List.mem_cons.1 hm with e | hm2
      · obtain ⟨rfl, rfl⟩ := Prod.mk.inj e
        rw [hk] at hk'; obtain rfl := Option.some.inj hk'
        exact h2 _ _ _ (by rw [f1 L C hL hN hC i j hi hi' hj, hu])
      · by_cases e : r' = r
        · subst e
          rw [hk] at hk'; obtain rfl := Option.some.inj hk'
          exact f2 r' n' { k with frz := max k.frz (min n k.es.length) } L C hm2 (by rw [get_set _ _ _ _ _ hk, if_pos rfl]) hL hN hC i j u hi hi' hj hu
        · exact f2 r' n' k' L C hm2 (by rw [get_set _ _ _ _ _ hk, if_neg e]; exact hk') hL hN hC i j u hi hi' hj hu
    · rename_i hk
      obtain ⟨M2, h2, i2, f2⟩ := Inv.freeze l inv
      refine ⟨M2, h2, i2, fun r' n' k' L C hm hk' hL hN hC i j u hi hi' hj hu => ?_⟩
      rcases List.mem_cons.1 hm with e | hm2
      · obtain ⟨rfl, rfl⟩ := Prod.mk.inj e
        rw [hk] at hk'; cases hk'
      · exact f2 r' n' k' L C hm2 hk' hL hN hC i j u hi hi' hj hu

/-- A value, as it reads now. -/
theorem pure1_rel (inv : Inv E M0 w0 c M J s tm w) {M' : Mem} (hM : Sub M M') : ∀ (n : Nat) (x y : AV) (v : Value), pure1 s n x = some y → Rel M J x v →
    (∀ r m k L C, (r, m) ∈ reads n x → get s.hp r = some k → J k.ver = some L → L.nil = false → w.heap[L.b]? = some (.cells C k.ty (0, 0)) →
        ∀ i j u, i < m → i < k.es.length → j < k.sz → C[i * k.sz + j]? = some u → M' L.b (i * k.sz + j) = some u) → PRel M' y v
  | 0, _, _, _, h, _, _ => by simp [pure1] at h
  | n + 1, x, y, v, h, hr, hf => by
    have row : ∀ {cs cs' : List AV} {vs : Array Value}, cs.mapM (pure1 s n) = some cs' → vs.size = cs.length →
        (∀ (i : Nat) (c : AV) (v : Value), cs[i]? = some c → vs[i]? = some v → Rel M J c v) → (∀ c ∈ cs, ∀ p, p ∈ reads n c → p ∈ reads (n + 1) x) →
        vs.size = cs'.length ∧ ∀ (i : Nat) (c : AV) (v : Value), cs'[i]? = some c → vs[i]? = some v → PRel M' c v := by
      intro cs cs' vs hm hs hp hin
      obtain ⟨h1, h2⟩ := mapM_some hm
      refine ⟨by rw [hs, h1], fun i c v hc hv => ?_⟩
      obtain ⟨c0, hc0, hp0⟩ := h2 i c hc
      exact pure1_rel inv hM n c0 c v hp0 (hp i c0 v hc0 hv) (fun r m k L C hm' => hf r m k L C (hin c0 (List.mem_of_getElem? hc0) _ hm'))
    cases x with
    | v x => simp only [pure1, Option.some.injEq] at h; subst h; obtain rfl := hr.v_inv; exact .v _
    | lst sz xs => simp only [pure1, Option.some.injEq] at h; subst h; exact hr.lst_inv.mono hM
    | rptr xs => simp only [pure1, Option.some.injEq] at h; subst h; exact hr.rptr_inv.mono hM
    | ptr r ver i o => simp [pure1] at h
    | agg cs =>
      simp only [pure1, Option.map_eq_some_iff] at h
      obtain ⟨cs', hm, rfl⟩ := h
      obtain ⟨vs, rfl, hn, h1, h2⟩ := hr.agg_inv
      obtain ⟨a, b⟩ := row hm hn h2 (fun c hc p hp => by simp only [reads, List.mem_flatMap]; exact ⟨c, hc, hp⟩)
      exact .agg a h1 b
    | tup cs =>
      simp only [pure1, Option.map_eq_some_iff] at h
      obtain ⟨cs', hm, rfl⟩ := h
      obtain ⟨vs, rfl, hn, h2⟩ := hr.tup_inv
      obtain ⟨a, b⟩ := row hm hn h2 (fun c hc p hp => by simp only [reads, List.mem_flatMap]; exact ⟨c, hc, hp⟩)
      exact .tup a b
    | clo f a b =>
      simp only [pure1] at h
      split at h
      · rename_i a' b' ha hb
        obtain rfl := Option.some.inj h
        obtain ⟨fs, cs, rfl, hn, hm, h1, h2⟩ := hr.clo_inv
        obtain ⟨x1, x2⟩ := row ha hn h1 (fun c hc p hp => by simp only [reads, List.mem_append, List.mem_flatMap]; exact .inl ⟨c, hc, hp⟩)
        obtain ⟨y1, y2⟩ := row hb hm h2 (fun c hc p hp => by simp only [reads, List.mem_append, List.mem_flatMap]; exact .inr ⟨c, hc, hp⟩)
        exact .clo x1 y1 x2 y2
      · cases h
    | own r ver off len =>
      simp only [pure1] at h
      split at h
      · rename_i k hk
        split at h
        · rename_i hc
          obtain ⟨hv, hl, hb⟩ := hc
          obtain rfl := Option.some.inj h
          obtain ⟨L, A, rfl, hL, hcap, hN, hA⟩ := hr.own_inv
          obtain ⟨L', C, hL', _, ok⟩ := inv.heap r k hk
          rw [hv, hL] at hL'; obtain rfl := Option.some.inj hL'
          have hlen : ((k.es.drop off).take len).length = len := by simp; omega
          have hget : ∀ (i : Nat) (e : List AV), ((k.es.drop off).take len)[i]? = some e → i < len ∧ k.es[off + i]? = some e := by
            intro i e he
            have hi : i < len := by have := (List.getElem?_eq_some_iff.1 he).1; omega
            rw [List.getElem?_take, if_pos hi, List.getElem?_drop] at he
            exact ⟨hi, he⟩
          have hnn : 0 < len → L.nil = false := by
            intro h0
            cases hb : L.nil with
            | false => rfl
            | true => have := ok.none hb; omega
          refine .lst (fun i j => C.getD ((off + i) * k.sz + j) undef) hlen.symm (by rw [hlen]; omega) (fun i e he => ok.len _ _ (hget i e he).2) ?_ ?_ ?_
          · intro hne
            have : 0 < len := by rcases Nat.eq_zero_or_pos len with h0 | h0
                                 · subst h0; simp at hne
                                 · exact h0
            exact ⟨_, _, hA (hnn this) (by omega)⟩
          · intro b o i e j c hAb he hj
            obtain ⟨hi, he'⟩ := hget i e he
            have hn := hnn (by omega)
            rw [hA hn (by omega)] at hAb
            simp only [Option.some.injEq, Addr.mk.injEq, and_true] at hAb
            obtain ⟨rfl, rfl⟩ := hAb
            obtain ⟨u, hu, _, _⟩ := ok.cell _ _ _ _ he' hj
            have hjz : j < k.sz := by rw [← ok.len _ _ he']; exact (List.getElem?_eq_some_iff.1 hj).1
            have h1 := hf r (off + len) k L C (by simp [reads]) hk (by rw [hv]; exact hL) hn (ok.blk hn) (off + i) j u (by omega) (by have := (List.getElem?_eq_some_iff.1 he').1; exact this) hjz hu
            rw [Array.getD_eq_getD_getElem?, hu, Option.getD_some, ok.sz, ← h1, Nat.add_mul]
          · intro i e j c he hj
            obtain ⟨hi, he'⟩ := hget i e he
            obtain ⟨u, hu, _, hc⟩ := ok.cell _ _ _ _ he' hj
            rw [Array.getD_eq_getD_getElem?, hu, Option.getD_some]
            unfold CellRel at hc
            rw [hb] at hc
            exact (show PRel M c u from by simpa using hc).mono hM
        · cases h
      · cases h

theorem freeze_ctr : ∀ (l : List (Nat × Nat)) (s : St), (s.freeze l).ctr = s.ctr
  | [], _ => rfl
  | (r, n) :: l, s => by
    simp only [St.freeze]
    split
    · rw [freeze_ctr l]
    · rw [freeze_ctr l]

theorem Inv.pure (inv : Inv E M0 w0 c M J s tm w) {x : AV} {v : Value} {K : AV → St → Prop} (hr : Rel M J x v) (h : s.pure x K) :
    ∃ y s' M', K y s' ∧ Sub M M' ∧ Inv E M0 w0 c M' J s' tm w ∧ PRel M' y v ∧ s'.ctr = s.ctr := by
  unfold St.pure at h
  split at h
  · rename_i y hy
    obtain ⟨M', h1, h2, h3⟩ := inv.freeze (reads deep x)
    exact ⟨y, _, M', h, h1, h2, pure1_rel inv h1 deep x y v hy hr h3, freeze_ctr _ _⟩
  · exact h.elim

theorem Inv.pures : ∀ (l : List AV) {M : Mem} {s : St} {vs : List Value} {K : List AV → St → Prop}, Inv E M0 w0 c M J s tm w → vs.length = l.length →
    (∀ (i : Nat) (x : AV) (v : Value), l[i]? = some x → vs[i]? = some v → Rel M J x v) → s.pures l K →
    ∃ l' s' M', K l' s' ∧ Sub M M' ∧ Inv E M0 w0 c M' J s' tm w ∧ l'.length = l.length ∧ ∀ (i : Nat) (x : AV) (v : Value), l'[i]? = some x → vs[i]? = some v → PRel M' x v
  | [], M, s, vs, K, inv, _, _, h => ⟨[], s, M, h, Sub.refl M, inv, rfl, fun i x v hx => by simp at hx⟩
  | x :: l, M, s, [], K, inv, hl, _, h => by simp at hl
  | x :: l, M, s, v :: vs, K, inv, hl, hr, h => by
    simp only [St.pures] at h
    obtain ⟨y, s1, M1, hK, hs1, i1, r1, _⟩ := inv.pure (hr 0 x v rfl rfl) h
    obtain ⟨l', s2, M2, hK2, hs2, i2, hl2, r2⟩ := Inv.pures l (vs := vs) i1 (by simpa using hl) (fun i x' v' hx hv => (hr (i + 1) x' v' (by simpa using hx) (by simpa using hv)).mono hs1 (SubJ.refl J)) hK
    refine ⟨y :: l', s2, M2, hK2, hs1.trans hs2, i2, by simp [hl2], fun i x' v' hx hv => ?_⟩
    cases i with
    | zero => simp at hx hv; subst hx; subst hv; exact r1.mono hs2
    | succ i => exact r2 i x' v' (by simpa using hx) (by simpa using hv)
end
end Go.Proofs.YtdgpilapblipbaaDoor.Abs
