/- A part of the proof: a calculus over values, and contracts of functions. No condition. -/
import Derived.Test.YtadlnaljicikfaaDoorZI7
set_option linter.unusedVariables false
set_option linter.unusedSimpArgs false
namespace Go.Proofs.YtadlnaljicikfaaDoor.Abs
open Go Go.Lib
def atS (s : Sp) : List Mk := if s.k = 2 then (pts s.t.data.toList).map Mk.put else if s.k = 1 then List.replicate s.n.toNat Mk.keep else List.replicate s.n.toNat Mk.drop
def mks (l : List Sp) : List Mk := l.flatMap atS
theorem mks_nil : mks [] = [] := rfl
theorem mks_cons (s : Sp) (l : List Sp) : mks (s :: l) = atS s ++ mks l := rfl
abbrev AllOK (l : List Sp) : Prop := ∀ s ∈ l, SpOK s
theorem AllOK.tail {s : Sp} {l : List Sp} (h : AllOK (s :: l)) : AllOK l := fun x hx => h x (by simp [hx])
theorem AllOK.head {s : Sp} {l : List Sp} (h : AllOK (s :: l)) : SpOK s := h s (by simp)
theorem AllOK.cons {s : Sp} {l : List Sp} (h : SpOK s) (h' : AllOK l) : AllOK (s :: l) := fun x hx => by
  rcases List.mem_cons.1 hx with rfl | hx
  · exact h
  · exact h' x hx
theorem AllOK.app {a b : List Sp} (h : AllOK a) (h' : AllOK b) : AllOK (a ++ b) := fun x hx => by
  rcases List.mem_append.1 hx with hx | hx
  · exact h x hx
  · exact h' x hx
theorem AllOK.nil : AllOK [] := fun x hx => by simp at hx
theorem rep_keep (n : Nat) : inM (List.replicate n Mk.keep) = n ∧ outM (List.replicate n Mk.keep) = n := ⟨keepM_in n, keepM_out n⟩
theorem rep_drop : ∀ n : Nat, inM (List.replicate n Mk.drop) = n ∧ outM (List.replicate n Mk.drop) = 0
  | 0 => ⟨rfl, rfl⟩
  | n + 1 => by have := rep_drop n; simp only [List.replicate_succ, inM, outM]; omega
theorem map_put : ∀ l : List Nat, inM (l.map Mk.put) = 0 ∧ outM (l.map Mk.put) = l.length
  | [] => ⟨rfl, rfl⟩
  | c :: l => by have := map_put l; simp only [List.map_cons, inM, outM, List.length_cons]; omega
theorem atS_put {s : Sp} (h : s.k = 2) : atS s = (pts s.t.data.toList).map Mk.put := if_pos h
theorem atS_keep {s : Sp} (h : s.k = 1) : atS s = List.replicate s.n.toNat Mk.keep := by unfold atS; rw [if_neg (by omega), if_pos h]
theorem atS_drop {s : Sp} (h : s.k = 3) : atS s = List.replicate s.n.toNat Mk.drop := by unfold atS; rw [if_neg (by omega), if_neg (by omega)]
theorem atS_size {s : Sp} (h : SpOK s) : (inM (atS s) : Int) = inS s ∧ (outM (atS s) : Int) = outS s := by
  rcases h.cases with ⟨a | a, b, c, d⟩ | ⟨a, b, c⟩
  · rw [atS_keep a]; have := rep_keep s.n.toNat
    unfold inS outS inF outF; rw [if_pos (.inl a), if_pos a]; omega
  · rw [atS_drop a]; have := rep_drop s.n.toNat
    unfold inS outS inF outF; rw [if_pos (.inr a), if_neg (by omega), if_neg (by omega)]; omega
  · rw [atS_put a]; have := map_put (pts s.t.data.toList)
    unfold inS outS inF outF; rw [if_neg (by omega), if_neg (by omega), if_pos a, countD_pts c]; omega
theorem mks_size : ∀ {l : List Sp}, AllOK l → (inM (mks l) : Int) = sumI inS l ∧ (outM (mks l) : Int) = sumI outS l
  | [], _ => ⟨rfl, rfl⟩
  | s :: l, h => by
    have h1 := atS_size h.head
    have h2 := mks_size h.tail
    rw [mks_cons, inM_app, outM_app, sumI_cons, sumI_cons]; omega
theorem atS_mrg {a b : Sp} (ha : SpOK a) (hb : SpOK b) (hk : b.k = a.k) (hs : inS a + inS b ≤ 1048576) : atS (mrg a b) = atS a ++ atS b := by
  obtain ⟨m1, m2, m3, m4, m5⟩ := mrg_ok ha hb hk hs
  have ek : (mrg a b).k = a.k := rfl
  rcases ha.cases with ⟨a1 | a1, a2, a3, a4⟩ | ⟨a1, a2, a3⟩
  · have := hb.cases
    rw [atS_keep (ek.trans a1), atS_keep a1, atS_keep (hk.trans a1), m5, List.replicate_append_replicate]
    congr 1; omega
  · have := hb.cases
    rw [atS_drop (ek.trans a1), atS_drop a1, atS_drop (hk.trans a1), m5, List.replicate_append_replicate]
    congr 1; omega
  · rw [atS_put (ek.trans a1), atS_put a1, atS_put (hk.trans a1), ← List.map_append]
    congr 1
    show pts (a.t ++ b.t).data.toList = _
    rw [str_app, pts_app _ a3]
theorem atS_empty {s : Sp} (h : emptyS s = true) : atS s = [] := by
  obtain ⟨h1, h2⟩ := empty_iff.1 h
  unfold atS; rw [h1, h2]
  split
  · rfl
  · split <;> rfl
theorem mks_normC : ∀ (l : List Sp) (cur : Sp), SpOK cur → AllOK l → inS cur + sumI inS l ≤ 1048576 → mks (normC cur l) = atS cur ++ mks l
  | [], cur, _, _, _ => by simp [normC, mks]
  | s :: l, cur, hc, hl, hs => by
    have h1 := hl.head
    have h3 : 0 ≤ sumI inS l := (sumI_bound inS 1048576 l (fun x hx => (hl.tail x hx).inS)).1
    have h4 := h1.inS; have h5 := hc.inS
    rw [sumI_cons] at hs
    simp only [normC]
    by_cases he : emptyS s = true
    · rw [if_pos he, mks_cons, atS_empty he, List.nil_append]
      exact mks_normC l cur hc hl.tail (by omega)
    · rw [if_neg he]
      by_cases hk : s.k = cur.k
      · rw [if_pos hk]
        obtain ⟨m1, m2, m3, m4, _⟩ := mrg_ok hc h1 hk (by omega)
        rw [mks_normC l (mrg cur s) m1 hl.tail (by omega), atS_mrg hc h1 hk (by omega), mks_cons, List.append_assoc]
      · rw [if_neg hk, mks_cons, mks_normC l s h1 hl.tail (by omega), mks_cons]
theorem mks_norm : ∀ {l : List Sp}, AllOK l → sumI inS l ≤ 1048576 → mks (norm l) = mks l
  | [], _, _ => rfl
  | s :: l, hl, hs => by
    have h1 := hl.head
    rw [sumI_cons] at hs
    simp only [norm]
    by_cases he : emptyS s = true
    · rw [if_pos he, mks_cons, atS_empty he, List.nil_append]
      exact mks_norm hl.tail (by have := (empty_in he).1; omega)
    · rw [if_neg he, mks_normC l s h1 hl.tail hs, mks_cons]
def kindM : Mk → Int
  | .put _ => 2
  | .keep => 1
  | .drop => 3
theorem atS_kind {s : Sp} (h : SpOK s) : ∀ m ∈ atS s, kindM m = s.k := by
  intro m hm
  rcases h.cases with ⟨a | a, b, c, d⟩ | ⟨a, b, c⟩
  · rw [atS_keep a] at hm; rw [(List.mem_replicate.1 hm).2, a]; rfl
  · rw [atS_drop a] at hm; rw [(List.mem_replicate.1 hm).2, a]; rfl
  · rw [atS_put a] at hm; obtain ⟨c, _, rfl⟩ := List.mem_map.1 hm; rw [a]; rfl
theorem atS_ne {s : Sp} (h : SpOK s) (he : emptyS s = false) : atS s ≠ [] := by
  intro h0
  have he' : ¬ (s.n = 0 ∧ s.t = ⟨#[]⟩) := fun x => by rw [empty_iff.2 x] at he; cases he
  rcases h.cases with ⟨a | a, b, c, d⟩ | ⟨a, b, c⟩
  · rw [atS_keep a] at h0; have := congrArg List.length h0; rw [List.length_replicate] at this; simp at this; exact he' ⟨by omega, d⟩
  · rw [atS_drop a] at h0; have := congrArg List.length h0; rw [List.length_replicate] at this; simp at this; exact he' ⟨by omega, d⟩
  · rw [atS_put a] at h0
    have := List.map_eq_nil_iff.1 h0
    refine he' ⟨b, str_nil.2 ?_⟩
    refine Decidable.byContradiction fun hne => pts_ne hne this
theorem split_kind {k : Int} : ∀ {A A' B B' : List Mk}, A ++ B = A' ++ B' → (∀ m ∈ A, kindM m = k) → (∀ m ∈ A', kindM m = k) → (∀ m ∈ B.head?, kindM m ≠ k) → (∀ m ∈ B'.head?, kindM m ≠ k) → A = A' ∧ B = B'
  | [], [], B, B', h, _, _, _, _ => ⟨rfl, h⟩
  | [], m :: A', B, B', h, _, h2, h3, _ => by
    rw [List.nil_append, List.cons_append] at h
    rw [h] at h3
    exact absurd (h2 m (by simp)) (h3 m (by simp))
  | m :: A, [], B, B', h, h1, _, _, h4 => by
    rw [List.nil_append, List.cons_append] at h
    rw [← h] at h4
    exact absurd (h1 m (by simp)) (h4 m (by simp))
  | m :: A, m' :: A', B, B', h, h1, h2, h3, h4 => by
    rw [List.cons_append, List.cons_append] at h
    obtain ⟨e1, e2⟩ := List.cons.inj h
    obtain ⟨i1, i2⟩ := split_kind e2 (fun x hx => h1 x (by simp [hx])) (fun x hx => h2 x (by simp [hx])) h3 h4
    exact ⟨by rw [e1, i1], i2⟩
theorem mks_head : ∀ {l : List Sp} {k : Int}, AllOK l → isNG (some k) l = true → ∀ m ∈ (mks l).head?, kindM m ≠ k
  | [], k, _, _, m, hm => by simp [mks] at hm
  | s :: l, k, h, hn, m, hm => by
    simp only [isNG, Bool.and_eq_true, Bool.not_eq_true', decide_eq_false_iff_not, Option.some.injEq] at hn
    have hne := atS_ne h.head hn.1.1
    rw [mks_cons] at hm
    cases hA : atS s with
    | nil => exact absurd hA hne
    | cons x A =>
      rw [hA] at hm
      simp only [List.cons_append, List.head?_cons, Option.mem_def, Option.some.injEq] at hm
      subst hm
      rw [atS_kind h.head x (by rw [hA]; simp)]
      exact fun e => hn.1.2 e.symm
theorem atS_inj {s u : Sp} (hs : SpOK s) (hu : SpOK u) (hk : s.k = u.k) (h : atS s = atS u) : s = u := by
  obtain ⟨k, n, t⟩ := s
  obtain ⟨k', n', t'⟩ := u
  simp only at hk
  subst hk
  rcases hs.cases with ⟨a | a, b, c, d⟩ | ⟨a, b, c⟩
  · rcases hu.cases with ⟨a', b', c', d'⟩ | ⟨a', b', c'⟩
    · simp only at a b c d a' b' c' d'
      rw [atS_keep a, atS_keep a] at h
      have := congrArg List.length h; rw [List.length_replicate, List.length_replicate] at this
      simp only at this
      have : n = n' := by omega
      rw [this, d, d']
    · simp only at a a'; omega
  · rcases hu.cases with ⟨a', b', c', d'⟩ | ⟨a', b', c'⟩
    · simp only at a b c d a' b' c' d'
      rw [atS_drop a, atS_drop a] at h
      have := congrArg List.length h; rw [List.length_replicate, List.length_replicate] at this
      simp only at this
      have : n = n' := by omega
      rw [this, d, d']
    · simp only at a a'; omega
  · rcases hu.cases with ⟨a', b', c', d'⟩ | ⟨a', b', c'⟩
    · simp only at a a'; omega
    · simp only at a b c a' b' c'
      rw [atS_put a, atS_put a] at h
      have := (List.map_inj_right (fun x y e => by cases e; rfl)).1 h
      simp only at this
      have : t = t' := by rw [← txt_pts c, ← txt_pts c', this]
      rw [this, b, b']
theorem mks_inj : ∀ {l m : List Sp} {p q : Option Int}, AllOK l → AllOK m → isNG p l = true → isNG q m = true → mks l = mks m → l = m
  | [], [], _, _, _, _, _, _, _ => rfl
  | [], u :: m, _, _, _, h2, _, h4, h => by
    simp only [isNG, Bool.and_eq_true, Bool.not_eq_true'] at h4
    rw [mks_nil, mks_cons] at h
    exact absurd (List.append_eq_nil_iff.1 h.symm).1 (atS_ne h2.head h4.1.1)
  | s :: l, [], _, _, h1, _, h3, _, h => by
    simp only [isNG, Bool.and_eq_true, Bool.not_eq_true'] at h3
    rw [mks_nil, mks_cons] at h
    exact absurd (List.append_eq_nil_iff.1 h).1 (atS_ne h1.head h3.1.1)
  | s :: l, u :: m, _, _, h1, h2, h3, h4, h => by
    simp only [isNG, Bool.and_eq_true, Bool.not_eq_true'] at h3 h4
    rw [mks_cons, mks_cons] at h
    have hk : s.k = u.k := by
      have n1 := atS_ne h1.head h3.1.1
      have n2 := atS_ne h2.head h4.1.1
      cases hA : atS s with
      | nil => exact absurd hA n1
      | cons x A =>
        cases hB : atS u with
        | nil => exact absurd hB n2
        | cons y B =>
          rw [hA, hB, List.cons_append, List.cons_append] at h
          obtain ⟨e, _⟩ := List.cons.inj h
          rw [← atS_kind h1.head x (by rw [hA]; simp), ← atS_kind h2.head y (by rw [hB]; simp), e]
    obtain ⟨e1, e2⟩ := split_kind h (atS_kind h1.head) (fun m hm => by rw [hk]; exact atS_kind h2.head m hm) (mks_head h1.tail h3.2) (by rw [hk]; exact mks_head h2.tail h4.2)
    rw [atS_inj h1.head h2.head hk e1, mks_inj h1.tail h2.tail h3.2 h4.2 e2]
def spM : Mk → Sp
  | .put c => ⟨2, 0, txt [c]⟩
  | .keep => ⟨1, 1, ⟨#[]⟩⟩
  | .drop => ⟨3, 1, ⟨#[]⟩⟩
def okM (A : List Mk) : Prop := ∀ c, .put c ∈ A → Scal c
def mkO (A : List Mk) : List Sp := norm (A.map spM)
theorem spM_ok {m : Mk} (h : ∀ c, m = .put c → Scal c) : SpOK (spM m) ∧ atS (spM m) = [m] := by
  cases m with
  | put c =>
    obtain ⟨h1, h2⟩ := scal_text [c] (by simpa using h c rfl)
    refine ⟨SpOK.put rfl rfl (by rw [show (spM (.put c)).t = txt [c] from rfl, txt_list]; exact h1), ?_⟩
    rw [atS_put rfl, show (spM (.put c)).t = txt [c] from rfl, txt_list, h2]; rfl
  | keep => exact ⟨SpOK.keep (.inl rfl) (by decide) rfl, by rw [atS_keep rfl]; rfl⟩
  | drop => exact ⟨SpOK.keep (.inr rfl) (by decide) rfl, by rw [atS_drop rfl]; rfl⟩
theorem okM.tail {m : Mk} {A : List Mk} (h : okM (m :: A)) : okM A := fun c hc => h c (by simp [hc])
theorem map_spM : ∀ {A : List Mk}, okM A → AllOK (A.map spM) ∧ mks (A.map spM) = A
  | [], _ => ⟨AllOK.nil, rfl⟩
  | m :: A, h => by
    obtain ⟨h1, h2⟩ := spM_ok (m := m) (fun c hc => h c (by simp [hc]))
    obtain ⟨i1, i2⟩ := map_spM h.tail
    rw [List.map_cons]
    exact ⟨AllOK.cons h1 i1, by rw [mks_cons, h2, i2]; rfl⟩
theorem mkO_all {A : List Mk} (h : okM A) (hn : inM A ≤ 1048576) : AllOK (mkO A) ∧ isN (mkO A) = true ∧ mks (mkO A) = A := by
  obtain ⟨h1, h2⟩ := map_spM h
  have hs : sumI inS (A.map spM) ≤ 1048576 := by have := (mks_size h1).1; rw [h2] at this; omega
  exact ⟨(norm_all _ h1 hs).1, norm_isN _ h1 hs, by unfold mkO; rw [mks_norm h1 hs, h2]⟩
theorem okM_mks {l : List Sp} (h : AllOK l) : okM (mks l) := by
  intro c hc
  obtain ⟨s, hs, hm⟩ := List.mem_flatMap.1 hc
  rcases (h s hs).cases with ⟨a | a, b, c, d⟩ | ⟨a, b, c⟩
  · rw [atS_keep a] at hm; cases (List.mem_replicate.1 hm).2
  · rw [atS_drop a] at hm; cases (List.mem_replicate.1 hm).2
  · rw [atS_put a] at hm
    obtain ⟨d, hd, e⟩ := List.mem_map.1 hm
    cases e
    exact (pts_scal _ c).2 _ hd
theorem norm_mkO {l : List Sp} (h : AllOK l) (hs : sumI inS l ≤ 1048576) : norm l = mkO (mks l) := by
  have hi : inM (mks l) ≤ 1048576 := by have := (mks_size h).1; omega
  obtain ⟨h1, h2, h3⟩ := mkO_all (okM_mks h) hi
  exact mks_inj (norm_all _ h hs).1 h1 (norm_isN _ h hs) h2 (by rw [mks_norm h hs, h3])
theorem okM.cons {m : Mk} {A : List Mk} (h : ∀ c, m = .put c → Scal c) (h' : okM A) : okM (m :: A) := fun c hc => by
  rcases List.mem_cons.1 hc with e | hc
  · exact h c e.symm
  · exact h' c hc
theorem cmpM_ok : ∀ (y x : List Mk), okM y → okM x → okM (cmpM y x)
  | [], x, hy, hx => hx
  | .put c :: y, x, hy, hx => okM.cons (fun d e => hy d (by rw [← e]; simp)) (cmpM_ok y x hy.tail hx)
  | .keep :: y, x, hy, hx => by
    simp only [cmpM]
    induction x with
    | nil => exact hx
    | cons a x ih =>
      cases a with
      | drop => exact okM.cons (fun d e => by cases e) (ih hx.tail)
      | put c => simp only [cmpG, if_true]; exact okM.cons (fun d e => hx d (by rw [← e]; simp)) (cmpM_ok y x hy.tail hx.tail)
      | keep => simp only [cmpG, if_true]; exact okM.cons (fun d e => by cases e) (cmpM_ok y x hy.tail hx.tail)
  | .drop :: y, x, hy, hx => by
    simp only [cmpM]
    induction x with
    | nil => exact hx
    | cons a x ih =>
      cases a with
      | drop => exact okM.cons (fun d e => by cases e) (ih hx.tail)
      | put c => simp only [cmpG, Bool.false_eq_true, if_false]; exact cmpM_ok y x hy.tail hx.tail
      | keep => simp only [cmpG, Bool.false_eq_true, if_false]; exact okM.cons (fun d e => by cases e) (cmpM_ok y x hy.tail hx.tail)
theorem ovrM_ok : ∀ (s a : List Mk), okM a → okM (ovrM s a)
  | [], a, ha => ha
  | .put c :: s, a, ha => okM.cons (fun d e => by cases e) (ovrM_ok s a ha)
  | .keep :: s, a, ha => by
    simp only [ovrM]
    induction a with
    | nil => exact ha
    | cons b a ih =>
      cases b with
      | put c => exact okM.cons (fun d e => ha d (by rw [← e]; simp)) (ih ha.tail)
      | keep => simp only [ovrG, if_true]; exact okM.cons (fun d e => by cases e) (ovrM_ok s a ha.tail)
      | drop => simp only [ovrG, if_true]; exact okM.cons (fun d e => by cases e) (ovrM_ok s a ha.tail)
  | .drop :: s, a, ha => by
    simp only [ovrM]
    induction a with
    | nil => exact ha
    | cons b a ih =>
      cases b with
      | put c => exact okM.cons (fun d e => ha d (by rw [← e]; simp)) (ih ha.tail)
      | keep => simp only [ovrG, Bool.false_eq_true, if_false]; exact ovrM_ok s a ha.tail
      | drop => simp only [ovrG, Bool.false_eq_true, if_false]; exact ovrM_ok s a ha.tail
def nput : List Mk → Prop
  | .put _ :: _ => False
  | _ => True
theorem cmpM_puts : ∀ (l : List Nat) (Y X : List Mk), cmpM (l.map Mk.put ++ Y) X = l.map Mk.put ++ cmpM Y X
  | [], _, _ => rfl
  | c :: l, Y, X => by simp only [List.map_cons, List.cons_append, cmpM]; rw [cmpM_puts l]
theorem cmpM_drops : ∀ (n : Nat) (Y X : List Mk), nput Y → cmpM Y (List.replicate n Mk.drop ++ X) = List.replicate n Mk.drop ++ cmpM Y X
  | 0, Y, X, _ => rfl
  | n + 1, [], X, h => rfl
  | n + 1, .put c :: Y, X, h => h.elim
  | n + 1, .keep :: Y, X, h => by have := cmpM_drops n (.keep :: Y) X h; simp only [List.replicate_succ, List.cons_append, cmpM, cmpG] at this ⊢; rw [this]
  | n + 1, .drop :: Y, X, h => by have := cmpM_drops n (.drop :: Y) X h; simp only [List.replicate_succ, List.cons_append, cmpM, cmpG] at this ⊢; rw [this]
theorem cmpM_keepp : ∀ (l : List Nat) (Y X : List Mk), cmpM (List.replicate l.length Mk.keep ++ Y) (l.map Mk.put ++ X) = l.map Mk.put ++ cmpM Y X
  | [], _, _ => rfl
  | c :: l, Y, X => by simp only [List.length_cons, List.map_cons, List.replicate_succ, List.cons_append, cmpM, cmpG, if_true]; rw [cmpM_keepp l]
theorem cmpM_keepk : ∀ (n : Nat) (Y X : List Mk), cmpM (List.replicate n Mk.keep ++ Y) (List.replicate n Mk.keep ++ X) = List.replicate n Mk.keep ++ cmpM Y X
  | 0, _, _ => rfl
  | n + 1, Y, X => by simp only [List.replicate_succ, List.cons_append, cmpM, cmpG, if_true]; rw [cmpM_keepk n]
theorem cmpM_dropk : ∀ (n : Nat) (Y X : List Mk), cmpM (List.replicate n Mk.drop ++ Y) (List.replicate n Mk.keep ++ X) = List.replicate n Mk.drop ++ cmpM Y X
  | 0, _, _ => rfl
  | n + 1, Y, X => by simp only [List.replicate_succ, List.cons_append, cmpM, cmpG, Bool.false_eq_true, if_false]; rw [cmpM_dropk n]
theorem cmpM_dropp : ∀ (l : List Nat) (Y X : List Mk), cmpM (List.replicate l.length Mk.drop ++ Y) (l.map Mk.put ++ X) = cmpM Y X
  | [], _, _ => rfl
  | c :: l, Y, X => by simp only [List.length_cons, List.map_cons, List.replicate_succ, List.cons_append, cmpM, cmpG, Bool.false_eq_true, if_false]; exact cmpM_dropp l Y X
theorem ovrM_puts : ∀ (l : List Nat) (S A : List Mk), ovrM (l.map Mk.put ++ S) A = List.replicate l.length Mk.keep ++ ovrM S A
  | [], _, _ => rfl
  | c :: l, S, A => by simp only [List.length_cons, List.map_cons, List.replicate_succ, List.cons_append, ovrM]; rw [ovrM_puts l]
theorem ovrM_aput : ∀ (l : List Nat) (S A : List Mk), nput S → ovrM S (l.map Mk.put ++ A) = l.map Mk.put ++ ovrM S A
  | [], _, _, _ => rfl
  | c :: l, [], A, h => rfl
  | c :: l, .put _ :: S, A, h => h.elim
  | c :: l, .keep :: S, A, h => by have := ovrM_aput l (.keep :: S) A h; simp only [List.map_cons, List.cons_append, ovrM, ovrG] at this ⊢; rw [this]
  | c :: l, .drop :: S, A, h => by have := ovrM_aput l (.drop :: S) A h; simp only [List.map_cons, List.cons_append, ovrM, ovrG] at this ⊢; rw [this]
theorem ovrM_keeps : ∀ (n : Nat) (m : Mk) (S A : List Mk), (m = .keep ∨ m = .drop) → ovrM (List.replicate n Mk.keep ++ S) (List.replicate n m ++ A) = List.replicate n m ++ ovrM S A
  | 0, _, _, _, _ => rfl
  | n + 1, m, S, A, h => by
    rcases h with rfl | rfl
    · simp only [List.replicate_succ, List.cons_append, ovrM, ovrG, if_true]; rw [ovrM_keeps n _ S A (.inl rfl)]
    · simp only [List.replicate_succ, List.cons_append, ovrM, ovrG, if_true]; rw [ovrM_keeps n _ S A (.inr rfl)]
theorem ovrM_drops : ∀ (n : Nat) (m : Mk) (S A : List Mk), (m = .keep ∨ m = .drop) → ovrM (List.replicate n Mk.drop ++ S) (List.replicate n m ++ A) = ovrM S A
  | 0, _, _, _, _ => rfl
  | n + 1, m, S, A, h => by
    rcases h with rfl | rfl
    · simp only [List.replicate_succ, List.cons_append, ovrM, ovrG, Bool.false_eq_true, if_false]; exact ovrM_drops n _ S A (.inl rfl)
    · simp only [List.replicate_succ, List.cons_append, ovrM, ovrG, Bool.false_eq_true, if_false]; exact ovrM_drops n _ S A (.inr rfl)
def szS (s : Sp) : Nat := if s.k = 2 then (pts s.t.data.toList).length else s.n.toNat
def fstS (s : Sp) (n : Nat) : Sp := if s.k = 2 then ⟨2, 0, txt ((pts s.t.data.toList).take n)⟩ else ⟨s.k, n, ⟨#[]⟩⟩
def rstS (s : Sp) (n : Nat) : Sp := if s.k = 2 then ⟨2, 0, txt ((pts s.t.data.toList).drop n)⟩ else ⟨s.k, s.n - n, ⟨#[]⟩⟩
def lessS (s : Sp) (n : Nat) (l : List Sp) : List Sp := if szS s = n then l else rstS s n :: l
theorem szS_len {s : Sp} (h : SpOK s) : (atS s).length = szS s := by
  unfold szS
  rcases h.cases with ⟨a | a, b, c, d⟩ | ⟨a, b, c⟩
  · rw [atS_keep a, List.length_replicate, if_neg (by omega)]
  · rw [atS_drop a, List.length_replicate, if_neg (by omega)]
  · rw [atS_put a, List.length_map, if_pos a]
theorem szS_put {s : Sp} (h : s.k = 2) : szS s = (pts s.t.data.toList).length := if_pos h
theorem szS_not {s : Sp} (h : s.k ≠ 2) : szS s = s.n.toNat := if_neg h
theorem fstS_not {s : Sp} (n : Nat) (h : s.k ≠ 2) : fstS s n = ⟨s.k, n, ⟨#[]⟩⟩ := if_neg h
theorem rstS_not {s : Sp} (n : Nat) (h : s.k ≠ 2) : rstS s n = ⟨s.k, s.n - n, ⟨#[]⟩⟩ := if_neg h
theorem part_ok {s : Sp} (h : SpOK s) {n : Nat} (hn : n ≤ szS s) : SpOK (fstS s n) ∧ SpOK (rstS s n) ∧ atS (fstS s n) = (atS s).take n ∧ atS (rstS s n) = (atS s).drop n ∧ (fstS s n).t.size + (rstS s n).t.size = s.t.size ∧ (fstS s n).k = s.k ∧ (rstS s n).k = s.k := by
  rcases h.cases with ⟨a, b, c, d⟩ | ⟨a, b, c⟩
  · have hk : s.k ≠ 2 := by omega
    rw [szS_not hk] at hn
    rw [fstS_not n hk, rstS_not n hk, d]
    refine ⟨SpOK.keep a (by simp only; omega) rfl, SpOK.keep a (by simp only; omega) rfl, ?_, ?_, rfl, rfl, rfl⟩
    · rcases a with a | a
      · rw [atS_keep a, atS_keep (s := ⟨s.k, n, ⟨#[]⟩⟩) a, List.take_replicate]; congr 1; simp only; omega
      · rw [atS_drop a, atS_drop (s := ⟨s.k, n, ⟨#[]⟩⟩) a, List.take_replicate]; congr 1; simp only; omega
    · rcases a with a | a
      · rw [atS_keep a, atS_keep (s := ⟨s.k, s.n - n, ⟨#[]⟩⟩) a, List.drop_replicate]; congr 1; simp only; omega
      · rw [atS_drop a, atS_drop (s := ⟨s.k, s.n - n, ⟨#[]⟩⟩) a, List.drop_replicate]; congr 1; simp only; omega
  · have hp := (pts_scal _ c).2
    have e1 : fstS s n = ⟨2, 0, txt ((pts s.t.data.toList).take n)⟩ := if_pos a
    have e2 : rstS s n = ⟨2, 0, txt ((pts s.t.data.toList).drop n)⟩ := if_pos a
    obtain ⟨s1, s2⟩ := scal_text ((pts s.t.data.toList).take n) (fun p hp' => hp p (List.mem_of_mem_take hp'))
    obtain ⟨s3, s4⟩ := scal_text ((pts s.t.data.toList).drop n) (fun p hp' => hp p (List.mem_of_mem_drop hp'))
    rw [e1, e2]
    refine ⟨SpOK.put rfl rfl (by simp only; rw [txt_list]; exact s1), SpOK.put rfl rfl (by simp only; rw [txt_list]; exact s3), ?_, ?_, ?_, a.symm, a.symm⟩
    · rw [atS_put rfl, atS_put a]; simp only; rw [txt_list, s2, List.map_take]
    · rw [atS_put rfl, atS_put a]; simp only; rw [txt_list, s4, List.map_drop]
    · simp only
      have : txt ((pts s.t.data.toList).take n) ++ txt ((pts s.t.data.toList).drop n) = s.t := by rw [txt_app, List.take_append_drop, txt_pts c]
      rw [← size_app, this]
theorem lessS_ok {s : Sp} {l : List Sp} (h : SpOK s) (hl : AllOK l) {n : Nat} (hn : n ≤ szS s) : AllOK (lessS s n l) ∧ mks (lessS s n l) = (atS s).drop n ++ mks l ∧ (lessS s n l).length ≤ l.length + 1 ∧ (szS s = n → (lessS s n l).length = l.length) ∧ (fstS s n).t.size + tbs (lessS s n l) ≤ s.t.size + tbs l := by
  obtain ⟨h1, h2, h3, h4, h5, _, _⟩ := part_ok h hn
  unfold lessS
  by_cases hz : szS s = n
  · rw [if_pos hz]
    refine ⟨hl, ?_, by omega, fun _ => rfl, by omega⟩
    rw [List.drop_of_length_le (by rw [szS_len h]; omega), List.nil_append]
  · rw [if_neg hz]
    exact ⟨AllOK.cons h2 hl, by rw [mks_cons, h4], by simp, fun e => absurd e hz, by rw [tbs_cons]; omega⟩
theorem atS_take {s : Sp} (h : SpOK s) {n : Nat} (hn : n ≤ szS s) : (s.k = 1 ∧ (atS s).take n = List.replicate n Mk.keep) ∨ (s.k = 3 ∧ (atS s).take n = List.replicate n Mk.drop) ∨ (s.k = 2 ∧ ∃ l : List Nat, l.length = n ∧ (atS s).take n = l.map Mk.put) := by
  rcases h.cases with ⟨a | a, b, c, d⟩ | ⟨a, b, c⟩
  · rw [szS_not (by omega)] at hn
    refine .inl ⟨a, ?_⟩
    rw [atS_keep a, List.take_replicate]; congr 1; omega
  · rw [szS_not (by omega)] at hn
    refine .inr (.inl ⟨a, ?_⟩)
    rw [atS_drop a, List.take_replicate]; congr 1; omega
  · rw [szS_put a] at hn
    refine .inr (.inr ⟨a, (pts s.t.data.toList).take n, by rw [List.length_take]; omega, ?_⟩)
    rw [atS_put a, List.map_take]
theorem nput_mks : ∀ {l : List Sp}, AllOK l → (∀ s ∈ l.head?, s.k ≠ 2 ∧ atS s ≠ []) → nput (mks l)
  | [], _, _ => trivial
  | s :: l, h, hk => by
    have hs := h.head
    obtain ⟨h2, h3⟩ := hk s (by simp)
    have hkk := atS_kind hs
    rw [mks_cons]
    cases hA : atS s with
    | nil => exact absurd hA h3
    | cons m A =>
      rw [hA] at hkk
      have := hkk m (by simp)
      cases m with
      | put c => exact absurd this.symm h2
      | keep => trivial
      | drop => trivial
def Ful (l : List Sp) : Prop := ∀ s ∈ l, emptyS s = false
theorem Ful.tail {s : Sp} {l : List Sp} (h : Ful (s :: l)) : Ful l := fun x hx => h x (by simp [hx])
theorem isNG_ful : ∀ {l : List Sp} {p : Option Int}, isNG p l = true → Ful l
  | [], _, _ => fun x hx => by simp at hx
  | s :: l, p, h => by
    simp only [isNG, Bool.and_eq_true, Bool.not_eq_true'] at h
    intro x hx
    rcases List.mem_cons.1 hx with rfl | hx
    · exact h.1.1
    · exact isNG_ful h.2 x hx
theorem lessS_ful {s : Sp} {l : List Sp} (h : SpOK s) (hl : Ful l) {n : Nat} (hn : n ≤ szS s) : Ful (lessS s n l) := by
  unfold lessS
  by_cases hz : szS s = n
  · rw [if_pos hz]; exact hl
  · rw [if_neg hz]
    intro x hx
    rcases List.mem_cons.1 hx with rfl | hx
    · obtain ⟨h1, h2, h3, h4, _⟩ := part_ok h hn
      cases he : emptyS (rstS s n) with
      | false => rfl
      | true =>
        have := atS_empty he
        rw [h4] at this
        have := congrArg List.length this
        rw [List.length_drop, szS_len h] at this
        simp at this; omega
    · exact hl x hx
theorem szS_pos {s : Sp} (h : SpOK s) (he : emptyS s = false) : 0 < szS s := by
  rw [← szS_len h]; exact List.length_pos_iff.2 (atS_ne h he)
def cmpS : Nat → List Sp → List Sp → List Sp
  | 0, _, _ => []
  | f + 1, [], [] => []
  | f + 1, u :: x, [] => u :: cmpS f x []
  | f + 1, [], v :: y => if v.k = 2 then v :: cmpS f [] y else []
  | f + 1, u :: x, v :: y =>
    if v.k = 2 then v :: cmpS f (u :: x) y else
    if u.k = 3 then u :: cmpS f x (v :: y) else
    (if v.k = 1 then [fstS u (min (szS u) (szS v))] else if u.k = 1 then [fstS v (min (szS u) (szS v))] else []) ++ cmpS f (lessS u (min (szS u) (szS v)) x) (lessS v (min (szS u) (szS v)) y)
theorem cut_marks {s : Sp} {l : List Sp} (h : SpOK s) (hl : AllOK l) {n : Nat} (hn : n ≤ szS s) : mks (s :: l) = (atS s).take n ++ mks (lessS s n l) := by
  rw [(lessS_ok h hl hn).2.1, mks_cons, ← List.append_assoc, List.take_append_drop]
theorem put_in {s : Sp} (h : s.k = 2) : inM (atS s) = 0 := by rw [atS_put h]; exact (map_put _).1
theorem drop_out {s : Sp} (h : s.k = 3) : outM (atS s) = 0 := by rw [atS_drop h]; exact (rep_drop _).2
theorem ful_nput {l : List Sp} (h : AllOK l) (hf : Ful l) (hk : ∀ s ∈ l.head?, s.k ≠ 2) : nput (mks l) :=
  nput_mks h fun s hs => ⟨hk s hs, by
    cases l with
    | nil => simp at hs
    | cons x l => simp only [List.head?_cons, Option.mem_def, Option.some.injEq] at hs; subst hs; exact atS_ne h.head (hf _ (by simp))⟩
theorem cmpS_all : ∀ (f : Nat) (x y : List Sp), x.length + y.length ≤ f → AllOK x → AllOK y → Ful x → Ful y → outM (mks x) = inM (mks y) →
    mks (cmpS f x y) = cmpM (mks y) (mks x) ∧ AllOK (cmpS f x y) ∧ (cmpS f x y).length ≤ x.length + y.length ∧ tbs (cmpS f x y) ≤ tbs x + tbs y
  | 0, x, y, hf, hx, hy, _, _, _ => by
    obtain rfl : x = [] := List.length_eq_zero_iff.1 (by omega)
    obtain rfl : y = [] := List.length_eq_zero_iff.1 (by omega)
    exact ⟨rfl, AllOK.nil, Nat.le_refl _, Nat.le_refl _⟩
  | f + 1, [], [], hf, hx, hy, _, _, _ => ⟨rfl, AllOK.nil, Nat.le_refl _, Nat.le_refl _⟩
  | f + 1, u :: x, [], hf, hx, hy, fx, fy, ho => by
    rw [mks_cons, outM_app, mks_nil] at ho
    simp only [inM] at ho
    obtain ⟨i1, i2, i3, i4⟩ := cmpS_all f x [] (by simp at hf ⊢; omega) hx.tail hy fx.tail fy (by rw [mks_nil]; simp only [inM]; omega)
    simp only [cmpS]
    refine ⟨?_, AllOK.cons hx.head i2, by simp at i3 ⊢; omega, by rw [tbs_cons, tbs_cons]; omega⟩
    rw [mks_cons, i1, mks_nil, mks_cons]; rfl
  | f + 1, [], v :: y, hf, hx, hy, fx, fy, ho => by
    rw [mks_cons, inM_app, mks_nil] at ho
    simp only [outM] at ho
    have hv2 : v.k = 2 := by
      refine Decidable.byContradiction fun hk => ?_
      have h1 := (atS_size hy.head).1
      have h2 := szS_pos hy.head (fy v (by simp))
      rw [szS_not hk] at h2
      rcases span_at hy.head with ⟨a, _⟩ | ⟨a, b, c, d⟩
      · exact hk a
      · omega
    simp only [cmpS]; rw [if_pos hv2]
    obtain ⟨i1, i2, i3, i4⟩ := cmpS_all f [] y (by simp at hf ⊢; omega) hx hy.tail fx fy.tail (by rw [mks_nil]; simp only [outM]; omega)
    refine ⟨?_, AllOK.cons hy.head i2, by simp at i3 ⊢; omega, by rw [tbs_cons, tbs_cons]; omega⟩
    rw [mks_cons, i1, mks_cons, atS_put hv2, cmpM_puts]
  | f + 1, u :: x, v :: y, hf, hx, hy, fx, fy, ho => by
    simp only [cmpS]
    by_cases hv2 : v.k = 2
    · rw [if_pos hv2]
      have hv0 := put_in hv2
      rw [mks_cons v, inM_app] at ho
      obtain ⟨i1, i2, i3, i4⟩ := cmpS_all f (u :: x) y (by simp at hf ⊢; omega) hx hy.tail fx fy.tail (by omega)
      refine ⟨?_, AllOK.cons hy.head i2, by simp at i3 ⊢; omega, by rw [tbs_cons, tbs_cons v]; omega⟩
      rw [mks_cons, i1, mks_cons v, atS_put hv2, cmpM_puts]
    · rw [if_neg hv2]
      by_cases hu3 : u.k = 3
      · rw [if_pos hu3]
        have hu0 := drop_out hu3
        rw [mks_cons u, outM_app] at ho
        obtain ⟨i1, i2, i3, i4⟩ := cmpS_all f x (v :: y) (by simp at hf ⊢; omega) hx.tail hy fx.tail fy (by omega)
        refine ⟨?_, AllOK.cons hx.head i2, by simp at i3 ⊢; omega, by rw [tbs_cons, tbs_cons u]; omega⟩
        rw [mks_cons u, i1, mks_cons u, atS_drop hu3, cmpM_drops _ _ _ (ful_nput hy fy (fun s hs => by simp at hs; subst hs; exact hv2))]
      · rw [if_neg hu3]
        have hn1 : min (szS u) (szS v) ≤ szS u := Nat.min_le_left ..
        have hn2 : min (szS u) (szS v) ≤ szS v := Nat.min_le_right ..
        have hone : szS u = min (szS u) (szS v) ∨ szS v = min (szS u) (szS v) := by omega
        generalize min (szS u) (szS v) = n at *
        obtain ⟨a1, a2, a3, a4, a5⟩ := lessS_ok hx.head hx.tail hn1
        obtain ⟨b1, b2, b3, b4, b5⟩ := lessS_ok hy.head hy.tail hn2
        obtain ⟨p1, p2, p3, p4, p5, p6, p7⟩ := part_ok hx.head hn1
        obtain ⟨q1, q2, q3, q4, q5, q6, q7⟩ := part_ok hy.head hn2
        have mx := cut_marks hx.head hx.tail hn1
        have my := cut_marks hy.head hy.tail hn2
        have hlen : (lessS u n x).length + (lessS v n y).length ≤ x.length + y.length + 1 := by
          rcases hone with h | h
          · have := a4 h; omega
          · have := b4 h; omega
        have hom : outM ((atS u).take n) = n ∧ inM ((atS v).take n) = n := by
          refine ⟨?_, ?_⟩
          · rcases atS_take hx.head hn1 with ⟨_, e⟩ | ⟨e, _⟩ | ⟨_, l, e1, e2⟩
            · rw [e]; exact (rep_keep n).2
            · exact absurd e hu3
            · rw [e2, ← e1]; exact (map_put l).2
          · rcases atS_take hy.head hn2 with ⟨_, e⟩ | ⟨_, e⟩ | ⟨e, _⟩
            · rw [e]; exact (rep_keep n).1
            · rw [e]; exact (rep_drop n).1
            · exact absurd e hv2
        rw [mx, my, outM_app, inM_app] at ho
        simp only [List.length_cons] at hf
        obtain ⟨i1, i2, i3, i4⟩ := cmpS_all f _ _ (by omega) a1 b1 (lessS_ful hx.head fx.tail hn1) (lessS_ful hy.head fy.tail hn2) (by omega)
        rw [mx, my, tbs_cons, tbs_cons]
        simp only [List.length_cons]
        rcases atS_take hy.head hn2 with ⟨hk, e⟩ | ⟨hk, e⟩ | ⟨e, _⟩
        · rw [if_pos hk]
          refine ⟨?_, AllOK.app (AllOK.cons p1 AllOK.nil) i2, by simp only [List.singleton_append, List.length_cons]; omega, by rw [List.singleton_append, tbs_cons]; omega⟩
          rw [List.singleton_append, mks_cons, p3, i1, e]
          rcases atS_take hx.head hn1 with ⟨_, e'⟩ | ⟨e', _⟩ | ⟨_, l, e1, e2⟩
          · rw [e', cmpM_keepk]
          · exact absurd e' hu3
          · rw [e2, ← e1, cmpM_keepp]
        · rw [if_neg (by omega)]
          rcases atS_take hx.head hn1 with ⟨hk', e'⟩ | ⟨e', _⟩ | ⟨hk', l, e1, e2⟩
          · rw [if_pos hk']
            have ht : (fstS v n).t.size = 0 := by rw [fstS_not n hv2]; rfl
            refine ⟨?_, AllOK.app (AllOK.cons q1 AllOK.nil) i2, by simp only [List.singleton_append, List.length_cons]; omega, by rw [List.singleton_append, tbs_cons]; omega⟩
            rw [List.singleton_append, mks_cons, q3, i1, e, e', cmpM_dropk]
          · exact absurd e' hu3
          · rw [if_neg (by omega), List.nil_append]
            refine ⟨?_, i2, by omega, by omega⟩
            rw [i1, e, e2, ← e1, cmpM_dropp]
        · exact absurd e hv2
def kpO (s : Sp) : Sp := ⟨1, outS s, ⟨#[]⟩⟩
def ovrS : Nat → List Sp → List Sp → List Sp
  | 0, _, _ => []
  | f + 1, [], [] => []
  | f + 1, u :: a, [] => u :: ovrS f a []
  | f + 1, [], v :: s => if v.k = 2 then kpO v :: ovrS f [] s else []
  | f + 1, u :: a, v :: s =>
    if v.k = 2 then kpO v :: ovrS f (u :: a) s else
    if u.k = 2 then u :: ovrS f a (v :: s) else
    (if v.k = 1 then [fstS u (min (szS u) (szS v))] else []) ++ ovrS f (lessS u (min (szS u) (szS v)) a) (lessS v (min (szS u) (szS v)) s)
theorem kpO_ok {v : Sp} (h : SpOK v) (hk : v.k = 2) (ho : outS v ≤ 1048576) : SpOK (kpO v) ∧ atS (kpO v) = List.replicate (pts v.t.data.toList).length Mk.keep ∧ (kpO v).t.size = 0 := by
  have h2 := (atS_size h).2
  rw [atS_put hk, (map_put _).2] at h2
  refine ⟨SpOK.keep (.inl rfl) (by show 0 ≤ outS v ∧ outS v ≤ 1048576; omega) rfl, ?_, rfl⟩
  rw [atS_keep rfl]; congr 1; show (outS v).toNat = _; omega
theorem ovrS_all : ∀ (f : Nat) (a s : List Sp), a.length + s.length ≤ f → AllOK a → AllOK s → Ful a → Ful s → inM (mks a) = inM (mks s) → outM (mks s) ≤ 1048576 →
    mks (ovrS f a s) = ovrM (mks s) (mks a) ∧ AllOK (ovrS f a s) ∧ (ovrS f a s).length ≤ a.length + s.length ∧ tbs (ovrS f a s) ≤ tbs a
  | 0, x, y, hf, hx, hy, _, _, _, _ => by
    obtain rfl : x = [] := List.length_eq_zero_iff.1 (by omega)
    obtain rfl : y = [] := List.length_eq_zero_iff.1 (by omega)
    exact ⟨rfl, AllOK.nil, Nat.le_refl _, Nat.le_refl _⟩
  | f + 1, [], [], hf, hx, hy, _, _, _, _ => ⟨rfl, AllOK.nil, Nat.le_refl _, Nat.le_refl _⟩
  | f + 1, u :: x, [], hf, hx, hy, fx, fy, ho, hb => by
    rw [mks_cons, inM_app, mks_nil] at ho
    simp only [inM] at ho
    obtain ⟨i1, i2, i3, i4⟩ := ovrS_all f x [] (by simp at hf ⊢; omega) hx.tail hy fx.tail fy (by rw [mks_nil]; simp only [inM]; omega) hb
    simp only [ovrS]
    refine ⟨?_, AllOK.cons hx.head i2, by simp at i3 ⊢; omega, by rw [tbs_cons, tbs_cons]; omega⟩
    rw [mks_cons, i1, mks_nil, mks_cons]; rfl
  | f + 1, [], v :: y, hf, hx, hy, fx, fy, ho, hb => by
    rw [mks_cons, inM_app, mks_nil] at ho
    rw [mks_cons, outM_app] at hb
    simp only [inM] at ho
    have hv2 : v.k = 2 := by
      refine Decidable.byContradiction fun hk => ?_
      have h1 := (atS_size hy.head).1
      have h2 := szS_pos hy.head (fy v (by simp))
      rw [szS_not hk] at h2
      rcases span_at hy.head with ⟨a, _⟩ | ⟨a, b, c, d⟩
      · exact hk a
      · omega
    simp only [ovrS]; rw [if_pos hv2]
    obtain ⟨k1, k2, k3⟩ := kpO_ok hy.head hv2 (by have := (atS_size hy.head).2; omega)
    obtain ⟨i1, i2, i3, i4⟩ := ovrS_all f [] y (by simp at hf ⊢; omega) hx hy.tail fx fy.tail (by rw [mks_nil]; simp only [inM]; omega) (by omega)
    refine ⟨?_, AllOK.cons k1 i2, by simp at i3 ⊢; omega, by rw [tbs_cons]; omega⟩
    rw [mks_cons, i1, mks_cons, atS_put hv2, ovrM_puts, k2]
  | f + 1, u :: x, v :: y, hf, hx, hy, fx, fy, ho, hb => by
    simp only [ovrS]
    by_cases hv2 : v.k = 2
    · rw [if_pos hv2]
      have hv0 := put_in hv2
      rw [mks_cons v, inM_app] at ho
      rw [mks_cons v, outM_app] at hb
      obtain ⟨k1, k2, k3⟩ := kpO_ok hy.head hv2 (by have := (atS_size hy.head).2; omega)
      obtain ⟨i1, i2, i3, i4⟩ := ovrS_all f (u :: x) y (by simp at hf ⊢; omega) hx hy.tail fx fy.tail (by omega) (by omega)
      refine ⟨?_, AllOK.cons k1 i2, by simp at i3 ⊢; omega, by rw [tbs_cons]; omega⟩
      rw [mks_cons, i1, mks_cons v, atS_put hv2, ovrM_puts, k2]
    · rw [if_neg hv2]
      by_cases hu2 : u.k = 2
      · rw [if_pos hu2]
        have hu0 := put_in hu2
        rw [mks_cons u, inM_app] at ho
        obtain ⟨i1, i2, i3, i4⟩ := ovrS_all f x (v :: y) (by simp at hf ⊢; omega) hx.tail hy fx.tail fy (by omega) hb
        refine ⟨?_, AllOK.cons hx.head i2, by simp at i3 ⊢; omega, by rw [tbs_cons, tbs_cons u]; omega⟩
        rw [mks_cons u, i1, mks_cons u, atS_put hu2, ovrM_aput _ _ _ (ful_nput hy fy (fun s hs => by simp at hs; subst hs; exact hv2))]
      · rw [if_neg hu2]
        have hn1 : min (szS u) (szS v) ≤ szS u := Nat.min_le_left ..
        have hn2 : min (szS u) (szS v) ≤ szS v := Nat.min_le_right ..
        have hone : szS u = min (szS u) (szS v) ∨ szS v = min (szS u) (szS v) := by omega
        generalize min (szS u) (szS v) = n at *
        obtain ⟨a1, a2, a3, a4, a5⟩ := lessS_ok hx.head hx.tail hn1
        obtain ⟨b1, b2, b3, b4, b5⟩ := lessS_ok hy.head hy.tail hn2
        obtain ⟨p1, p2, p3, p4, p5, p6, p7⟩ := part_ok hx.head hn1
        have mx := cut_marks hx.head hx.tail hn1
        have my := cut_marks hy.head hy.tail hn2
        have hlen : (lessS u n x).length + (lessS v n y).length ≤ x.length + y.length + 1 := by
          rcases hone with h | h
          · have := a4 h; omega
          · have := b4 h; omega
        have tk : ∃ m, (m = Mk.keep ∨ m = Mk.drop) ∧ (atS u).take n = List.replicate n m ∧ inM (List.replicate n m) = n := by
          rcases atS_take hx.head hn1 with ⟨_, e⟩ | ⟨_, e⟩ | ⟨e, _⟩
          · exact ⟨_, .inl rfl, e, (rep_keep n).1⟩
          · exact ⟨_, .inr rfl, e, (rep_drop n).1⟩
          · exact absurd e hu2
        obtain ⟨m, hm, e', hin⟩ := tk
        have hom : inM ((atS v).take n) = n := by
          rcases atS_take hy.head hn2 with ⟨_, e⟩ | ⟨_, e⟩ | ⟨e, _⟩
          · rw [e]; exact (rep_keep n).1
          · rw [e]; exact (rep_drop n).1
          · exact absurd e hv2
        rw [mx, my, inM_app, inM_app, e'] at ho
        rw [my, outM_app] at hb
        simp only [List.length_cons] at hf
        obtain ⟨i1, i2, i3, i4⟩ := ovrS_all f _ _ (by omega) a1 b1 (lessS_ful hx.head fx.tail hn1) (lessS_ful hy.head fy.tail hn2) (by omega) (by omega)
        rw [mx, my, tbs_cons]
        simp only [List.length_cons]
        rcases atS_take hy.head hn2 with ⟨hk, e⟩ | ⟨hk, e⟩ | ⟨e, _⟩
        · rw [if_pos hk]
          refine ⟨?_, AllOK.app (AllOK.cons p1 AllOK.nil) i2, by simp only [List.singleton_append, List.length_cons]; omega, by rw [List.singleton_append, tbs_cons]; omega⟩
          rw [List.singleton_append, mks_cons, p3, i1, e, e', ovrM_keeps _ _ _ _ hm]
        · rw [if_neg (by omega), List.nil_append]
          refine ⟨?_, i2, by omega, by omega⟩
          rw [i1, e, e', ovrM_drops _ _ _ _ hm]
        · exact absurd e hv2
structure OpS (l : List Sp) : Prop where
  all : AllOK l
  bnd : sumI inS l ≤ 1048576
theorem OpS.of {l : List Sp} (h : opMayF l = 0) (hl : l.length ≤ 1000000000) : OpS l ∧ inW l = sumI inS l := by
  obtain ⟨h1, h2⟩ := (opMay_iff l).1 h
  have h3 := inW_sum h1 hl
  exact ⟨⟨h1, by omega⟩, h3⟩
theorem OpS.may {l : List Sp} (h : OpS l) (hl : l.length ≤ 1000000000) : opMayF l = 0 ∧ inW l = sumI inS l := by
  have h3 := inW_sum h.all hl
  exact ⟨(opMay_iff l).2 ⟨h.all, by rw [h3]; exact h.bnd⟩, h3⟩
theorem OpS.norm {l : List Sp} (h : OpS l) : OpS (norm l) ∧ isN (norm l) = true ∧ mks (norm l) = mks l ∧ sumI inS (norm l) = sumI inS l ∧ sumI outS (norm l) = sumI outS l ∧ tbs (norm l) = tbs l ∧ (norm l).length ≤ l.length ∧ Ful (norm l) := by
  obtain ⟨a, b, c, d, e⟩ := norm_all l h.all h.bnd
  have hn := norm_isN l h.all h.bnd
  exact ⟨⟨a, by rw [b]; exact h.bnd⟩, hn, mks_norm h.all h.bnd, b, c, d, e, isNG_ful hn⟩
def cmpO (a b : List Sp) : List Sp := mkO (cmpM (mks b) (mks a))
def ovrO (a s : List Sp) : List Sp := mkO (ovrM (mks s) (mks a))
structure OpN (l : List Sp) : Prop where
  ops : OpS l
  nf : isN l = true
theorem OpN.inj {l m : List Sp} (h : OpN l) (h' : OpN m) (he : mks l = mks m) : l = m := mks_inj h.ops.all h'.ops.all h.nf h'.nf he
theorem mkO_opn {A : List Mk} (h : okM A) (hn : inM A ≤ 1048576) : OpN (mkO A) ∧ mks (mkO A) = A := by
  obtain ⟨h1, h2, h3⟩ := mkO_all h hn
  exact ⟨⟨⟨h1, by have := (mks_size h1).1; rw [h3] at this; omega⟩, h2⟩, h3⟩
theorem cmpO_all {a b : List Sp} (ha : OpS a) (hb : OpS b) (ho : sumI outS a = sumI inS b) :
    OpN (cmpO a b) ∧ mks (cmpO a b) = cmpM (mks b) (mks a) ∧ sumI inS (cmpO a b) = sumI inS a ∧ sumI outS (cmpO a b) = sumI outS b ∧
    Abs.norm (cmpS ((Abs.norm a).length + (Abs.norm b).length) (Abs.norm a) (Abs.norm b)) = cmpO a b ∧ AllOK (cmpS ((Abs.norm a).length + (Abs.norm b).length) (Abs.norm a) (Abs.norm b)) ∧
    sumI inS (cmpS ((Abs.norm a).length + (Abs.norm b).length) (Abs.norm a) (Abs.norm b)) ≤ 1048576 ∧ (cmpS ((Abs.norm a).length + (Abs.norm b).length) (Abs.norm a) (Abs.norm b)).length ≤ a.length + b.length ∧
    tbs (cmpS ((Abs.norm a).length + (Abs.norm b).length) (Abs.norm a) (Abs.norm b)) ≤ tbs a + tbs b ∧ (cmpO a b).length ≤ a.length + b.length ∧ tbs (cmpO a b) ≤ tbs a + tbs b := by
  obtain ⟨a1, a2, a3, a4, a5, a6, a7, a8⟩ := ha.norm
  obtain ⟨b1, b2, b3, b4, b5, b6, b7, b8⟩ := hb.norm
  have ma := mks_size ha.all
  have mb := mks_size hb.all
  have hm : outM (mks a) = inM (mks b) := by omega
  obtain ⟨i1, i2, i3, i4⟩ := cmpS_all _ _ _ (Nat.le_refl _) a1.all b1.all a8 b8 (by rw [a3, b3]; exact hm)
  rw [a3, b3] at i1
  have hsz := cmpM_size (fun _ => 0) (mks b) (mks a) hm
  have hab := ha.bnd
  obtain ⟨o1, o2⟩ := mkO_opn (cmpM_ok _ _ (okM_mks hb.all) (okM_mks ha.all)) (by omega : inM (cmpM (mks b) (mks a)) ≤ 1048576)
  have hc := mks_size i2
  rw [i1] at hc
  have hd := mks_size o1.ops.all
  rw [o2] at hd
  have hbn : sumI inS (cmpS ((Abs.norm a).length + (Abs.norm b).length) (Abs.norm a) (Abs.norm b)) ≤ 1048576 := by omega
  have he : Abs.norm (cmpS ((Abs.norm a).length + (Abs.norm b).length) (Abs.norm a) (Abs.norm b)) = cmpO a b := by rw [norm_mkO i2 hbn, i1]; rfl
  obtain ⟨n1, n2, n3, n4, n5⟩ := norm_all _ i2 hbn
  rw [he] at n1 n2 n3 n4 n5
  exact ⟨o1, o2, by show sumI inS (mkO _) = _; omega, by show sumI outS (mkO _) = _; omega, he, i2, hbn, by omega, by omega, by omega, by omega⟩
theorem ovrO_all {a s : List Sp} (ha : OpS a) (hs : OpS s) (ho : sumI inS a = sumI inS s) (hb : sumI outS s ≤ 1048576) :
    OpN (ovrO a s) ∧ mks (ovrO a s) = ovrM (mks s) (mks a) ∧ sumI inS (ovrO a s) = sumI outS s ∧
    Abs.norm (ovrS ((Abs.norm a).length + (Abs.norm s).length) (Abs.norm a) (Abs.norm s)) = ovrO a s ∧ AllOK (ovrS ((Abs.norm a).length + (Abs.norm s).length) (Abs.norm a) (Abs.norm s)) ∧
    sumI inS (ovrS ((Abs.norm a).length + (Abs.norm s).length) (Abs.norm a) (Abs.norm s)) ≤ 1048576 ∧ (ovrS ((Abs.norm a).length + (Abs.norm s).length) (Abs.norm a) (Abs.norm s)).length ≤ a.length + s.length ∧
    tbs (ovrS ((Abs.norm a).length + (Abs.norm s).length) (Abs.norm a) (Abs.norm s)) ≤ tbs a ∧ (ovrO a s).length ≤ a.length + s.length ∧ tbs (ovrO a s) ≤ tbs a := by
  obtain ⟨a1, a2, a3, a4, a5, a6, a7, a8⟩ := ha.norm
  obtain ⟨b1, b2, b3, b4, b5, b6, b7, b8⟩ := hs.norm
  have ma := mks_size ha.all
  have mb := mks_size hs.all
  have hm : inM (mks a) = inM (mks s) := by omega
  obtain ⟨i1, i2, i3, i4⟩ := ovrS_all _ _ _ (Nat.le_refl _) a1.all b1.all a8 b8 (by rw [a3, b3]; exact hm) (by rw [b3]; omega)
  rw [a3, b3] at i1
  have hsz := ovrM_size (fun _ => 0) (mks s) (mks a) hm
  obtain ⟨o1, o2⟩ := mkO_opn (ovrM_ok _ _ (okM_mks ha.all)) (by omega : inM (ovrM (mks s) (mks a)) ≤ 1048576)
  have hc := mks_size i2
  rw [i1] at hc
  have hd := mks_size o1.ops.all
  rw [o2] at hd
  have hbn : sumI inS (ovrS ((Abs.norm a).length + (Abs.norm s).length) (Abs.norm a) (Abs.norm s)) ≤ 1048576 := by omega
  have he : Abs.norm (ovrS ((Abs.norm a).length + (Abs.norm s).length) (Abs.norm a) (Abs.norm s)) = ovrO a s := by rw [norm_mkO i2 hbn, i1]; rfl
  obtain ⟨n1, n2, n3, n4, n5⟩ := norm_all _ i2 hbn
  rw [he] at n1 n2 n3 n4 n5
  exact ⟨o1, o2, by show sumI inS (mkO _) = _; omega, he, i2, hbn, by omega, by omega, by omega, by omega⟩
end Go.Proofs.YtadlnaljicikfaaDoor.Abs
