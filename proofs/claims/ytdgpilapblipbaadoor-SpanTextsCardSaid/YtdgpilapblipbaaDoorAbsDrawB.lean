/- A calculus over values: operations whose order is open. -/
import Derived.Test.YtdgpilapblipbaaDoorAbsDrawA
import Derived.Orders
namespace Go.Proofs.YtdgpilapblipbaaDoor.Abs
open Go Go.RowKit
set_option linter.unusedSimpArgs false
set_option linter.unusedVariables false
namespace Ev
def SlEq (a b : List (Nat × AV)) : Prop := ∀ t, get a t = get b t
theorem SlEq.refl (a : List (Nat × AV)) : SlEq a a := fun _ => rfl
theorem SlEq.symm {a b : List (Nat × AV)} (h : SlEq a b) : SlEq b a := fun t => (h t).symm
theorem SlEq.trans {a b c : List (Nat × AV)} (h : SlEq a b) (h' : SlEq b c) : SlEq a c := fun t => (h t).trans (h' t)
theorem SlEq.cons {a b : List (Nat × AV)} (h : SlEq a b) (d : Nat) (x : AV) : SlEq ((d, x) :: a) ((d, x) :: b) := fun t => by
  rw [get_cons, get_cons]; split
  · rfl
  · exact h t
theorem SlEq.app {a b : List (Nat × AV)} (h : SlEq a b) : ∀ u : List (Nat × AV), SlEq (u ++ a) (u ++ b)
  | [] => h
  | (d, x) :: u => (SlEq.app h u).cons d x
theorem SlEq.over {a : List (Nat × AV)} {t : Nat} {x : AV} (h : get a t = some x) : SlEq ((t, x) :: a) a := fun t' => by
  rw [get_cons]; split
  · rename_i e; subst e; exact h.symm
  · rfl
theorem get_swap {a : List (Nat × AV)} {d : Nat} {x : AV} : ∀ {u : List (Nat × AV)}, (∀ p ∈ u, p.1 ≠ d) → SlEq (u ++ (d, x) :: a) ((d, x) :: (u ++ a))
  | [], _, t => rfl
  | (k, y) :: u, h, t => by
    have ih := get_swap (a := a) (d := d) (x := x) (u := u) (fun p hp => h p (by simp [hp])) t
    have hne : k ≠ d := h (k, y) (by simp)
    rw [List.cons_append, get_cons, ih, get_cons, get_cons, List.cons_append, get_cons]
    by_cases e : t = k
    · subst e; rw [if_pos rfl, if_neg hne, if_pos rfl]
    · rw [if_neg e, if_neg e]
theorem only_eq {a b : List (Nat × AV)} (h : SlEq a b) : ∀ (ks : List Nat) (acc : List (Nat × AV)), onlyA a ks acc = onlyA b ks acc
  | [], acc => rfl
  | k :: ks, acc => by
    simp only [onlyA, h k]
    split
    · exact only_eq h ks _
    · exact only_eq h ks _

theorem get_pre {a : List (Nat × AV)} {t : Nat} : ∀ {u : List (Nat × AV)}, (∀ p ∈ u, p.1 = t → get a t = some p.2) → get (u ++ a) t = get a t
  | [], _ => rfl
  | (k, y) :: u, h => by
    rw [List.cons_append, get_cons]
    split
    · rename_i e; exact (h (k, y) (by simp) e.symm).symm
    · exact get_pre (fun p hp => h p (by simp [hp]))
def stillO : Op → Bool
  | .move _ | .load _ _ | .fieldAddr _ _ _ | .field _ _ _ | .indexAddr _ _ _ | .extract _ _ => true
  | _ => false
def loadsO : Op → Bool
  | .load _ _ | .indexAddr _ _ _ => true
  | _ => false
section
variable {E : Env} {T : Tab} {hs : List FuncId} {sl sl' : List (Nat × AV)} {hp hp' : List (Nat × Blk)} {ct nm base : Nat}
theorem elK_still {es : List (List AV)} {i : Nat} {K : List AV → Prop} (h : elK es i K) : ∃ e, K e ∧ ∀ K' : List AV → Prop, K' e → elK es i K' := by
  obtain ⟨e, he, hk⟩ := elK_sound h
  exact ⟨e, hk, fun K' h' => el_of e he h'⟩
theorem cellsE_still {a : AV} {K : List AV → Prop} (h : cellsE hp a K) : ∃ cs, K cs ∧ ∀ (hp' : List (Nat × Blk)) (K' : List AV → Prop), Ext hp hp' → K' cs → cellsE hp' a K' := by
  unfold cellsE at h
  split at h
  · rename_i cs; exact ⟨cs, h, fun hp' K' _ h' => h'⟩
  · rename_i r ver i o
    split at h
    · rename_i k hk
      obtain ⟨hb, h⟩ := brK_tt h
      obtain ⟨e, he, hk'⟩ := elK_sound h
      refine ⟨_, hk', fun hp' K' ext h' => ?_⟩
      obtain ⟨k', g, e1, e2, e3, e4, e5⟩ := ext r k hk
      simp only [cellsE, g]
      exact chk_k (el_of e (by rw [e1]; exact he) h') (by rw [e2]; exact hb)
    · exact h.elim
  · exact h.elim
theorem partE_still {t : TypeId} {cs : List AV} {K : AV → Prop} (h : partE T t cs K) : ∃ x, K x ∧ ∀ K' : AV → Prop, K' x → partE T t cs K' := by
  unfold partE at h ⊢
  split at h
  · exact ⟨_, h.2, fun K' h' => ⟨h.1, h'⟩⟩
  · split at h
    · exact ⟨_, h, fun K' h' => h'⟩
    · exact h.elim
  · exact h.elim
theorem step_still {op : Op} {R : AV → List (Nat × Blk) → Nat → Prop} (hs' : stillO op = true) (h : stepE E T hs nm op sl hp ct R) :
    ∃ x, R x hp ct ∧ ∀ (sl' : List (Nat × AV)) (hp' : List (Nat × Blk)) (ct' : Nat) (R' : AV → List (Nat × Blk) → Nat → Prop), (∀ t ∈ uses op, get sl' t = get sl t) → (loadsO op = true → Ext hp hp') → R' x hp' ct' → stepE E T hs nm op sl' hp' ct' R' := by
  cases op <;> simp only [stillO, Bool.false_eq_true] at hs' <;> simp only [stepE] at h
  case move x =>
    split at h
    · rename_i a ha
      refine ⟨a, h, fun sl' hp' ct' R' hu _ h' => ?_⟩
      simp only [stepE, operE_congr (E := E) (x := x) hu, ha]; exact h'
    · exact h.elim
  case load t p =>
    split at h
    · rename_i a ha
      obtain ⟨cs, h1, h2⟩ := cellsE_still h
      obtain ⟨x, h3, h4⟩ := partE_still h1
      refine ⟨x, h3, fun sl' hp' ct' R' hu he h' => ?_⟩
      simp only [stepE, operE_congr (E := E) (x := p) hu, ha]
      exact h2 hp' _ (he rfl) (h4 _ h')
    · exact h.elim
  case fieldAddr t x f =>
    split at h
    · rename_i l cs hl ha
      split at h
      · rename_i o t' n hf
        refine ⟨_, h, fun sl' hp' ct' R' hu _ h' => ?_⟩
        simp only [stepE, operE_congr (E := E) (x := x) hu, hl, ha, hf]; exact h'
      · exact h.elim
    · rename_i l r v i o' hl ha
      split at h
      · rename_i o t' n hf
        refine ⟨_, h, fun sl' hp' ct' R' hu _ h' => ?_⟩
        simp only [stepE, operE_congr (E := E) (x := x) hu, hl, ha, hf]; exact h'
      · exact h.elim
    · exact h.elim
  case field t x f =>
    split at h
    · rename_i l cs hl ha
      split at h
      · rename_i o t' n hf
        obtain ⟨y, h3, h4⟩ := partE_still h
        refine ⟨y, h3, fun sl' hp' ct' R' hu _ h' => ?_⟩
        simp only [stepE, operE_congr (E := E) (x := x) hu, hl, ha, hf]; exact h4 _ h'
      · exact h.elim
    · exact h.elim
  case indexAddr t x i =>
    have cx : ∀ sl', (∀ t ∈ uses (Op.indexAddr t x i), get sl' t = get sl t) → operE E sl' x = operE E sl x := fun sl' hu => operE_congr (fun t ht => hu t (by simp only [uses]; exact List.mem_append_left _ ht))
    have ci : ∀ sl', (∀ t ∈ uses (Op.indexAddr t x i), get sl' t = get sl t) → operE E sl' i = operE E sl i := fun sl' hu => operE_congr (fun t ht => hu t (by simp only [uses]; exact List.mem_append_right _ ht))
    split at h
    · rename_i z xs k n ha hi
      split at h
      · rename_i e sz q hl
        obtain ⟨hb, h1, h2⟩ := chkS_tt h
        obtain ⟨e', h3, h4⟩ := elK_still h2
        refine ⟨_, h3, fun sl' hp' ct' R' hu _ h' => ?_⟩
        simp only [stepE, cx sl' hu, ci sl' hu, ha, hi, hl]
        exact chkS_k ⟨h1, h4 _ h'⟩ hb
      · exact h.elim
    · rename_i r v off len k n ha hi
      split at h
      · rename_i e sz q k' hl hg
        obtain ⟨hb, h1, h2⟩ := brK_tt h
        refine ⟨_, h2, fun sl' hp' ct' R' hu he h' => ?_⟩
        obtain ⟨k2, g, e1, e2, e3, e4, e5⟩ := he rfl r k' hg
        simp only [stepE, cx sl' hu, ci sl' hu, ha, hi, hl, g]
        exact chk_k ⟨h1, h'⟩ (by rw [e2, e3]; exact hb)
      · exact h.elim
    · rename_i cs k n ha hi
      split at h
      · rename_i m e sz hl
        refine ⟨_, h.2, fun sl' hp' ct' R' hu _ h' => ?_⟩
        simp only [stepE, cx sl' hu, ci sl' hu, ha, hi, hl]
        exact ⟨h.1, h'⟩
      · exact h.elim
    · rename_i r v j o k n ha hi
      split at h
      · rename_i m e sz hl
        refine ⟨_, h.2, fun sl' hp' ct' R' hu _ h' => ?_⟩
        simp only [stepE, cx sl' hu, ci sl' hu, ha, hi, hl]
        exact ⟨h.1, h'⟩
      · exact h.elim
    · exact h.elim
  case extract x i =>
    split at h
    · rename_i xs ha
      split at h
      · rename_i a hx
        refine ⟨a, h, fun sl' hp' ct' R' hu _ h' => ?_⟩
        simp only [stepE, operE_congr (E := E) (x := x) hu, ha, hx]; exact h'
      · exact h.elim
    · exact h.elim

def gOf (a : Ins) : List Nat := match a.g with | some (t, _) => [t] | none => []
def usesI (a : Ins) : List Nat := gOf a ++ uses a.op
/-- An operation hangs on its operands alone; and what it writes stands in front. -/
theorem insE_move {a : Ins} {R R' : List (Nat × AV) → List (Nat × Blk) → Nat → Prop} (h : insE E T hs base a sl hp ct R) (hu : ∀ t ∈ usesI a, get sl t = get sl' t)
    (hk : ∀ (u : List (Nat × AV)) hp' ct', (∀ p ∈ u, some p.1 = a.dst ∨ (p.1 ∈ gOf a ∧ get sl p.1 = some p.2)) → (mutO hs a.op = false → Ext hp hp') → R (u ++ sl) hp' ct' → R' (u ++ sl') hp' ct') : insE E T hs base a sl' hp ct R' := by
  obtain ⟨i, d, op, g⟩ := a
  have put : ∀ {x : AV} {u : List (Nat × AV)} {hp' : List (Nat × Blk)} {ct' : Nat}, (∀ p ∈ u, some p.1 = d ∨ (p.1 ∈ gOf ⟨i, d, op, g⟩ ∧ get sl p.1 = some p.2)) → (mutO hs op = false → Ext hp hp') → (putK d x (u ++ sl) fun s => R s hp' ct') → putK d x (u ++ sl') fun s => R' s hp' ct' := by
    intro x u hp' ct' hu he h
    cases d with
    | none => exact hk u _ _ hu he h
    | some d => exact hk ((d, x) :: u) _ _ (by intro p hp; rcases List.mem_cons.1 hp with rfl | hp; exact .inl rfl; exact hu p hp) he h
  have un : ∀ t ∈ uses op, get sl t = get sl' t := fun t ht => hu t (by simp only [usesI]; exact List.mem_append_right _ ht)
  cases g with
  | none =>
    simp only [insE] at h ⊢
    rw [stepE_congr (sl' := sl') un] at h
    exact stepE_mono h (fun x hp' ct' he h' => put (u := []) (by simp) he h')
  | some g =>
    obtain ⟨t, want⟩ := g
    have hg : get sl t = get sl' t := hu t (by simp [usesI, gOf])
    have mem : ∀ b : AV, get sl t = some b → ∀ p ∈ ([(t, b)] : List (Nat × AV)), some p.1 = d ∨ (p.1 ∈ gOf ⟨i, d, op, some (t, want)⟩ ∧ get sl p.1 = some p.2) := by intro b hb p hp; simp at hp; subst hp; exact .inr ⟨by simp [gOf], hb⟩
    have un' : ∀ b : AV, ∀ t' ∈ uses op, get ((t, b) :: sl) t' = get ((t, b) :: sl') t' := fun b t' ht' => by rw [get_cons, get_cons]; split; rfl; exact un t' ht'
    simp only [insE, ← hg] at h ⊢
    split at h
    · rename_i b hb
      split at h
      · cases b
        · exact put (u := [(t, .v (.bool false))]) (mem _ hb) (fun _ => Ext.refl _) h
        · have h : stepE E T hs (base + i * 8) op ((t, .v (.bool true)) :: sl) hp ct fun x hp' ct' => putK d x ((t, .v (.bool true)) :: sl) fun sl' => R sl' hp' ct' := h
          rw [stepE_congr (un' _)] at h
          exact stepE_mono h (fun x hp' ct' he h' => put (u := [(t, .v (.bool true))]) (mem _ hb) he h')
      · cases b
        · have h : stepE E T hs (base + i * 8) op ((t, .v (.bool false)) :: sl) hp ct fun x hp' ct' => putK d x ((t, .v (.bool false)) :: sl) fun sl' => R sl' hp' ct' := h
          rw [stepE_congr (un' _)] at h
          exact stepE_mono h (fun x hp' ct' he h' => put (u := [(t, .v (.bool false))]) (mem _ hb) he h')
        · exact put (u := [(t, .v (.bool true))]) (mem _ hb) (fun _ => Ext.refl _) h
    · exact put (u := []) (by simp) (fun _ => Ext.refl _) h
    · exact h.elim

/-- What a still operation comes to, here and later. -/
def Stays (E : Env) (T : Tab) (hs : List FuncId) (base : Nat) (a : Ins) (d : Nat) (x : AV) (sl : List (Nat × AV)) (hp : List (Nat × Blk)) : Prop :=
  ∀ (ct : Nat) (R : List (Nat × AV) → List (Nat × Blk) → Nat → Prop), (∀ sl1, SlEq sl1 ((d, x) :: sl) → R sl1 hp ct) → insE E T hs base a sl hp ct R
theorem ins_still {a : Ins} {d : Nat} {R : List (Nat × AV) → List (Nat × Blk) → Nat → Prop} (hd : a.dst = some d) (hs' : stillO a.op = true) (h : insE E T hs base a sl hp ct R) :
    ∃ x sl1, SlEq sl1 ((d, x) :: sl) ∧ R sl1 hp ct ∧ ∀ (sl' : List (Nat × AV)) (hp' : List (Nat × Blk)), (∀ t ∈ usesI a, get sl' t = get sl t) → (loadsO a.op = true → Ext hp hp') → Stays E T hs base a d x sl' hp' := by
  obtain ⟨i, d0, op, g⟩ := a
  simp only at hd hs'; subst hd
  cases g with
  | none =>
    simp only [insE] at h
    obtain ⟨x, h1, h2⟩ := step_still hs' h
    refine ⟨x, _, SlEq.refl _, h1, fun sl' hp' hu he ct' R' h' => ?_⟩
    simp only [insE]
    exact h2 sl' hp' ct' _ (fun t ht => hu t (by simp only [usesI]; exact List.mem_append_right _ ht)) he (h' _ (SlEq.refl _))
  | some g =>
    obtain ⟨t, want⟩ := g
    have gu : ∀ {sl' : List (Nat × AV)}, (∀ t' ∈ usesI ⟨i, some d, op, some (t, want)⟩, get sl' t' = get sl t') → get sl' t = get sl t := fun hu => hu t (by simp [usesI, gOf])
    have un : ∀ {sl' : List (Nat × AV)} {b : AV}, (∀ t' ∈ usesI ⟨i, some d, op, some (t, want)⟩, get sl' t' = get sl t') → ∀ t' ∈ uses op, get ((t, b) :: sl') t' = get ((t, b) :: sl) t' := fun hu t' ht' => by
      rw [get_cons, get_cons]; split; rfl; exact hu t' (by simp only [usesI]; exact List.mem_append_right _ ht')
    simp only [insE] at h
    split at h
    · rename_i b hb
      have skip : ∀ c, b = c → (R ((d, .v (.tuple #[])) :: (t, .v (.bool c)) :: sl) hp ct) → (want = !c) → ∃ x sl1, SlEq sl1 ((d, x) :: sl) ∧ R sl1 hp ct ∧ ∀ (sl' : List (Nat × AV)) (hp' : List (Nat × Blk)), (∀ t' ∈ usesI ⟨i, some d, op, some (t, want)⟩, get sl' t' = get sl t') → (loadsO op = true → Ext hp hp') → Stays E T hs base ⟨i, some d, op, some (t, want)⟩ d x sl' hp' := by
        rintro c rfl h hw
        refine ⟨_, _, (SlEq.over hb).cons _ _, h, fun sl' hp' hu he ct' R' h' => ?_⟩
        have hb' : get sl' t = some (.v (.bool b)) := by rw [gu hu]; exact hb
        have := h' _ ((SlEq.over hb').cons _ _)
        simp only [insE, hb']
        cases b <;> subst hw <;> exact this
      have go : ∀ c, b = c → (stepE E T hs (base + i * 8) op ((t, .v (.bool c)) :: sl) hp ct fun x hp' ct' => R ((d, x) :: (t, .v (.bool c)) :: sl) hp' ct') → (want = c) → ∃ x sl1, SlEq sl1 ((d, x) :: sl) ∧ R sl1 hp ct ∧ ∀ (sl' : List (Nat × AV)) (hp' : List (Nat × Blk)), (∀ t' ∈ usesI ⟨i, some d, op, some (t, want)⟩, get sl' t' = get sl t') → (loadsO op = true → Ext hp hp') → Stays E T hs base ⟨i, some d, op, some (t, want)⟩ d x sl' hp' := by
        rintro c rfl h hw
        obtain ⟨x, h1, h2⟩ := step_still hs' h
        refine ⟨x, _, (SlEq.over hb).cons _ _, h1, fun sl' hp' hu he ct' R' h' => ?_⟩
        have hb' : get sl' t = some (.v (.bool b)) := by rw [gu hu]; exact hb
        have := h2 ((t, .v (.bool b)) :: sl') hp' ct' (fun x hp' ct' => R' ((d, x) :: (t, .v (.bool b)) :: sl') hp' ct') (un hu) he (h' _ ((SlEq.over hb').cons _ _))
        simp only [insE, hb']
        cases b <;> subst hw <;> exact this
      split at h
      · cases b
        · exact skip false rfl h rfl
        · exact go true rfl h rfl
      · cases b
        · exact go false rfl h rfl
        · exact skip true rfl h rfl
    · rename_i vs hb
      refine ⟨_, _, SlEq.refl _, h, fun sl' hp' hu he ct' R' h' => ?_⟩
      have hb' : get sl' t = some (.v (.tuple vs)) := by rw [gu hu]; exact hb
      simp only [insE, hb']
      exact h' _ (SlEq.refl _)
    · exact h.elim

def rdy (deps : List (List Nat)) (L : List Nat) (i : Nat) : Bool := !L.contains i && (match deps[i]? with | some ds => ds.all fun j => L.contains j | none => false)
def AnyS (E : Env) (T : Tab) (hs : List FuncId) (base : Nat) (l : List Ins) (deps : List (List Nat)) : Nat → List Nat → List (Nat × AV) → List (Nat × Blk) → Nat → (St → Prop) → Prop
  | 0, L, sl, hp, ct, Q => (∀ i, i < deps.length → L.contains i = true) ∧ Q ⟨onlyL sl E.keep, hp, ct⟩
  | n + 1, L, sl, hp, ct, Q => (∃ i, rdy deps L i = true) ∧ ∀ i a, rdy deps L i = true → l[i]? = some a → insE E T hs base a sl hp ct fun sl' hp' ct' => AnyS E T hs base l deps n (i :: L) sl' hp' ct' Q
variable {l : List Ins} {deps : List (List Nat)} {Q : St → Prop}
theorem rdy_congr {L L' : List Nat} (h : ∀ j, L.contains j = L'.contains j) (i : Nat) : rdy deps L i = rdy deps L' i := by
  unfold rdy; rw [h i]; cases deps[i]? with
  | none => rfl
  | some ds => simp only [h]
theorem AnyS_congr : ∀ (n : Nat) {L L' : List Nat} {sl sl' : List (Nat × AV)} {hp : List (Nat × Blk)} {ct : Nat}, (∀ j, L.contains j = L'.contains j) → SlEq sl sl' → AnyS E T hs base l deps n L sl hp ct Q → AnyS E T hs base l deps n L' sl' hp ct Q
  | 0, L, L', sl, sl', hp, ct, hL, hsl, h => by
    refine ⟨fun i hi => by rw [← hL]; exact h.1 i hi, ?_⟩
    have : onlyL sl' E.keep = onlyL sl E.keep := only_eq hsl.symm _ _
    rw [this]; exact h.2
  | n + 1, L, L', sl, sl', hp, ct, hL, hsl, h => by
    obtain ⟨⟨i, hi⟩, h⟩ := h
    refine ⟨⟨i, by rw [← rdy_congr hL]; exact hi⟩, fun i a hi ha => ?_⟩
    rw [← rdy_congr hL] at hi
    refine insE_move (h i a hi ha) (fun t _ => hsl t) (fun u hp' ct' _ _ h' => ?_)
    refine AnyS_congr n (fun j => ?_) (hsl.app u) h'
    rw [List.contains_cons, List.contains_cons, hL]

def indep (a b : Ins) : Bool :=
  (match a.dst with | some d => !(usesI b).contains d && (b.dst != some d) | none => false) && (match b.dst with | some d => !(usesI a).contains d | none => true)
/-- No other one that may come ahead of it has to do with it. -/
def freeI (hs : List FuncId) (l : List Ins) (deps : List (List Nat)) (L : List Nat) (i : Nat) (a : Ins) : Prop :=
  ∀ j b, j ≠ i → L.contains j = false → l[j]? = some b → (∀ ds, deps[j]? = some ds → ds.contains i = false) → indep a b = true ∧ (loadsO a.op = true → mutO hs b.op = false)
theorem any_still {i d : Nat} {a : Ins} {x : AV} (hi : l[i]? = some a) (hd : a.dst = some d) : ∀ (n : Nat) {L : List Nat} {sl : List (Nat × AV)} {hp : List (Nat × Blk)} {ct : Nat}, freeI hs l deps L i a → rdy deps L i = true →
    (∀ (sl' : List (Nat × AV)) (hp' : List (Nat × Blk)), (∀ t ∈ usesI a, get sl' t = get sl t) → (loadsO a.op = true → Ext hp hp') → Stays E T hs base a d x sl' hp') →
    AnyS E T hs base l deps n (i :: L) ((d, x) :: sl) hp ct Q → AnyS E T hs base l deps (n + 1) L sl hp ct Q
  | n, L, sl, hp, ct, hf, hr, hst, h => by
    refine ⟨⟨i, hr⟩, fun j b hj hb => ?_⟩
    by_cases e : j = i
    · subst e
      rw [hi] at hb; obtain rfl := Option.some.inj hb
      refine hst sl hp (fun _ _ => rfl) (fun _ => Ext.refl _) ct _ (fun sl1 h1 => ?_)
      exact AnyS_congr n (fun _ => rfl) h1.symm h
    · have hjL : L.contains j = false := by unfold rdy at hj; rw [Bool.and_eq_true] at hj; simpa using hj.1
      have hnd : ∀ ds, deps[j]? = some ds → ds.contains i = false := by
        intro ds hds
        unfold rdy at hj hr
        rw [Bool.and_eq_true] at hj hr
        rw [hds] at hj
        cases hc : ds.contains i with
        | false => rfl
        | true =>
          have := List.all_eq_true.1 hj.2 i (by simpa using hc)
          have h2 := hr.1
          rw [this] at h2; simp at h2
      obtain ⟨hin, hmu⟩ := hf j b e hjL hb hnd
      have ⟨p1, p2, p3⟩ : (∀ t ∈ usesI b, t ≠ d) ∧ (b.dst ≠ some d) ∧ (∀ d', b.dst = some d' → d' ∉ usesI a) := by
        simp only [indep, hd, Bool.and_eq_true, Bool.not_eq_true', bne_iff_ne, ne_eq] at hin
        refine ⟨fun t ht e => ?_, hin.1.2, fun d' hd' hm => ?_⟩
        · subst e; have := hin.1.1; simp only [List.contains_eq_mem, decide_eq_false_iff_not] at this; exact this ht
        · have := hin.2; rw [hd'] at this; simp only [Bool.not_eq_true', List.contains_eq_mem, decide_eq_false_iff_not] at this; exact this hm
      cases n with
      | zero =>
        exfalso
        have hlt : j < deps.length := by
          unfold rdy at hj; rw [Bool.and_eq_true] at hj
          cases hg : deps[j]? with
          | none => rw [hg] at hj; simp at hj
          | some ds => exact (List.getElem?_eq_some_iff.1 hg).1
        have := h.1 j hlt
        rw [List.contains_cons, hjL] at this
        simp at this; exact e this
      | succ n =>
        obtain ⟨_, h⟩ := h
        have hj' : rdy deps (i :: L) j = true := by
          unfold rdy at hj ⊢
          rw [Bool.and_eq_true] at hj ⊢
          refine ⟨by rw [List.contains_cons, hjL]; simp [e], ?_⟩
          cases hg : deps[j]? with
          | none => rw [hg] at hj; exact hj.2
          | some ds =>
            rw [hg] at hj
            simp only [List.all_eq_true] at hj ⊢
            intro k hk; rw [List.contains_cons, hj.2 k hk]; simp
        refine insE_move (h j b hj' hb) (fun t ht => by rw [get_cons, if_neg (p1 t ht)]) (fun u hp' ct' hu he h' => ?_)
        have hsw : SlEq (u ++ (d, x) :: sl) ((d, x) :: (u ++ sl)) := get_swap (fun p hp e => by
          rcases hu p hp with h1 | h1
          · rw [e] at h1; exact p2 h1.symm
          · exact p1 p.1 (by simp only [usesI]; exact List.mem_append_left _ h1.1) e)
        have h2 : AnyS E T hs base l deps n (i :: j :: L) ((d, x) :: (u ++ sl)) hp' ct' Q := AnyS_congr n (fun k => by simp only [List.contains_cons]; cases (k == j) <;> cases (k == i) <;> rfl) hsw h'
        refine any_still hi hd n (fun k c hk hkL hc hcd => hf k c hk (by rw [List.contains_cons] at hkL; simp at hkL; simpa using hkL.2) hc hcd) ?_ ?_ h2
        · unfold rdy at hr ⊢
          rw [Bool.and_eq_true] at hr ⊢
          refine ⟨by rw [List.contains_cons]; have := hr.1; simp at this ⊢; exact ⟨fun e' => e e'.symm, this⟩, ?_⟩
          cases hg : deps[i]? with
          | none => rw [hg] at hr; exact hr.2
          | some ds =>
            rw [hg] at hr
            simp only [List.all_eq_true] at hr ⊢
            intro k hk; rw [List.contains_cons, hr.2 k hk]; simp
        · intro sl2 hp2 hu2 he2
          refine hst sl2 hp2 (fun t ht => ?_) (fun hl => (he (hmu hl)).trans (he2 hl))
          rw [hu2 t ht]
          refine get_pre (fun p hp e' => ?_)
          rcases hu p hp with h1 | h1
          · exact absurd ht (by rw [← e']; exact p3 p.1 h1.symm)
          · have h2 := h1.2
            rw [get_cons, if_neg (p1 p.1 (by simp only [usesI]; exact List.mem_append_left _ h1.1)), e'] at h2
            exact h2
  termination_by n => n
end
end Ev
end Go.Proofs.YtdgpilapblipbaaDoor.Abs
