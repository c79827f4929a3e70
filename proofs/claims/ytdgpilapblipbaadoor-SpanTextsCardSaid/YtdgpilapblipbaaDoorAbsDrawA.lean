/- A calculus over values: what steps hang on, and what they leave. -/
import Derived.Test.YtdgpilapblipbaaDoorAbsEvw
namespace Go.Proofs.YtdgpilapblipbaaDoor.Abs
open Go
set_option linter.unusedSimpArgs false
set_option linter.unusedVariables false
namespace Ev
def useO : Operand → List Nat
  | .tmp t => [t]
  | _ => []
def useQ : Option Operand → List Nat
  | some x => useO x
  | none => []
def uses : Op → List Nat
  | .move x | .assign x => useO x
  | .store _ p x => useO p ++ useO x
  | .pick c a b => useO c ++ (useO a ++ useO b)
  | .box _ x => useO x
  | .build _ parts => parts.toList.flatMap fun p => useO p.2
  | .buildSlice _ _ parts => parts.toList.flatMap fun p => useO p.2
  | .load _ p => useO p
  | .nilCheck x => useO x
  | .binOp _ _ x y _ => useO x ++ useO y
  | .unOp _ _ x => useO x
  | .convert _ _ x => useO x
  | .makeFunc _ f c => f.toList.flatMap useO ++ c.toList.flatMap useO
  | .fieldAddr _ x _ => useO x
  | .field _ x _ => useO x
  | .indexAddr _ x i => useO x ++ useO i
  | .index _ x i => useO x ++ useO i
  | .extract x _ => useO x
  | .slice _ x lo hi mx => useO x ++ (useQ lo ++ (useQ hi ++ useQ mx))
  | .makeSlice _ l c => useO l ++ useO c
  | .call cl => (match cl.callee with | .value f => useO f | _ => []) ++ cl.args.toList.flatMap useO
  | _ => []
section
variable {E : Env} {T : Tab} {hs : List FuncId} {sl sl' : List (Nat × AV)} {hp : List (Nat × Blk)} {ct nm : Nat}
theorem operE_congr {x : Operand} (h : ∀ t ∈ useO x, get sl t = get sl' t) : operE E sl x = operE E sl' x := by
  cases x with
  | tmp t => exact h t (by simp [useO])
  | _ => rfl
theorem bndE_congr {x : Option Operand} (h : ∀ t ∈ useQ x, get sl t = get sl' t) : bndE E sl x = bndE E sl' x := by
  cases x with
  | none => rfl
  | some x => simp only [bndE, operE_congr (E := E) h]
theorem argsE_congr : ∀ {l : List Operand}, (∀ t ∈ l.flatMap useO, get sl t = get sl' t) → argsE E sl l = argsE E sl' l
  | [], _ => rfl
  | x :: l, h => by
    simp only [argsE]
    rw [operE_congr (E := E) (sl' := sl') (fun t ht => h t (by simp [ht])), argsE_congr (l := l) (fun t ht => h t (by rw [List.flatMap_cons]; exact List.mem_append_right _ ht))]
theorem partsE_congr : ∀ {l : List (Nat × Operand)}, (∀ t ∈ l.flatMap (fun p => useO p.2), get sl t = get sl' t) → partsE E sl l = partsE E sl' l
  | [], _ => rfl
  | (i, x) :: l, h => by
    simp only [partsE]
    rw [operE_congr (E := E) (sl' := sl') (fun t ht => h t (by simp [ht])), partsE_congr (l := l) (fun t ht => h t (by rw [List.flatMap_cons]; exact List.mem_append_right _ ht))]
theorem pursK_sl : ∀ {l : List AV} {hp : List (Nat × Blk)} {K : List AV → List (Nat × Blk) → Prop}, pursK sl hp l K = pursK sl' hp l K
  | [], hp, K => rfl
  | x :: l, hp, K => by
    simp only [pursK]
    have : ∀ (y : AV) (hp' : List (Nat × Blk)), pursK sl hp' l (fun l' hp'' => K (y :: l') hp'') = pursK sl' hp' l (fun l' hp'' => K (y :: l') hp'') := fun y hp' => pursK_sl
    simp only [this]
theorem stepE_congr {op : Op} {K : AV → List (Nat × Blk) → Nat → Prop} (h : ∀ t ∈ uses op, get sl t = get sl' t) : stepE E T hs nm op sl hp ct K = stepE E T hs nm op sl' hp ct K := by
  have L : ∀ {a b : List Nat}, (∀ t ∈ a ++ b, get sl t = get sl' t) → ∀ t ∈ a, get sl t = get sl' t := fun h t ht => h t (List.mem_append_left _ ht)
  have R : ∀ {a b : List Nat}, (∀ t ∈ a ++ b, get sl t = get sl' t) → ∀ t ∈ b, get sl t = get sl' t := fun h t ht => h t (List.mem_append_right _ ht)
  cases op <;> simp only [uses] at h <;> simp only [stepE]
  case move x => rw [operE_congr h]
  case assign x => rw [operE_congr h]
  case store t p x => rw [operE_congr (L h), operE_congr (R h)]; rfl
  case pick c a b => rw [operE_congr (L h), operE_congr (L (R h)), operE_congr (R (R h))]
  case box t x => rw [operE_congr h]
  case build t parts => rw [partsE_congr h]
  case buildSlice t len parts => rw [partsE_congr h]; simp only [pursK_sl (sl := sl) (sl' := sl')]
  case load t p => rw [operE_congr h]
  case nilCheck x => rw [operE_congr h]
  case binOp op t x y t' => rw [operE_congr (L h), operE_congr (R h)]
  case unOp op t x => rw [operE_congr h]
  case convert a b x => rw [operE_congr h]
  case makeFunc fn f c => rw [argsE_congr (L h), argsE_congr (R h)]
  case fieldAddr t x f => rw [operE_congr h]
  case field t x f => rw [operE_congr h]
  case indexAddr t x i => rw [operE_congr (L h), operE_congr (R h)]
  case index t x i => rw [operE_congr (L h), operE_congr (R h)]
  case extract x i => rw [operE_congr h]
  case slice t x lo hi mx => rw [operE_congr (L h), bndE_congr (L (R h)), bndE_congr (L (R (R h))), bndE_congr (R (R (R h)))]
  case makeSlice t l c => rw [operE_congr (L h), operE_congr (R h)]
  case call cl =>
    have h2 := R h
    have h1 := L h
    have o : ∀ x ∈ cl.args.toList, operE E sl x = operE E sl' x := fun x hx => operE_congr (fun t ht => h2 t (List.mem_flatMap.2 ⟨x, hx, ht⟩))
    unfold callE
    split
    · rename_i x t a1 a2 a3; rw [o x (by rw [a2]; simp)]
    · rename_i q x y a1 a2; rw [o x (by rw [a2]; simp), o y (by rw [a2]; simp)]
    · rename_i q x y a1 a2; rw [o x (by rw [a2]; simp), o y (by rw [a2]; simp)]
    · rename_i x y t t' a1 a2 a3; rw [o x (by rw [a2]; simp), o y (by rw [a2]; simp)]
    · rename_i a1; simp only [a1] at h1; rw [operE_congr h1, argsE_congr h2]; simp only [pursK_sl (sl := sl) (sl' := sl')]
    · rfl

/-- The rows are still there, as they were. -/
def Ext (hp hp' : List (Nat × Blk)) : Prop := ∀ r k, get hp r = some k → ∃ k', get hp' r = some k' ∧ k'.es = k.es ∧ k'.ver = k.ver ∧ k'.sz = k.sz ∧ k'.box = k.box ∧ k'.ty = k.ty
theorem Ext.refl (hp : List (Nat × Blk)) : Ext hp hp := fun r k h => ⟨k, h, rfl, rfl, rfl, rfl, rfl⟩
theorem Ext.trans {a b c : List (Nat × Blk)} (h : Ext a b) (h' : Ext b c) : Ext a c := fun r k hk => by
  obtain ⟨k1, g1, e1, e2, e3, e4, e5⟩ := h r k hk
  obtain ⟨k2, g2, f1, f2, f3, f4, f5⟩ := h' r k1 g1
  exact ⟨k2, g2, f1.trans e1, f2.trans e2, f3.trans e3, f4.trans e4, f5.trans e5⟩
theorem Ext.cons {n : Nat} {k : Blk} (h : get hp n = none) : Ext hp ((n, k) :: hp) := fun r k' hk => by
  refine ⟨k', ?_, rfl, rfl, rfl, rfl, rfl⟩
  rw [get_cons, if_neg (fun e => by subst e; rw [h] at hk; cases hk)]; exact hk
theorem Ext.frz {r : Nat} {k : Blk} (h : get hp r = some k) (m : Nat) : Ext hp ((r, { k with frz := m }) :: hp) := fun r' k' hk => by
  rw [get_cons]
  by_cases e : r' = r
  · subst e
    rw [h] at hk; obtain rfl := Option.some.inj hk
    exact ⟨_, if_pos rfl, rfl, rfl, rfl, rfl, rfl⟩
  · exact ⟨k', by rw [if_neg e]; exact hk, rfl, rfl, rfl, rfl, rfl⟩
theorem get_app {α : Type} {l l' : List (Nat × α)} {t : Nat} {x : α} (h : get l t = some x) : get (l ++ l') t = some x := by
  induction l with
  | nil => simp [get_nil] at h
  | cons q l ih =>
    obtain ⟨k, y⟩ := q
    rw [List.cons_append, get_cons]; rw [get_cons] at h
    split
    · rename_i e; rw [if_pos e] at h; exact h
    · rename_i e; rw [if_neg e] at h; exact ih h
theorem Ext.app (l : List (Nat × Blk)) : Ext hp (hp ++ l) := fun r k hk => ⟨k, get_app hk, rfl, rfl, rfl, rfl, rfl⟩
theorem Ext.adds (nm ct : Nat) : ∀ (l : List Blk) (j : Nat) (s : St), Ext s.hp (St.adds nm ct j l s).hp
  | [], j, s => Ext.refl _
  | k :: l, j, s => by
    simp only [St.adds]
    exact (Ext.app _).trans (Ext.adds nm ct l (j + 1) { s with hp := s.hp ++ [(nm + j, k.shift nm ct j)] })
theorem chkS_k {b : Bool} {A : Prop} (k : A) (h : b = true) : chkS b A := by subst h; exact k
theorem frzK_mono : ∀ {l : List (Nat × Nat)} {hp : List (Nat × Blk)} {R R' : List (Nat × Blk) → Prop}, frzK hp l R → (∀ hp', Ext hp hp' → R hp' → R' hp') → frzK hp l R'
  | [], hp, R, R', h, hk => hk _ (Ext.refl _) h
  | (r, n) :: l, hp, R, R', h, hk => by
    simp only [frzK] at h ⊢
    split at h
    · rename_i k hg
      try simp only [hg]
      exact frzK_mono h (fun hp' he => hk hp' ((Ext.frz hg _).trans he))
    · rename_i hg
      try simp only [hg]
      exact frzK_mono h hk
theorem purL_mono {f : AV → (AV → List (Nat × Nat) → Prop) → Prop} (hf : ∀ x K K', f x K → (∀ y m, K y m → K' y m) → f x K') : ∀ {l : List AV} {K K' : List AV → List (Nat × Nat) → Prop}, purL f l K → (∀ y m, K y m → K' y m) → purL f l K'
  | [], K, K', h, hk => hk _ _ h
  | c :: l, K, K', h, hk => by
    simp only [purL] at h ⊢
    exact hf _ _ _ h (fun y m h' => purL_mono hf h' (fun y' m' => hk _ _))
theorem purK_mono : ∀ (n : Nat) (x : AV) (K K' : AV → List (Nat × Nat) → Prop), purK hp n x K → (∀ y m, K y m → K' y m) → purK hp n x K'
  | 0, x, K, K', h, hk => by simp only [purK] at h
  | n + 1, x, K, K', h, hk => by
    cases x <;> simp only [purK] at h ⊢
    case agg cs => exact purL_mono (purK_mono n) h (fun y m => hk _ _)
    case tup cs => exact purL_mono (purK_mono n) h (fun y m => hk _ _)
    case clo f a b => exact purL_mono (purK_mono n) h (fun y m h' => purL_mono (purK_mono n) h' (fun y m => hk _ _))
    case own r ver off len =>
      split at h
      · rename_i k hg
        obtain ⟨hb, h1, h2⟩ := brK_tt h
        exact chk_k (⟨h1, hk _ _ h2⟩) hb
      · exact h.elim
    all_goals exact hk _ _ h
theorem pursK_mono : ∀ {l : List AV} {hp : List (Nat × Blk)} {K K' : List AV → List (Nat × Blk) → Prop}, pursK sl hp l K → (∀ y hp', Ext hp hp' → K y hp' → K' y hp') → pursK sl hp l K'
  | [], hp, K, K', h, hk => hk _ _ (Ext.refl _) h
  | x :: l, hp, K, K', h, hk => by
    simp only [pursK] at h ⊢
    exact purK_mono _ _ _ _ h (fun y m h' => frzK_mono h' (fun hp' he h'' => pursK_mono h'' (fun y' hp'' he' => hk _ _ (he.trans he'))))
theorem partE_mono {t : TypeId} {cs : List AV} {K K' : AV → Prop} (h : partE T t cs K) (hk : ∀ x, K x → K' x) : partE T t cs K' := by
  unfold partE at h ⊢
  split at h <;> rename_i hn <;> (try simp only [hn])
  · exact ⟨h.1, hk _ h.2⟩
  · split at h
    · exact hk _ h
    · exact h.elim
  · exact h
theorem intE_mono {op : BinOp} {k : IntKind} {a b : Int} {K K' : Value → Prop} (h : intE op k a b K) (hk : ∀ v, K v → K' v) : intE op k a b K' := by
  cases op <;> simp only [intE] at h ⊢ <;> first | exact hk _ h | exact ⟨h.1, hk _ h.2⟩
theorem binE_mono {op : BinOp} {t : TypeId} {x y : AV} {K K' : Value → Prop} (h : binE T op t x y K) (hk : ∀ v, K v → K' v) : binE T op t x y K' := by
  unfold binE at h ⊢
  split at h
  · obtain ⟨hb, h⟩ := chkS_tt h
    exact chkS_k (intE_mono h hk) hb
  · split at h
    · exact ⟨h.1, hk _ h.2⟩
    · exact hk _ h
    · exact hk _ h
    · exact h.elim
  · split at h <;> first | exact hk _ h | exact h.elim
  · split at h <;> first | exact hk _ h | exact h.elim
  · split at h <;> first | exact hk _ h | exact h.elim
  · split at h <;> first | exact hk _ h | exact h.elim
  · exact h.elim
theorem elsK_mono {x : AV} {K K' : List (List AV) → Prop} (h : elsK hp x K) (hk : ∀ x, K x → K' x) : elsK hp x K' := by
  unfold elsK at h ⊢
  split at h
  · exact hk _ h
  · exact hk _ h
  · split at h
    · obtain ⟨hb, h1, h2⟩ := brK_tt h
      exact chk_k (⟨h1, hk _ h2⟩) hb
    · exact h.elim
  · exact h.elim
theorem conE_mono {a b : TypeId} {x : AV} {K K' : AV → Prop} (h : conE T a b hp x K) (hk : ∀ x, K x → K' x) : conE T a b hp x K' := by
  unfold conE at h ⊢
  split at h
  · exact hk _ h
  · exact hk _ h
  · split at h
    · exact hk _ h
    · exact h.elim
  · split at h
    · exact elsK_mono h (fun xs h' => by split at h'; exact hk _ h'; exact h'.elim)
    · exact h.elim
  · exact h.elim
theorem fillE_mono {places : List (Nat × Nat)} : ∀ {l : List (Nat × AV)} {cells : List AV} {K K' : List AV → Prop}, fillE places cells l K → (∀ x, K x → K' x) → fillE places cells l K'
  | [], cells, K, K', h, hk => hk _ h
  | (i, x) :: l, cells, K, K', h, hk => by
    simp only [fillE] at h ⊢
    split at h
    · obtain ⟨hb, h⟩ := chkS_tt h
      exact chkS_k (fillE_mono h hk) hb
    · exact h.elim
theorem cutE_mono {len : Nat} {lo hi : Option Int} {K K' : Nat → Nat → Prop} (h : cutE len lo hi K) (hk : ∀ a b, K a b → K' a b) : cutE len lo hi K' := by
  unfold cutE at h ⊢
  split at h <;> first | exact hk _ _ h | exact ⟨h.1, hk _ _ h.2⟩
theorem sliceE_mono {t : TypeId} {x : AV} {lo hi mx : Option Int} {K K' : AV → Prop} (h : sliceE T t hp x lo hi mx K) (hk : ∀ x, K x → K' x) : sliceE T t hp x lo hi mx K' := by
  unfold sliceE at h ⊢
  split at h
  · split at h
    · exact cutE_mono h (fun _ _ => hk _)
    · exact h.elim
  · split at h
    · exact cutE_mono h (fun _ _ => hk _)
    · exact h.elim
  · split at h
    · obtain ⟨hb, h⟩ := chkS_tt h
      refine chkS_k ?_ hb
      refine cutE_mono h (fun a b h' => ?_)
      split at h'
      · exact hk _ h'
      · exact ⟨h'.1, hk _ h'.2⟩
    · exact h.elim
  · split at h
    · obtain ⟨hb, h⟩ := brK_tt h
      exact chk_k (cutE_mono h (fun _ _ => hk _)) hb
    · exact h.elim
  · exact h.elim
theorem appE_mono {t : TypeId} {x : AV} {ys : List (List AV)} {K K' : AV → List (Nat × Blk) → Nat → Prop} (h : appE T nm t hp ct x ys K) (hk : ∀ x a b, K x a b → K' x a b) : appE T nm t hp ct x ys K' := by
  unfold appE at h ⊢
  split at h
  · split at h
    · split at h
      · exact ⟨h.1, hk _ _ _ h.2⟩
      · exact h.elim
    · split at h
      · obtain ⟨hb, h1, h2⟩ := brK_tt h
        exact chk_k (⟨h1, hk _ _ _ h2⟩) hb
      · exact h.elim
    · exact h.elim
  · exact h.elim
theorem elK_mono {es : List (List AV)} {i : Nat} {K K' : List AV → Prop} (h : elK es i K) (hk : ∀ x, K x → K' x) : elK es i K' := by
  unfold elK at h ⊢
  split at h
  · exact hk _ h
  · exact h.elim
theorem cellsE_mono {x : AV} {K K' : List AV → Prop} (h : cellsE hp x K) (hk : ∀ x, K x → K' x) : cellsE hp x K' := by
  unfold cellsE at h ⊢
  split at h
  · exact hk _ h
  · split at h
    · obtain ⟨hb, h⟩ := brK_tt h
      exact chk_k (elK_mono h (fun e => hk _)) hb
    · exact h.elim
  · exact h.elim
theorem storeE_mono {t : TypeId} {p x : AV} {K K' : List (Nat × Blk) → Prop} (h : storeE T t p x sl hp ct K) (hk : ∀ x, K x → K' x) : storeE T t p x sl hp ct K' := by
  unfold storeE at h ⊢
  split at h
  · split at h
    · split at h
      · split at h
        · obtain ⟨hb, h1, h⟩ := brK_tt h
          exact chk_k (⟨h1, elK_mono h (fun e => hk _)⟩) hb
        · exact h.elim
      · refine purK_mono _ _ _ _ h (fun y m h' => frzK_mono h' (fun hp' he h'' => ?_))
        split at h''
        · obtain ⟨hb, h1, h2⟩ := brK_tt h''
          exact chk_k (⟨h1, elK_mono h2 (fun e => hk _)⟩) hb
        · exact h''.elim
    · exact h.elim
  · exact h.elim

def mutO (hs : List FuncId) : Op → Bool
  | .store _ _ _ => true
  | .call cl => (match cl.callee with | .builtin .append => true | .value (.func g) => hs.contains g | .value _ => !hs.isEmpty | _ => false)
  | _ => false
theorem stepE_mono {op : Op} {K K' : AV → List (Nat × Blk) → Nat → Prop} (h : stepE E T hs nm op sl hp ct K) (hk : ∀ x hp' ct', (mutO hs op = false → Ext hp hp') → K x hp' ct' → K' x hp' ct') : stepE E T hs nm op sl hp ct K' := by
  have same : ∀ {x ct'}, K x hp ct' → K' x hp ct' := fun h => hk _ _ _ (fun _ => Ext.refl _) h
  have new : ∀ {x ct' k}, get hp nm = none → K x ((nm, k) :: hp) ct' → K' x ((nm, k) :: hp) ct' := fun hn h => hk _ _ _ (fun _ => Ext.cons hn) h
  cases op <;> simp only [stepE] at h ⊢
  case move x => split at h <;> first | exact same h | exact h.elim
  case assign x => split at h <;> first | exact same h | exact h.elim
  case store t p x =>
    split at h
    · exact storeE_mono h (fun hp' h' => hk _ _ _ (fun e => by simp [mutO] at e) h')
    · exact h.elim
  case pick c a b =>
    split at h
    · rename_i t ht
      cases t
      · have h' : optK (operE E sl b) fun x => K x hp ct := h
        show optK (operE E sl b) fun x => K' x hp ct
        unfold optK at h' ⊢
        split at h' <;> first | exact same h' | exact h'.elim
      · have h' : optK (operE E sl a) fun x => K x hp ct := h
        show optK (operE E sl a) fun x => K' x hp ct
        unfold optK at h' ⊢
        split at h' <;> first | exact same h' | exact h'.elim
    · exact h.elim
  case alloc t => split at h; (rename_i hc hg; exact new hg h); exact h.elim
  case box t x =>
    split at h
    · rename_i hc hg
      split at h
      · exact new hg h
      · exact h.elim
    · exact h.elim
  case build t parts =>
    split at h
    · exact fillE_mono h (fun cs => same)
    · exact h.elim
  case buildSlice t len parts =>
    split at h
    · obtain ⟨hb, h⟩ := chkS_tt h
      refine chkS_k ?_ hb
      refine pursK_mono h (fun y hp' he h' => ?_)
      split at h'
      · rename_i hg; exact hk _ _ _ (fun _ => he.trans (Ext.cons hg)) h'
      · exact h'.elim
    · exact h.elim
  case load t p =>
    split at h
    · exact cellsE_mono h (fun cs h' => partE_mono h' (fun x => same))
    · exact h.elim
  case nilCheck x => split at h <;> first | exact same h | exact h.elim
  case binOp op t x y t' => split at h; exact binE_mono h (fun v => same); exact h.elim
  case unOp op t x => split at h <;> first | exact same h | exact h.elim
  case convert a b x => split at h; exact conE_mono h (fun v => same); exact h.elim
  case makeFunc fn f c => split at h <;> first | exact same h | exact h.elim
  case fieldAddr t x f =>
    split at h
    · split at h <;> first | exact same h | exact h.elim
    · split at h <;> first | exact same h | exact h.elim
    · exact h.elim
  case field t x f =>
    split at h
    · split at h <;> first | exact partE_mono h (fun v => same) | exact h.elim
    · exact h.elim
  case indexAddr t x i =>
    split at h
    · split at h
      · obtain ⟨hb, h1, h2⟩ := chkS_tt h
        exact chkS_k (⟨h1, elK_mono h2 (fun e => same)⟩) hb
      · exact h.elim
    · split at h
      · obtain ⟨hb, h1, h2⟩ := brK_tt h
        exact chk_k (⟨h1, same h2⟩) hb
      · exact h.elim
    · split at h <;> first | exact ⟨h.1, same h.2⟩ | exact h.elim
    · split at h <;> first | exact ⟨h.1, same h.2⟩ | exact h.elim
    · exact h.elim
  case index t x i =>
    split at h
    · split at h <;> first | exact ⟨h.1, same h.2⟩ | exact h.elim
    · split at h <;> first | exact ⟨h.1, partE_mono h.2 (fun v => same)⟩ | exact h.elim
    · exact h.elim
  case extract x i =>
    split at h
    · split at h <;> first | exact same h | exact h.elim
    · exact h.elim
  case slice t x lo hi mx => split at h; exact sliceE_mono h (fun v => same); exact h.elim
  case makeSlice t l c => split at h; (rename_i hg; exact ⟨h.1, new hg h.2⟩); exact h.elim
  case call cl =>
    unfold callE at h ⊢
    split at h
    · split at h
      · split at h <;> first | exact same h | exact h.elim
      · split at h <;> first | exact same h | exact h.elim
      · exact h.elim
    · split at h <;> first | exact same h | exact h.elim
    · split at h <;> first | exact same h | exact h.elim
    · rename_i a1 a2 a3
      have mu : ∀ {hp' : List (Nat × Blk)}, mutO hs (.call cl) = false → Ext hp hp' := fun e => by simp [mutO, a1] at e
      split at h
      · split at h
        · exact appE_mono h (fun x a b => hk _ _ _ mu)
        · exact h.elim
      · split at h
        · exact elsK_mono h (fun ys h' => appE_mono h' (fun x a b => hk _ _ _ mu))
        · exact h.elim
      · exact h.elim
    · rename_i f a1
      split at h
      · rename_i g first caps as hf has
        split at h
        · rename_i hc
          have mu : ∀ {hp' : List (Nat × Blk)}, mutO hs (.call cl) = false → Ext hp hp' := fun e => by
            exfalso
            simp only [mutO, a1] at e
            cases f with
            | func g' =>
              simp only [operE, Option.some.injEq, AV.clo.injEq, Fn.func.injEq] at hf
              simp only [hf.1] at e; rw [hc] at e; cases e
            | _ => cases hs <;> simp_all
          have h := h.out
          refine ⟨?_⟩
          intro M0 w0 c M J w vs i1 i2 i3
          obtain ⟨a, b⟩ := h M0 w0 c M J w vs i1 i2 i3
          refine ⟨a, b.mono ?_⟩
          rintro e w' ⟨v, r, hp', c', M', J', x1, x2, x3, x4⟩
          exact ⟨v, r, hp', c', M', J', x1, fun c' hc' => hk _ _ _ mu (x2 c' hc'), x3, x4⟩
        · refine pursK_mono h (fun ys hp' he h' => ?_)
          have h' := h'.out
          refine ⟨?_⟩
          refine h'.mono ?_
          rintro r hs' ⟨a, b, c⟩
          exact ⟨a, b, hk _ _ _ (fun _ => he.trans (Ext.adds nm ct hs' 0 ⟨[], hp', 0⟩)) c⟩
      · exact h.elim
    · exact h.elim
end
end Ev
end Go.Proofs.YtdgpilapblipbaaDoor.Abs
