/- A part of the proof: a calculus over values, and contracts of functions. No condition. -/
import Derived.Test.YtadlnaljicikfaaDoorZQ3
namespace Go.Proofs.YtadlnaljicikfaaDoor.Abs
open Go Go.RowKit
set_option linter.unusedSimpArgs false
set_option linter.unusedVariables false
namespace Ev
def minC (cl : Call) : Bool := match cl.callee with | .builtin .min => true | _ => false
theorem minC_eq {cl : Call} (h : minC cl = true) : cl.callee = .builtin .min := by
  unfold minC at h; split at h
  · assumption
  · cases h
def pureB (E : Env) (sl : List (Nat × AV)) : Op → Bool
  | .indexAddr _ x _ => (match operE E sl x with | some (.lst _ _) => true | _ => false)
  | .load _ p => (match operE E sl p with | some (.rptr _) => true | _ => false)
  | .convert _ _ x => (match operE E sl x with | some (.lst _ _) => true | some (.v _) => true | _ => false)
  | .binOp _ _ x y _ => (match operE E sl x, operE E sl y with | some (.v (.int _ _)), some (.v (.int _ _)) => true | _, _ => false)
  | .slice _ x _ _ _ => (match operE E sl x with | some (.lst _ _) => true | some (.v _) => true | _ => false)
  | .build _ _ => true
  | .call cl => minC cl
  | _ => false
def stillV : Op → Bool
  | .binOp _ _ _ _ _ => true
  | .slice _ _ _ _ _ => true
  | .build _ _ => true
  | .call cl => minC cl || lenC cl
  | op => stillO op
def pureI (E : Env) (sl : List (Nat × AV)) (a : Ins) : Bool := match a.g with | none => pureB E sl a.op | some _ => false
section
variable {E : Env} {T : Tab} {hs : List FuncId} {sl sl' : List (Nat × AV)} {hp hp' : List (Nat × Blk)} {ct nm base : Nat}
theorem conE_pure {src dst : TypeId} {a : AV} (ha : (∃ s xs, a = .lst s xs) ∨ ∃ v, a = .v v) {K : AV → Prop} (h : conE T src dst hp a K) : ∃ x, K x ∧ ∀ (hp' : List (Nat × Blk)) (K' : AV → Prop), K' x → conE T src dst hp' a K' := by
  have els : ∀ {K : List (List AV) → Prop}, elsK hp a K → ∃ xs, K xs ∧ ∀ (hp' : List (Nat × Blk)) (K' : List (List AV) → Prop), K' xs → elsK hp' a K' := by
    intro K h
    unfold elsK at h
    try simp only [bwith_eq] at h
    split at h
    · rename_i xs; exact ⟨_, h, fun hp' K' h' => h'⟩
    · exact ⟨_, h, fun hp' K' h' => h'⟩
    · rcases ha with ⟨_, _, e⟩ | ⟨_, e⟩ <;> cases e
    · exact h.elim
  unfold conE at h
  split at h
  · rename_i h1 h2; exact ⟨_, h, fun hp' K' h' => by simp only [conE, h1, h2]; exact h'⟩
  · rename_i h1 h2; exact ⟨_, h, fun hp' K' h' => by simp only [conE, h1, h2]; exact h'⟩
  · rename_i h1 h2
    split at h
    · rename_i h3; exact ⟨_, h, fun hp' K' h' => by simp only [conE, h1, h2, h3]; exact h'⟩
    · rename_i h3; exact ⟨_, h.2, fun hp' K' h' => by simp only [conE, h1, h2, h3]; exact ⟨h.1, h'⟩⟩
    · exact h.elim
  · rename_i h1 h2
    split at h
    · rename_i h3
      obtain ⟨xs, h4, h5⟩ := els h
      obtain ⟨bs, hb, h6⟩ := bytK_sound h4
      exact ⟨_, h6, fun hp' K' h' => by simp only [conE, h1, h2, h3]; exact h5 hp' _ (byt_k bs hb h')⟩
    · rename_i h3
      obtain ⟨xs, h4, h5⟩ := els h
      obtain ⟨bs, hb, h6⟩ := runK_sound h4
      exact ⟨_, h6, fun hp' K' h' => by simp only [conE, h1, h2, h3]; exact h5 hp' _ (run_k bs hb h')⟩
    · exact h.elim
  · exact h.elim
theorem intE_still {op : BinOp} {k : IntKind} {a b : Int} {K : Value → Prop} (h : intE op k a b K) : ∃ v, K v ∧ ∀ K' : Value → Prop, K' v → intE op k a b K' := by
  cases op <;> simp only [intE] at h ⊢ <;> first | exact ⟨_, h, fun K' h' => h'⟩ | exact ⟨_, h.2, fun K' h' => ⟨h.1, h'⟩⟩
theorem fillE_still {places : List (Nat × Nat)} : ∀ (l : List (Nat × AV)) {cells : List AV} {K : List AV → Prop}, fillE places cells l K → ∃ cs, K cs ∧ ∀ K' : List AV → Prop, K' cs → fillE places cells l K'
  | [], cells, K, h => ⟨cells, h, fun K' h' => h'⟩
  | (i, x) :: l, cells, K, h => by
    simp only [fillE] at h ⊢
    split at h
    · rename_i off size cs h1 h2
      obtain ⟨hb, h⟩ := chkS_tt h
      obtain ⟨cs', h3, h4⟩ := fillE_still l h
      exact ⟨cs', h3, fun K' h' => chkS_k (h4 K' h') hb⟩
    · exact h.elim
theorem cutE_still {len : Nat} {lo hi : Option Int} {K : Nat → Nat → Prop} (h : cutE len lo hi K) : ∃ a b, K a b ∧ ∀ K' : Nat → Nat → Prop, K' a b → cutE len lo hi K' := by
  unfold cutE at h ⊢
  split at h
  · exact ⟨_, _, h, fun K' h' => h'⟩
  · exact ⟨_, _, h.2, fun K' h' => ⟨h.1, h'⟩⟩
  · exact ⟨_, _, h.2, fun K' h' => ⟨h.1, h'⟩⟩
  · exact ⟨_, _, h.2, fun K' h' => ⟨h.1, h'⟩⟩
theorem sliceE_pure {t : TypeId} {a : AV} {lo hi mx : Option Int} (ha : (∃ s xs, a = .lst s xs) ∨ ∃ v, a = .v v) {K : AV → Prop} (h : sliceE T t hp a lo hi mx K) : ∃ x, K x ∧ ∀ (hp' : List (Nat × Blk)) (K' : AV → Prop), K' x → sliceE T t hp' a lo hi mx K' := by
  unfold sliceE at h
  split at h
  · split at h
    · rename_i h1
      obtain ⟨p, q, h2, h3⟩ := cutE_still h
      exact ⟨_, h2, fun hp' K' h' => by simp only [sliceE, h1]; exact h3 _ h'⟩
    · exact h.elim
  · split at h
    · rename_i h1
      obtain ⟨p, q, h2, h3⟩ := cutE_still h
      exact ⟨_, h2, fun hp' K' h' => by simp only [sliceE, h1]; exact h3 _ h'⟩
    · exact h.elim
  · split at h
    · rename_i h1
      obtain ⟨hb, h⟩ := chkS_tt h
      obtain ⟨p, q, h2, h3⟩ := cutE_still h
      cases mx with
      | none => exact ⟨_, h2, fun hp' K' h' => by simp only [sliceE, h1]; exact chkS_k (h3 _ h') hb⟩
      | some m => exact ⟨_, h2.2, fun hp' K' h' => by simp only [sliceE, h1]; exact chkS_k (h3 _ ⟨h2.1, h'⟩) hb⟩
    · exact h.elim
  · rcases ha with ⟨_, _, e⟩ | ⟨_, e⟩ <;> cases e
  · exact h.elim
theorem step_pure {op : Op} {R : AV → List (Nat × Blk) → Nat → Prop} (hs' : stillV op = true) (hpu : pureB E sl op = true) (h : stepE E T hs nm op sl hp ct R) :
    ∃ x, R x hp ct ∧ ∀ (sl' : List (Nat × AV)) (hp' : List (Nat × Blk)) (ct' : Nat) (R' : AV → List (Nat × Blk) → Nat → Prop), (∀ t ∈ uses op, get sl' t = get sl t) → R' x hp' ct' → stepE E T hs nm op sl' hp' ct' R' := by
  cases op <;> simp only [pureB, Bool.false_eq_true] at hpu <;> simp only [stepE] at h
  case slice t x lo hi mx =>
    split at h
    · rename_i a l h0 m h1 h2 h3 h4
      have ha : (∃ s xs, a = .lst s xs) ∨ ∃ v, a = .v v := by
        rw [h1] at hpu
        cases a with
        | lst s xs => exact .inl ⟨_, _, rfl⟩
        | v v => exact .inr ⟨_, rfl⟩
        | _ => simp at hpu
      obtain ⟨z, h5, h6⟩ := sliceE_pure ha h
      refine ⟨z, h5, fun sl' hp' ct' R' hu h' => ?_⟩
      rw [← stepE_congr (sl := sl) (sl' := sl') (fun t ht => (hu t ht).symm)]
      simp only [stepE, h1, h2, h3, h4]
      exact h6 hp' _ h'
    · exact h.elim
  case build t parts =>
    split at h
    · rename_i z places l h1 h2
      obtain ⟨cs, h3, h4⟩ := fillE_still l h
      refine ⟨_, h3, fun sl' hp' ct' R' hu h' => ?_⟩
      rw [← stepE_congr (sl := sl) (sl' := sl') (fun t ht => (hu t ht).symm)]
      simp only [stepE, h1, h2]
      exact h4 _ h'
    · exact h.elim
  case call cl =>
    have hce := minC_eq hpu
    unfold callE at h
    split at h
    all_goals first | (rename_i h1 _ _; rw [hce] at h1; cases h1; done) | (rename_i h1 _; rw [hce] at h1; cases h1; done) | (rename_i h1; rw [hce] at h1; cases h1; done) | skip
    · rename_i x y h1 h2
      split at h
      · rename_i k a k' b ha hb
        refine ⟨_, h, fun sl' hp' ct' R' hu h' => ?_⟩
        rw [← stepE_congr (sl := sl) (sl' := sl') (fun t ht => (hu t ht).symm)]
        simp only [stepE, callE, hce, h2, ha, hb]
        exact h'
      · exact h.elim
    · exact h.elim
  case binOp o t x y c =>
    have cx : ∀ sl', (∀ t' ∈ uses (Op.binOp o t x y c), get sl' t' = get sl t') → operE E sl' x = operE E sl x := fun sl' hu => operE_congr (fun t ht => hu t (by simp only [uses]; exact List.mem_append_left _ ht))
    have cy : ∀ sl', (∀ t' ∈ uses (Op.binOp o t x y c), get sl' t' = get sl t') → operE E sl' y = operE E sl y := fun sl' hu => operE_congr (fun t ht => hu t (by simp only [uses]; exact List.mem_append_right _ ht))
    split at hpu
    · rename_i k1 n1 k2 n2 hx0 hy0
      rw [hx0, hy0] at h
      simp only [binE] at h
      obtain ⟨hb, h1⟩ := chkS_tt h
      obtain ⟨v, h3, h4⟩ := intE_still h1
      refine ⟨_, h3, fun sl' hp' ct' R' hu h' => ?_⟩
      simp only [stepE, cx sl' hu, cy sl' hu, hx0, hy0, binE]
      exact chkS_k (h4 _ h') hb
    · cases hpu
  case convert a b x =>
    have hne : Nat.beq a b = false := by simpa [stillV, stillO] using hs'
    split at h
    · rename_i y hy
      have hy' : (∃ s xs, y = .lst s xs) ∨ ∃ v, y = .v v := by
        rw [hy] at hpu
        cases y with
        | lst s xs => exact .inl ⟨_, _, rfl⟩
        | v v => exact .inr ⟨_, rfl⟩
        | _ => simp at hpu
      split at h
      · rename_i e; rw [hne] at e; cases e
      · obtain ⟨z, h1, h2⟩ := conE_pure hy' h
        refine ⟨z, h1, fun sl' hp' ct' R' hu h' => ?_⟩
        simp only [stepE, operE_congr (E := E) (x := x) hu, hy, hne]
        exact h2 hp' _ h'
    · exact h.elim
  case load t p =>
    split at hpu
    · rename_i cs ha
      rw [ha] at h
      simp only [cellsE] at h
      obtain ⟨x, h3, h4⟩ := partE_still h
      refine ⟨x, h3, fun sl' hp' ct' R' hu h' => ?_⟩
      simp only [stepE, operE_congr (E := E) (x := p) hu, ha, cellsE]
      exact h4 _ h'
    · cases hpu
  case indexAddr t x i =>
    have cx : ∀ sl', (∀ t ∈ uses (Op.indexAddr t x i), get sl' t = get sl t) → operE E sl' x = operE E sl x := fun sl' hu => operE_congr (fun t ht => hu t (by simp only [uses]; exact List.mem_append_left _ ht))
    have ci : ∀ sl', (∀ t ∈ uses (Op.indexAddr t x i), get sl' t = get sl t) → operE E sl' i = operE E sl i := fun sl' hu => operE_congr (fun t ht => hu t (by simp only [uses]; exact List.mem_append_right _ ht))
    split at hpu
    · rename_i z0 xs0 hx0
      split at h
      · rename_i z xs k n ha hi
        split at h
        · rename_i e sz q hl
          obtain ⟨hb, h1, h2⟩ := chkS_tt h
          obtain ⟨e', h3, h4⟩ := elK_still h2
          refine ⟨_, h3, fun sl' hp' ct' R' hu h' => ?_⟩
          simp only [stepE, cx sl' hu, ci sl' hu, ha, hi, hl]
          exact chkS_k ⟨h1, h4 _ h'⟩ hb
        · exact h.elim
      · rename_i r v off len k n ha hi; rw [hx0] at ha; cases ha
      · rename_i cs k n ha hi; rw [hx0] at ha; cases ha
      · rename_i r v j o k n ha hi; rw [hx0] at ha; cases ha
      · exact h.elim
    · cases hpu
theorem ins_pure {a : Ins} {d : Nat} {R : List (Nat × AV) → List (Nat × Blk) → Nat → Prop} (hd : a.dst = some d) (hs' : stillV a.op = true) (hpu : pureI E sl a = true) (h : insE E T hs base a sl hp ct R) :
    ∃ x sl1, SlEq sl1 ((d, x) :: sl) ∧ R sl1 hp ct ∧ ∀ (sl' : List (Nat × AV)) (hp' : List (Nat × Blk)), (∀ t ∈ usesI a, get sl' t = get sl t) → Stays E T hs base a d x sl' hp' := by
  obtain ⟨i, d0, op, g⟩ := a
  simp only at hd hs'; subst hd
  cases g with
  | none =>
    simp only [insE] at h
    obtain ⟨x, h1, h2⟩ := step_pure hs' hpu h
    refine ⟨x, _, SlEq.refl _, h1, fun sl' hp' hu ct' R' h' => ?_⟩
    simp only [insE]
    exact h2 sl' hp' ct' _ (fun t ht => hu t (by simp only [usesI]; exact List.mem_append_right _ ht)) (h' _ (SlEq.refl _))
  | some g => simp [pureI] at hpu
variable {l : List Ins} {deps : List (List Nat)} {Q : St → Prop}
def freeG (ld : Bool) (hs : List FuncId) (l : List Ins) (deps : List (List Nat)) (L : List Nat) (i : Nat) (a : Ins) : Prop :=
  ∀ j b, j ≠ i → L.contains j = false → l[j]? = some b → (∀ ds, deps[j]? = some ds → ds.contains i = false) → indep a b = true ∧ (ld = true → mutO hs b.op = false)
theorem any_stillG (ld : Bool) {i d : Nat} {a : Ins} {x : AV} (hi : l[i]? = some a) (hd : a.dst = some d) : ∀ (n : Nat) {L : List Nat} {sl : List (Nat × AV)} {hp : List (Nat × Blk)} {ct : Nat}, freeG ld hs l deps L i a → rdy deps L i = true →
    (∀ (sl' : List (Nat × AV)) (hp' : List (Nat × Blk)), (∀ t ∈ usesI a, get sl' t = get sl t) → (ld = true → Ext hp hp') → Stays E T hs base a d x sl' hp') →
    AnyS E T hs base l deps n (i :: L) ((d, x) :: sl) hp ct Q → AnyS E T hs base l deps (n + 1) L sl hp ct Q
  | n, L, sl, hp, ct, hf, hr, hst, h => by
    refine ⟨⟨i, hr⟩, fun j b hj hb => ?_⟩
    by_cases e : j = i
    · subst e
      rw [hi] at hb; obtain rfl := Option.some.inj hb
      refine hst sl hp (fun _ _ => rfl) (fun _ => Ext.refl _) ct _ (fun sl1 h1 => ?_)
      exact AnyS_congr n (fun _ => rfl) h1.symm h
    · have hjL : L.contains j = false := by unfold rdy at hj; rw [Bool.and_eq_true] at hj; simpa using hj.1
      have hnd : ∀ ds, deps[j]? = some ds → ds.contains i = false := by
        intro ds hds
        unfold rdy at hj hr
        rw [Bool.and_eq_true] at hj hr
        rw [hds] at hj
        cases hc : ds.contains i with
        | false => rfl
        | true =>
          have := List.all_eq_true.1 hj.2 i (by simpa using hc)
          have h2 := hr.1
          rw [this] at h2; simp at h2
      obtain ⟨hin, hmu⟩ := hf j b e hjL hb hnd
      have ⟨p1, p2, p3⟩ : (∀ t ∈ usesI b, t ≠ d) ∧ (b.dst ≠ some d) ∧ (∀ d', b.dst = some d' → d' ∉ usesI a) := by
        simp only [indep, hd, Bool.and_eq_true, Bool.not_eq_true', bne_iff_ne, ne_eq] at hin
        refine ⟨fun t ht e => ?_, hin.1.2, fun d' hd' hm => ?_⟩
        · subst e; have := hin.1.1; simp only [List.contains_eq_mem, decide_eq_false_iff_not] at this; exact this ht
        · have := hin.2; rw [hd'] at this; simp only [Bool.not_eq_true', List.contains_eq_mem, decide_eq_false_iff_not] at this; exact this hm
      cases n with
      | zero =>
        exfalso
        have hlt : j < deps.length := by
          unfold rdy at hj; rw [Bool.and_eq_true] at hj
          cases hg : deps[j]? with
          | none => rw [hg] at hj; simp at hj
          | some ds => exact (List.getElem?_eq_some_iff.1 hg).1
        have := h.1 j hlt
        rw [List.contains_cons, hjL] at this
        simp at this; exact e this
      | succ n =>
        obtain ⟨_, h⟩ := h
        have hj' : rdy deps (i :: L) j = true := by
          unfold rdy at hj ⊢
          rw [Bool.and_eq_true] at hj ⊢
          refine ⟨by rw [List.contains_cons, hjL]; simp [e], ?_⟩
          cases hg : deps[j]? with
          | none => rw [hg] at hj; exact hj.2
          | some ds =>
            rw [hg] at hj
            simp only [List.all_eq_true] at hj ⊢
            intro k hk; rw [List.contains_cons, hj.2 k hk]; simp
        refine insE_move (h j b hj' hb) (fun t ht => by rw [get_cons, if_neg (p1 t ht)]) (fun u hp' ct' hu he h' => ?_)
        have hsw : SlEq (u ++ (d, x) :: sl) ((d, x) :: (u ++ sl)) := get_swap (fun p hp e => by
          rcases hu p hp with h1 | h1
          · rw [e] at h1; exact p2 h1.symm
          · exact p1 p.1 (by simp only [usesI]; exact List.mem_append_left _ h1.1) e)
        have h2 : AnyS E T hs base l deps n (i :: j :: L) ((d, x) :: (u ++ sl)) hp' ct' Q := AnyS_congr n (fun k => by simp only [List.contains_cons]; cases (k == j) <;> cases (k == i) <;> rfl) hsw h'
        refine any_stillG ld hi hd n (fun k c hk hkL hc hcd => hf k c hk (by rw [List.contains_cons] at hkL; simp at hkL; simpa using hkL.2) hc hcd) ?_ ?_ h2
        · unfold rdy at hr ⊢
          rw [Bool.and_eq_true] at hr ⊢
          refine ⟨by rw [List.contains_cons]; have := hr.1; simp at this ⊢; exact ⟨fun e' => e e'.symm, this⟩, ?_⟩
          cases hg : deps[i]? with
          | none => rw [hg] at hr; exact hr.2
          | some ds =>
            rw [hg] at hr
            simp only [List.all_eq_true] at hr ⊢
            intro k hk; rw [List.contains_cons, hr.2 k hk]; simp
        · intro sl2 hp2 hu2 he2
          refine hst sl2 hp2 (fun t ht => ?_) (fun hl => (he (hmu hl)).trans (he2 hl))
          rw [hu2 t ht]
          refine get_pre (fun p hp e' => ?_)
          rcases hu p hp with h1 | h1
          · exact absurd ht (by rw [← e']; exact p3 p.1 h1.symm)
          · have h2 := h1.2
            rw [get_cons, if_neg (p1 p.1 (by simp only [usesI]; exact List.mem_append_left _ h1.1)), e'] at h2
            exact h2
  termination_by n => n
def freeV (pu : Bool) (hs : List FuncId) (l : List Ins) (deps : List (List Nat)) (L : List Nat) (i : Nat) (a : Ins) : Bool :=
  (List.range l.length).all fun j => j == i || L.contains j || (match l[j]? with
    | some b => (match deps[j]? with | some ds => ds.contains i | none => false) || (indep a b && (!(loadsO a.op && !pu) || !mutO hs b.op))
    | none => true)
def planV (hs : List FuncId) (l : List Ins) (deps : List (List Nat)) : List (Nat × Bool) → List Nat → Bool
  | [], L => (List.range deps.length).all fun j => L.contains j
  | (i, pu) :: rest, L => rdy deps L i && (onlyB deps L i || (match l[i]? with | some a => (match pu with | true => stillV a.op | false => stillO a.op) && a.dst.isSome && freeV pu hs l deps L i a | none => false)) && planV hs l deps rest (i :: L)
def pickV (l : List Ins) : List (Nat × Bool) → Option (List (Ins × Bool))
  | [] => some []
  | (i, pu) :: r => match l[i]?, pickV l r with | some a, some q => some ((a, pu) :: q) | _, _ => none
def runV (E : Env) (T : Tab) (hs : List FuncId) (base : Nat) : List (Ins × Bool) → List (Nat × AV) → List (Nat × Blk) → Nat → (St → Prop) → Prop
  | [], sl, hp, ct, Q => onlyK sl E.keep [] fun sl' => Q ⟨sl', hp, ct⟩
  | (i, false) :: rest, sl, hp, ct, Q => insE E T hs base i sl hp ct fun sl' hp' ct' => runV E T hs base rest sl' hp' ct' Q
  | (i, true) :: rest, sl, hp, ct, Q => chkS (pureI E sl i) (insE E T hs base i sl hp ct fun sl' hp' ct' => runV E T hs base rest sl' hp' ct' Q)
def vcons (E : Env) (T : Tab) (hs : List FuncId) (base : Nat) (a : Ins) (r : List (Nat × AV) → List (Nat × Blk) → Nat → (St → Prop) → Prop) : List (Nat × AV) → List (Nat × Blk) → Nat → (St → Prop) → Prop :=
  fun sl hp ct Q => chkS (pureI E sl a) (insE E T hs base a sl hp ct fun sl' hp' ct' => r sl' hp' ct' Q)
theorem runV_nil {E : Env} {T : Tab} {hs : List FuncId} {base : Nat} : runV E T hs base [] = rnil E := rfl
theorem runV_consF {E : Env} {T : Tab} {hs : List FuncId} {base : Nat} {a : Ins} {l : List (Ins × Bool)} : runV E T hs base ((a, false) :: l) = rcons E T hs base a (runV E T hs base l) := rfl
theorem runV_consT {E : Env} {T : Tab} {hs : List FuncId} {base : Nat} {a : Ins} {l : List (Ins × Bool)} : runV E T hs base ((a, true) :: l) = vcons E T hs base a (runV E T hs base l) := rfl
theorem planVS : ∀ (plan : List (Nat × Bool)) {L : List Nat} {pl : List (Ins × Bool)} {sl : List (Nat × AV)} {hp : List (Nat × Blk)} {ct : Nat}, planV hs l deps plan L = true → pickV l plan = some pl →
    runV E T hs base pl sl hp ct Q → AnyS E T hs base l deps plan.length L sl hp ct Q
  | [], L, pl, sl, hp, ct, hp', hl, h => by
    simp only [pickV, Option.some.injEq] at hl; subst hl
    simp only [runV, onlyK_eq] at h
    simp only [planV, List.all_eq_true, List.mem_range] at hp'
    exact ⟨hp', h⟩
  | (i, pu) :: rest, L, pl, sl, hp, ct, hpl, hl, h => by
    simp only [pickV] at hl
    split at hl
    · rename_i a q ha hq
      obtain rfl := Option.some.inj hl
      have hpu : pu = true → pureI E sl a = true := by
        rintro rfl
        simp only [runV] at h
        exact (chkS_tt h).1
      have hI : insE E T hs base a sl hp ct fun sl' hp' ct' => runV E T hs base q sl' hp' ct' Q := by
        cases pu with
        | false => exact h
        | true => simp only [runV] at h; exact (chkS_tt h).2
      simp only [planV, Bool.and_eq_true, Bool.or_eq_true] at hpl
      obtain ⟨⟨hr, hc⟩, hrest⟩ := hpl
      rcases hc with hc | hc
      · refine ⟨⟨i, hr⟩, fun j b hj hb => ?_⟩
        have : j = i := by
          have := List.all_eq_true.1 hc j (by rw [List.mem_range]; exact rdy_lt hj)
          rw [hj] at this; simpa using this
        subst this
        rw [ha] at hb; obtain rfl := Option.some.inj hb
        exact insE_move hI (fun _ _ => rfl) (fun u hp' ct' _ _ h' => planVS rest hrest hq h')
      · rw [ha] at hc
        simp only [Bool.and_eq_true] at hc
        obtain ⟨⟨hs', hd⟩, hf⟩ := hc
        obtain ⟨d, hd⟩ := Option.isSome_iff_exists.1 hd
        have hF : freeG (loadsO a.op && !pu) hs l deps L i a := by
          refine fun j b hj hjL hb hcd => ?_
          have := List.all_eq_true.1 hf j (by rw [List.mem_range]; exact (List.getElem?_eq_some_iff.1 hb).1)
          rw [hb, hjL] at this
          simp only [Bool.or_eq_true, beq_iff_eq, hj, Bool.false_eq_true, false_or, or_false, Bool.and_eq_true, Bool.not_eq_true'] at this
          rcases this with this | this
          · split at this
            · rename_i ds hds; rw [hcd ds hds] at this; cases this
            · cases this
          · refine ⟨this.1, fun hl => ?_⟩
            rcases this.2 with h3 | h3
            · rw [hl] at h3; cases h3
            · exact h3
        cases pu with
        | false =>
          obtain ⟨x, sl1, e1, h1, hst⟩ := ins_still hd hs' hI
          have h2 := AnyS_congr rest.length (fun _ => rfl) e1 (planVS rest hrest hq h1)
          exact any_stillG (loadsO a.op && !false) ha hd rest.length hF hr (fun sl' hp' hu he => hst sl' hp' hu (fun hl => he (by rw [hl]; rfl))) h2
        | true =>
          obtain ⟨x, sl1, e1, h1, hst⟩ := ins_pure hd hs' (hpu rfl) hI
          have h2 := AnyS_congr rest.length (fun _ => rfl) e1 (planVS rest hrest hq h1)
          exact any_stillG (loadsO a.op && !true) ha hd rest.length hF hr (fun sl' hp' hu he => hst sl' hp' hu) h2
    · cases hl
theorem k_drawV {nt : Nat} (hT : TabOK E.P T) (hm : E.P.follows .mixedOrders = true) (plan : List (Nat × Bool)) {K : Exit → St → Prop} {sl : List (Nat × AV)} {hp : List (Nat × Blk)} {ct : Nat} {id : Nat} {pl : List (Ins × Bool)}
    (hplan : planV hs l deps plan [] = true) (hlen : plan.length = deps.length) (hpick : pickV l plan = some pl) (h : ∀ Q : St → Prop, (∀ s, K .normal s → Q s) → runV E T hs (E.N + id * 512) pl sl hp ct Q) :
    Wp E nt (.draw id l deps) K ⟨sl, hp, ct⟩ := by
  intro c' e hok M0 w0 M J tm w inv hnt
  obtain ⟨ops, rfl, hl, hdep⟩ := comp_draw e
  simp only [codeOK] at hok
  refine wp_region_any hm ?_
  have h1 := planVS plan hplan hpick (h (K .normal) (fun _ h => h))
  have hn : plan.length = ops.size := by rw [hlen, hdep]; simp
  rw [hn] at h1
  exact AnyS_wp hT hl hdep (fun _ h => h) ops.size (by rw [hnt]; exact hok) hnt h1 (Inv.drew inv) (by simp) (fun i hi => by simp [hi]) (fun i hi => by simp at hi)
end
end Ev
end Go.Proofs.YtadlnaljicikfaaDoor.Abs

namespace Go.Proofs.YtadlnaljicikfaaDoor.Abs
open Go
set_option linter.unusedVariables false
theorem LeR.agg {cs cs' : List AV} (hn : cs.length = cs'.length) (h : ∀ (i : Nat) (c c' : AV), cs[i]? = some c → cs'[i]? = some c' → LeR c c') : LeR (.agg cs) (.agg cs') := by
  intro M J v hr
  have get : ∀ (i : Nat) (c' : AV), cs'[i]? = some c' → ∃ c, cs[i]? = some c := fun i c' hc' => by
    have := (List.getElem?_eq_some_iff.1 hc').1
    exact ⟨cs[i]'(by omega), List.getElem?_eq_getElem (by omega)⟩
  cases hr with
  | pure hp =>
    cases hp with
    | agg h1 h0 h2 =>
      refine .agg (by omega) h0 (fun i c v hc hv => ?_)
      obtain ⟨c0, hc0⟩ := get i c hc
      exact h i c0 c hc0 hc M J v (.pure (h2 i c0 v hc0 hv))
  | agg h1 h0 h2 =>
    refine .agg (by omega) h0 (fun i c v hc hv => ?_)
    obtain ⟨c0, hc0⟩ := get i c hc
    exact h i c0 c hc0 hc M J v (h2 i c0 v hc0 hv)
theorem LeR.agg3 {a a' b b' d d' : AV} (h : LeR a a') (h' : LeR b b') (h'' : LeR d d') : LeR (.agg [a, b, d]) (.agg [a', b', d']) :=
  LeR.agg rfl (fun i c c' hc hc' => by
    rcases i with _ | _ | _ | i
    · simp at hc hc'; subst hc; subst hc'; exact h
    · simp at hc hc'; subst hc; subst hc'; exact h'
    · simp at hc hc'; subst hc; subst hc'; exact h''
    · simp at hc)
theorem Le.agg {cs cs' : List AV} (hn : cs.length = cs'.length) (h : ∀ (i : Nat) (c c' : AV), cs[i]? = some c → cs'[i]? = some c' → Le c c') : Le (.agg cs) (.agg cs') := by
  intro M v hr
  have get : ∀ (i : Nat) (c' : AV), cs'[i]? = some c' → ∃ c, cs[i]? = some c := fun i c' hc' => by
    have := (List.getElem?_eq_some_iff.1 hc').1
    exact ⟨cs[i]'(by omega), List.getElem?_eq_getElem (by omega)⟩
  cases hr with
  | agg h1 h0 h2 =>
    refine .agg (by omega) h0 (fun i c v hc hv => ?_)
    obtain ⟨c0, hc0⟩ := get i c hc
    exact h i c0 c hc0 hc M v (h2 i c0 v hc0 hv)
theorem Le.agg3 {a a' b b' d d' : AV} (h : Le a a') (h' : Le b b') (h'' : Le d d') : Le (.agg [a, b, d]) (.agg [a', b', d']) :=
  Le.agg rfl (fun i c c' hc hc' => by
    rcases i with _ | _ | _ | i
    · simp at hc hc'; subst hc; subst hc'; exact h
    · simp at hc hc'; subst hc; subst hc'; exact h'
    · simp at hc hc'; subst hc; subst hc'; exact h''
    · simp at hc)
theorem CallW.arg1 {E : Env} {f : FuncId} {a a' : AV} {R : AV → List Blk → Prop} (h : CallW E f [a'] R) (hl : Le a a') : CallW E f [a] R :=
  h.args rfl (fun i x x' hx hx' => by
    rcases i with _ | i
    · simp at hx hx'; subst hx; subst hx'; exact hl
    · simp at hx)
theorem CallW.arg2 {E : Env} {f : FuncId} {a a' b b' : AV} {R : AV → List Blk → Prop} (h : CallW E f [a', b'] R) (hl : Le a a') (hl' : Le b b') : CallW E f [a, b] R :=
  h.args rfl (fun i x x' hx hx' => by
    rcases i with _ | _ | i
    · simp at hx hx'; subst hx; subst hx'; exact hl
    · simp at hx hx'; subst hx; subst hx'; exact hl'
    · simp at hx)
end Go.Proofs.YtadlnaljicikfaaDoor.Abs

namespace Go.Proofs.YtadlnaljicikfaaDoor.Abs
open Go Go.RowKit
set_option linter.unusedSimpArgs false
set_option linter.unusedVariables false
namespace Ev
inductive Pl where
  | fin
  | one (i : Nat) (pu : Bool) (k : Pl)
  | two (i : Nat) (k : Pl) (j : Nat) (m : Pl)
def Pl.depth : Pl → Nat
  | .fin => 0
  | .one _ _ k => k.depth + 1
  | .two _ k _ _ => k.depth + 1
section
variable {E : Env} {T : Tab} {hs : List FuncId} {base : Nat} {l : List Ins} {deps : List (List Nat)} {Q : St → Prop}
end
end Ev
end Go.Proofs.YtadlnaljicikfaaDoor.Abs

namespace Go.Proofs.YtadlnaljicikfaaDoor.Abs
open Go Go.Lib Go.RowKit
set_option linter.unusedVariables false
end Go.Proofs.YtadlnaljicikfaaDoor.Abs

namespace Go.Proofs.YtadlnaljicikfaaDoor.Abs
open Go Go.RowKit
set_option linter.unusedSimpArgs false
set_option linter.unusedVariables false
namespace Ev
def Closed (deps : List (List Nat)) (L : List Nat) : Prop := ∀ m c x, L.contains m = true → deps[m]? = some c → c.contains x = true → L.contains x = true
theorem Closed.nil (deps : List (List Nat)) : Closed deps [] := fun m c x h => by simp at h
theorem Closed.cons {deps : List (List Nat)} {L : List Nat} (h : Closed deps L) {i : Nat} (hr : rdy deps L i = true) : Closed deps (i :: L) := by
  intro m c x hm hc hx
  rw [List.contains_cons, Bool.or_eq_true] at hm ⊢
  rcases hm with hm | hm
  · have : m = i := by simpa using hm
    subst this
    unfold rdy at hr
    rw [hc, Bool.and_eq_true] at hr
    exact .inr (List.all_eq_true.1 hr.2 x (by simpa using hx))
  · exact .inr (h m c x hm hc hx)
section
variable {E : Env} {T : Tab} {hs : List FuncId} {sl sl' : List (Nat × AV)} {hp hp' : List (Nat × Blk)} {ct nm base : Nat}
end
inductive Tr where
  | fin
  | stop
  | one (i : Nat) (pu : Bool) (k : Tr)
  | any (r : Tr)
  | alt (i : Nat) (k : Tr) (r : Tr)
def Tr.depth : Tr → Nat
  | .fin => 0
  | .stop => 0
  | .one _ _ k => k.depth + 1
  | .any r => r.depth
  | .alt _ k _ => k.depth + 1
def Tr.same (n : Nat) : Tr → Bool
  | .alt _ k r => k.depth + 1 == n && r.same n
  | _ => true
section
variable {E : Env} {T : Tab} {hs : List FuncId} {base nt : Nat} {l : List Ins} {deps : List (List Nat)} {Q : St → Prop}
section
variable {M0 : Bas} {w0 : World} {M : Mem} {J : Locs} {tm : Array Value} {w : World} {ops : Array Oper}
end
end
end Ev
end Go.Proofs.YtadlnaljicikfaaDoor.Abs

namespace Go.Proofs.YtadlnaljicikfaaDoor.Abs
open Go Go.Lib Go.RowKit
set_option linter.unusedVariables false
namespace Ev
theorem Gh_freeze {E : Env} {sl : List (Nat × AV)} {hp hp' : List (Nat × Blk)} {ct t : Nat} {x y : AV} (hg : get sl t = some x)
    (h : ∀ K : AV → List (Nat × Blk) → Prop, K y hp' → purK hp deep x fun y m => frzK hp m fun hp' => K y hp') : Gh E ⟨sl, hp, ct⟩ ⟨(t, y) :: sl, hp', ct⟩ := by
  intro M0 w0 M J tm w inv
  obtain ⟨v, hv, hr⟩ := inv.slot t x hg
  have hpu := pur1_sound (sl := sl) (ct := ct) (h (fun a b => a = y ∧ b = hp') ⟨rfl, rfl⟩) (K' := fun a s => a = y ∧ s = (⟨sl, hp', ct⟩ : St)) (fun a b ⟨e1, e2⟩ => ⟨e1, by rw [e2]⟩)
  obtain ⟨y', s', M', ⟨e1, e2⟩, hsub, i1, pr, hc⟩ := inv.pure hr hpu
  subst e1; subst e2
  refine ⟨M', J, ⟨i1.below, i1.mem, i1.newM, i1.oldM, i1.glob, ?_, i1.heap, i1.apart, i1.owns, i1.vers, i1.oldJ, i1.far⟩⟩
  intro t' x' hx'
  rw [get_cons] at hx'
  split at hx'
  · rename_i e
    subst e
    obtain rfl := Option.some.inj hx'
    exact ⟨v, hv, .pure pr⟩
  · exact i1.slot t' x' hx'
theorem freeze_at {E : Env} {nt : Nat} (id t : Nat) {l : List Ins} {K : Exit → St → Prop} {sl : List (Nat × AV)} {hp : List (Nat × Blk)} {ct : Nat} {r v off len sz ty frz : Nat} {es : List (List AV)}
    (hg : get sl t = some (.own r v off len)) (hk : get hp r = some ⟨sz, ty, v, frz, false, es⟩) (hl : Side (off + len ≤ es.length))
    (h : Wp E nt (.reg id l) K ⟨(t, .lst sz ((es.drop off).take len)) :: sl, (r, ⟨sz, ty, v, max frz (min (off + len) es.length), false, es⟩) :: hp, ct⟩) : Wp E nt (.reg id l) K ⟨sl, hp, ct⟩ := by
  refine WPk.ghost (Gh_freeze hg (fun K hK => ?_)) h
  have q1 : (Nat.beq v v && !false) = true := by simp
  simp only [purK, deep, hk, bwith]
  refine chk_k (sided ?_ hl) q1
  simp only [frzK, hk, bwith]
  exact hK
end Ev
end Go.Proofs.YtadlnaljicikfaaDoor.Abs
