/- A calculus over values: what is reckoned holds. -/
import Derived.Test.YtdgpilapblipbaaDoorAbsEv
namespace Go.Proofs.YtdgpilapblipbaaDoor.Abs
open Go
set_option linter.unusedSimpArgs false
set_option linter.unusedVariables false
namespace Ev
theorem brK_tt {b : Bool} {A : Prop} (h : chk b A) : b = true ∧ A := ⟨h.1, h.2⟩
theorem chkS_tt {b : Bool} {A : Prop} (h : chkS b A) : b = true ∧ A := by cases b; exact h.elim; exact ⟨rfl, h⟩
theorem ofE_eq (v : Value) : ofV v = ofE v := by cases v <;> rfl
section
variable {E : Env} {T : Tab} {sl : List (Nat × AV)} {hp : List (Nat × Blk)} {ct nm : Nat}
theorem operE_eq (hp : List (Nat × Blk)) (ct : Nat) (x : Operand) : operE E sl x = oper E ⟨sl, hp, ct⟩ x := by
  cases x with
  | tmp t => rfl
  | const v => cases v <;> rfl
  | global g => rfl
  | func f => rfl
theorem argsE_eq (hp : List (Nat × Blk)) (ct : Nat) : ∀ l, argsE E sl l = operA E ⟨sl, hp, ct⟩ l
  | [] => rfl
  | x :: l => by
    simp only [argsE, operA, operE_eq hp ct, argsE_eq hp ct l]
    cases oper E ⟨sl, hp, ct⟩ x <;> cases operA E ⟨sl, hp, ct⟩ l <;> rfl
theorem partsE_eq (hp : List (Nat × Blk)) (ct : Nat) : ∀ l, partsE E sl l = operL E ⟨sl, hp, ct⟩ l
  | [] => rfl
  | (i, x) :: l => by
    simp only [partsE, operL, operE_eq hp ct, partsE_eq hp ct l]
    cases oper E ⟨sl, hp, ct⟩ x <;> cases operL E ⟨sl, hp, ct⟩ l <;> rfl

theorem purL_sound {s : St} {n : Nat} {f : AV → (AV → List (Nat × Nat) → Prop) → Prop} (hf : ∀ x K, f x K → ∃ y, pure1 s n x = some y ∧ K y (reads n x)) :
    ∀ (l : List AV) (K : List AV → List (Nat × Nat) → Prop), purL f l K → ∃ ys, l.mapM (pure1 s n) = some ys ∧ K ys (l.flatMap (reads n))
  | [], K, h => ⟨[], by simp, h⟩
  | c :: l, K, h => by
    simp only [purL] at h
    obtain ⟨y, hy, h⟩ := hf c _ h
    obtain ⟨ys, hys, h⟩ := purL_sound hf l _ h
    exact ⟨y :: ys, by simp [List.mapM_cons, hy, hys], by simpa using h⟩
theorem purK_sound {s : St} : ∀ (n : Nat) (x : AV) (K : AV → List (Nat × Nat) → Prop), purK s.hp n x K → ∃ y, pure1 s n x = some y ∧ K y (reads n x)
  | 0, x, K, h => by simp only [purK] at h
  | n + 1, x, K, h => by
    cases x with
    | v x => exact ⟨_, rfl, h⟩
    | lst sz xs => exact ⟨_, rfl, h⟩
    | rptr cs => exact ⟨_, rfl, h⟩
    | ptr r v i o => exact h.elim
    | agg cs =>
      simp only [purK] at h
      obtain ⟨ys, a, b⟩ := purL_sound (purK_sound n) cs _ h
      exact ⟨_, by simp [pure1, a], b⟩
    | tup cs =>
      simp only [purK] at h
      obtain ⟨ys, a, b⟩ := purL_sound (purK_sound n) cs _ h
      exact ⟨_, by simp [pure1, a], b⟩
    | clo f p q =>
      simp only [purK] at h
      obtain ⟨ys, a, h⟩ := purL_sound (purK_sound n) p _ h
      obtain ⟨zs, b, h⟩ := purL_sound (purK_sound n) q _ h
      exact ⟨_, by simp [pure1, a, b], h⟩
    | own r ver off len =>
      simp only [purK] at h
      split at h
      · rename_i k hk
        obtain ⟨hb, h⟩ := brK_tt h
        obtain ⟨h1, h2⟩ := h
        rw [Bool.and_eq_true, Nat.beq_eq] at hb
        refine ⟨_, ?_, h2⟩
        simp only [pure1, hk]
        rw [if_pos ⟨hb.1, h1, by simpa using hb.2⟩]
      · exact h.elim
theorem frzK_eq : ∀ (m : List (Nat × Nat)) (sl : List (Nat × AV)) (hp : List (Nat × Blk)) (ct : Nat) (R : List (Nat × Blk) → Prop), frzK hp m R → R (St.freeze ⟨sl, hp, ct⟩ m).hp ∧ (St.freeze ⟨sl, hp, ct⟩ m).sl = sl ∧ (St.freeze ⟨sl, hp, ct⟩ m).ctr = ct
  | [], sl, hp, ct, R, h => ⟨h, rfl, rfl⟩
  | (r, n) :: m, sl, hp, ct, R, h => by
    simp only [frzK] at h
    simp only [St.freeze]
    cases hg : get hp r with
    | none => rw [hg] at h; exact frzK_eq m sl hp ct R h
    | some k => rw [hg] at h; exact frzK_eq m sl _ ct R h
theorem pur1_sound {x : AV} {K : AV → List (Nat × Blk) → Prop} (h : purK hp deep x fun y m => frzK hp m fun hp' => K y hp') {K' : AV → St → Prop} (hk : ∀ y hp', K y hp' → K' y ⟨sl, hp', ct⟩) : St.pure ⟨sl, hp, ct⟩ x K' := by
  obtain ⟨y, hy, h⟩ := purK_sound (s := ⟨sl, hp, ct⟩) deep x _ h
  obtain ⟨a, b, c⟩ := frzK_eq _ sl hp ct _ h
  unfold St.pure
  rw [hy]
  show K' y (St.freeze ⟨sl, hp, ct⟩ (reads deep x))
  have := hk _ _ a
  have e : St.freeze ⟨sl, hp, ct⟩ (reads deep x) = ⟨sl, (St.freeze ⟨sl, hp, ct⟩ (reads deep x)).hp, ct⟩ := by
    revert b c; generalize St.freeze ⟨sl, hp, ct⟩ (reads deep x) = s1; rintro b c; subst b; subst c; rfl
  rw [e]; exact this
theorem pursK_sound : ∀ (l : List AV) {hp : List (Nat × Blk)} {K : List AV → List (Nat × Blk) → Prop}, pursK sl hp l K → ∀ {K' : List AV → St → Prop}, (∀ ys hp', K ys hp' → K' ys ⟨sl, hp', ct⟩) → St.pures ⟨sl, hp, ct⟩ l K'
  | [], hp, K, h, K', hk => hk _ _ h
  | x :: l, hp, K, h, K', hk => by
    simp only [pursK] at h
    simp only [St.pures]
    exact pur1_sound (K := fun y hp' => pursK sl hp' l fun l' hp'' => K (y :: l') hp'') h (fun y hp' h' => pursK_sound l h' (fun ys hp'' h'' => hk _ _ h''))

theorem kind_str {P : Program} {t : TypeId} (h : kindOf P t = some .str) : P.underlying t = some .string := by
  unfold kindOf at h; split at h <;> simp_all
theorem kind_int {P : Program} {t : TypeId} {k : IntKind} (h : kindOf P t = some (.int k)) : P.underlying t = some (.int k) := by
  unfold kindOf at h; split at h <;> simp_all
theorem kind_bool {P : Program} {t : TypeId} (h : kindOf P t = some .bool) : P.underlying t = some .bool := by
  unfold kindOf at h; split at h <;> simp_all
theorem kind_ptr {P : Program} {t : TypeId} (h : kindOf P t = some .ptr) : ∃ e, P.underlying t = some (.pointer e) := by
  unfold kindOf at h; split at h <;> simp_all
theorem kind_sl {P : Program} {t e : TypeId} (h : kindOf P t = some (.sl e)) : P.underlying t = some (.slice e) := by
  unfold kindOf at h; split at h <;> simp_all
theorem kind_some {P : Program} {t : TypeId} {k : TK} (h : kindOf P t = some k) : ∃ d, P.underlying t = some d := by
  unfold kindOf at h; split at h <;> first | exact ⟨_, by assumption⟩ | simp_all

variable (hT : TabOK E.P T)
include hT
theorem partE_sound {t : TypeId} {cs : List AV} {K : AV → Prop} (h : partE T t cs K) : ∃ x, partOf E.P t cs = some x ∧ K x := by
  unfold partE at h
  split at h
  · rename_i n hn
    refine ⟨_, ?_, h.2⟩
    unfold partOf; rw [hT.tz _ _ hn]; simp only; rw [if_pos h.1]
  · rename_i n hn
    split at h
    · rename_i c l
      exact ⟨c, by unfold partOf; rw [hT.tz _ _ hn]; rfl, h⟩
    · exact h.elim
  · exact h.elim

omit hT in
theorem intE_sound {op : BinOp} {k : IntKind} {a b : Int} {K K' : Value → Prop} (h : intE op k a b K) (hk : ∀ v, K v → K' v) : intw op k a b K' := by
  cases op <;> simp only [intE, intw] at h ⊢ <;> first | exact hk _ h | exact ⟨h.1, hk _ h.2⟩ | (have := hk _ h; simpa using this)

theorem binE_sound {op : BinOp} {t : TypeId} {x y : AV} {K K' : Value → Prop} (h : binE T op t x y K) (hk' : ∀ v, K v → K' v) : binw E.P op t x y K' := by
  unfold binE at h
  split at h
  · rename_i k a k' b
    obtain ⟨hb, h⟩ := chkS_tt h
    refine ⟨?_, intE_sound h hk'⟩
    rw [Bool.or_eq_true] at hb
    rcases hb with hb | hb
    · unfold isShift at hb; split at hb <;> simp_all
    · exact .inl (by simpa [kindEq] using hb)
  · rename_i a b
    unfold binw strw
    split at h
    · exact ⟨h.1, hk' _ h.2⟩
    · exact hk' _ h
    · have := hk' _ h; simpa using this
    · exact h.elim
  · rename_i a b
    unfold binw
    split at h
    · rename_i hk; rw [kind_bool (hT.knd _ _ hk)]; exact hk' _ h
    · rename_i hk; rw [kind_bool (hT.knd _ _ hk)]; exact hk' _ h
    · exact h.elim
  · unfold binw
    split at h
    · rename_i hk; exact ⟨hT.eq _ hk, hk' _ h⟩
    · rename_i hk; exact ⟨hT.eq _ hk, hk' _ h⟩
    · exact h.elim
  · unfold binw
    split at h
    · rename_i hk; obtain ⟨e, he⟩ := kind_ptr (hT.knd _ _ hk); rw [he]; exact hk' _ h
    · rename_i hk; obtain ⟨e, he⟩ := kind_ptr (hT.knd _ _ hk); rw [he]; exact hk' _ h
    · exact h.elim
  · split at h
    · rename_i hk hp; obtain ⟨e, he⟩ := kind_ptr (hT.knd _ _ hk)
      cases x <;> first | (simp [isPtr] at hp; done) | (simp only [binw, he]; exact ⟨rfl, hk' _ h⟩)
    · rename_i hk hp; obtain ⟨e, he⟩ := kind_ptr (hT.knd _ _ hk)
      cases x <;> first | (simp [isPtr] at hp; done) | (simp only [binw, he]; exact ⟨rfl, hk' _ h⟩)
    · exact h.elim
  · exact h.elim

omit hT in
theorem elsK_sound {x : AV} {K : List (List AV) → Prop} (h : elsK hp x K) : ∃ xs, elems ⟨sl, hp, ct⟩ x = some xs ∧ K xs := by
  unfold elsK at h
  split at h
  · exact ⟨_, rfl, h⟩
  · exact ⟨_, rfl, h⟩
  · rename_i r ver off len
    split at h
    · rename_i k hk
      obtain ⟨hb, h1, h2⟩ := brK_tt h
      rw [Bool.and_eq_true, Nat.beq_eq] at hb
      refine ⟨_, ?_, h2⟩
      simp only [elems, hk]
      rw [if_pos ⟨hb.1, h1, by simpa using hb.2⟩]
    · exact h.elim
  · exact h.elim

theorem conE_sound {src dst : TypeId} {x : AV} {K K' : AV → Prop} (h : conE T src dst hp x K) (hk' : ∀ v, K v → K' v) : convw E.P src dst ⟨sl, hp, ct⟩ x K' := by
  unfold conE at h
  split at h
  · rename_i k0 k' k n h1 h2
    obtain ⟨d, hd⟩ := kind_some (hT.knd _ _ h1)
    unfold convw; rw [hd, kind_int (hT.knd _ _ h2)]; exact hk' _ h
  · rename_i b h1 h2
    unfold convw; rw [kind_str (hT.knd _ _ h1), kind_str (hT.knd _ _ h2)]; exact hk' _ h
  · rename_i e b h1 h2
    split at h
    · rename_i h3
      unfold convw; rw [kind_str (hT.knd _ _ h1), kind_sl (hT.knd _ _ h2)]; exact ⟨kind_int (hT.knd _ _ h3), hk' _ h⟩
    · exact h.elim
  · rename_i e x h1 h2
    split at h
    · rename_i h3
      obtain ⟨xs, hx, h⟩ := elsK_sound (sl := sl) (ct := ct) h
      split at h
      · rename_i bs hbs
        unfold convw; rw [kind_sl (hT.knd _ _ h1), kind_str (hT.knd _ _ h2)]
        exact ⟨kind_int (hT.knd _ _ h3), xs, bs, hx, hbs, hk' _ h⟩
      · exact h.elim
    · exact h.elim
  · exact h.elim

omit hT in
theorem fillE_sound {places : List (Nat × Nat)} : ∀ (l : List (Nat × AV)) {cells : List AV} {K : List AV → Prop}, fillE places cells l K → ∃ cs, fillAV (places[·]?) cells l = some cs ∧ K cs
  | [], cells, K, h => ⟨cells, rfl, h⟩
  | (i, x) :: l, cells, K, h => by
    simp only [fillE] at h
    split at h
    · rename_i off size cs h1 h2
      obtain ⟨hb, h⟩ := chkS_tt h
      rw [Bool.and_eq_true, Nat.beq_eq, Nat.ble_eq] at hb
      obtain ⟨r, hr, hk⟩ := fillE_sound l h
      refine ⟨r, ?_, hk⟩
      simp only [fillAV, h1, h2]
      rw [if_pos hb]; exact hr
    · exact h.elim
omit hT in
theorem rangeB_sound : ∀ (l : List (Nat × AV)) (j : Nat), rangeB j l = true → l.map Prod.fst = (List.range l.length).map (· + j)
  | [], j, _ => rfl
  | (i, x) :: l, j, h => by
    simp only [rangeB, Bool.and_eq_true, Nat.beq_eq] at h
    rw [List.map_cons, rangeB_sound l (j + 1) h.2, List.length_cons, List.range_succ_eq_map, List.map_cons, List.map_map]
    simp only [h.1, Nat.zero_add, List.cons.injEq, true_and]
    apply List.map_congr_left
    intro a _
    simp only [Function.comp_apply]; omega
omit hT in
theorem litE_eq (n : Nat) : ∀ l, litE n l = litAV n l
  | [] => rfl
  | x :: l => by
    simp only [litE, litAV, litE_eq n l]
    cases cellsOf x with
    | none => rfl
    | some cs =>
      simp only
      cases hb : Nat.beq cs.length n with
      | true => cases litAV n l <;> simp [Nat.eq_of_beq_eq_true hb]
      | false => cases litAV n l <;> simp [Nat.ne_of_beq_eq_false hb]
omit hT in
theorem bndE_eq (x : Option Operand) : bndE E sl x = bnd E ⟨sl, hp, ct⟩ x := by
  cases x with
  | none => rfl
  | some x => simp only [bndE, bnd, operE_eq hp ct]; rfl
omit hT in
theorem cutE_sound {len : Nat} {lo hi : Option Int} {K : Nat → Nat → Prop} (h : cutE len lo hi K) {K' : Nat → Nat → Prop} (hk : ∀ a b, K a b → K' a b) : cutw len lo hi K' := by
  unfold cutE at h
  split at h
  · exact hk _ _ h
  · exact ⟨h.1.1, h.1.2, hk _ _ h.2⟩
  · exact ⟨h.1.1, h.1.2, hk _ _ h.2⟩
  · exact ⟨h.1.1, h.1.2.1, h.1.2.2, hk _ _ h.2⟩
theorem sliceE_sound {t : TypeId} {x : AV} {lo hi mx : Option Int} {K : AV → Prop} (h : sliceE T t hp x lo hi mx K) {K' : AV → St → Prop} (hk : ∀ a, K a → K' a ⟨sl, hp, ct⟩) : slicew E t ⟨sl, hp, ct⟩ x lo hi mx K' := by
  unfold sliceE at h
  split at h
  · split at h
    · rename_i h1
      exact ⟨kind_str (hT.knd _ _ h1), rfl, cutE_sound h (fun _ _ => hk _)⟩
    · exact h.elim
  · split at h
    · rename_i q h1
      obtain ⟨e, n, b, cs⟩ := q
      obtain ⟨z, hz, _⟩ := hT.sl _ _ _ _ _ h1
      exact ⟨by rw [hz]; rfl, rfl, cutE_sound h (fun _ _ => hk _)⟩
    · exact h.elim
  · rename_i sz xs
    split at h
    · rename_i e sz' q h1
      obtain ⟨b, cs⟩ := q
      obtain ⟨z, hz, _⟩ := hT.sl _ _ _ _ _ h1
      obtain ⟨hb, h⟩ := chkS_tt h
      unfold slicew; simp only [hz]
      refine ⟨Nat.eq_of_beq_eq_true hb, cutE_sound h (fun a b h' => ?_)⟩
      split at h'
      · exact ⟨trivial, hk _ h'⟩
      · exact ⟨h'.1, hk _ h'.2⟩
    · exact h.elim
  · rename_i r ver off len
    split at h
    · rename_i e sz' q k h1 h2
      obtain ⟨b, cs⟩ := q
      obtain ⟨z, hz, _⟩ := hT.sl _ _ _ _ _ h1
      obtain ⟨hb, h⟩ := brK_tt h
      rw [Bool.and_eq_true, Nat.beq_eq, Nat.beq_eq] at hb
      unfold slicew; simp only [hz, h2]
      exact ⟨hb.1, hb.2, by simp, cutE_sound h (fun _ _ => hk _)⟩
    · exact h.elim
  · exact h.elim
theorem appE_sound {t : TypeId} {x : AV} {ys : List (List AV)} {K : AV → List (Nat × Blk) → Nat → Prop} (h : appE T nm t hp ct x ys K) {K' : AV → St → Prop} (hk : ∀ a hp' ct', K a hp' ct' → K' a ⟨sl, hp', ct'⟩) :
    appw E nm ct t ⟨sl, hp, ct⟩ x ys K' := by
  unfold appE at h
  split at h
  · rename_i e n by' cs h1
    obtain ⟨z, hz, _, hzn, hn, _⟩ := hT.sl _ _ _ _ _ h1
    unfold appw; simp only [hz]
    split at h
    · split at h
      · rename_i hg
        obtain ⟨⟨a, b, c⟩, h⟩ := h
        exact ⟨hn, hzn, a, b, c, hg, hk _ _ _ h⟩
      · exact h.elim
    · rename_i r v off len
      split at h
      · rename_i k hg
        obtain ⟨hb, ⟨a1, a2, a3, a4, a5⟩, h⟩ := brK_tt h
        simp only [Bool.and_eq_true, Nat.beq_eq, Bool.not_eq_true'] at hb
        obtain ⟨⟨⟨b1, b2⟩, b3⟩, b4⟩ := hb
        refine ⟨hn, hzn, a3, ?_⟩
        simp only [hg]
        exact ⟨b1, b2, b3, b4, a1, a2, a4, a5, hk _ _ _ h⟩
      · exact h.elim
    · exact h.elim
  · exact h.elim

omit hT in
theorem adds_sl (nm ct : Nat) : ∀ (hs : List Blk) (j : Nat) (s : St), (St.adds nm ct j hs s).sl = s.sl ∧ ∀ sl' ct', (St.adds nm ct j hs ⟨sl', s.hp, ct'⟩).hp = (St.adds nm ct j hs s).hp
  | [], j, s => ⟨rfl, fun _ _ => rfl⟩
  | k :: hs, j, s => by
    simp only [St.adds]
    obtain ⟨a, b⟩ := adds_sl nm ct hs (j + 1) { s with hp := s.hp ++ [(nm + j, k.shift nm ct j)] }
    exact ⟨a, fun sl' ct' => b sl' ct'⟩

theorem callE_sound {hs : List FuncId} {cl : Call} {K : AV → List (Nat × Blk) → Nat → Prop} (h : callE E T hs nm cl sl hp ct K) {K' : AV → St → Prop} (hk : ∀ a hp' ct', K a hp' ct' → K' a ⟨sl, hp', ct'⟩) :
    callw E nm ct cl ⟨sl, hp, ct⟩ K' := by
  unfold callE at h
  simp only [operE_eq hp ct, argsE_eq hp ct] at h
  unfold callw
  split at h
  · rename_i x t h1 h2 h3
    rw [h1, h2, h3]
    simp only
    split at h
    · rename_i b hb
      split at h
      · rename_i hk'
        rw [hb]; exact ⟨kind_str (hT.knd _ _ hk'), hk _ _ _ h⟩
      · exact h.elim
    · rename_i a hne ha
      split at h
      · rename_i n q hn hq
        rw [ha]; simp only [hn]
        obtain ⟨e, m, b, cs⟩ := q
        obtain ⟨z, hz, _⟩ := hT.sl _ _ _ _ _ hq
        refine ⟨?_, hk _ _ _ h⟩
        unfold lenT; split
        · rename_i b; exact (hne b rfl).elim
        · rw [hz]; rfl
      · exact h.elim
    · exact h.elim
  · rename_i x y q h1 h2
    rw [h1, h2]; simp only
    split at h
    · rename_i a b ha hb; rw [ha, hb]; exact hk _ _ _ h
    · exact h.elim
  · rename_i x y q h1 h2
    rw [h1, h2]; simp only
    split at h
    · rename_i a b ha hb; rw [ha, hb]; exact hk _ _ _ h
    · exact h.elim
  · rename_i x y t t' h1 h2 h3
    rw [h1, h2, h3]; simp only
    split at h
    · rename_i a b ha hb
      split at h
      · rename_i hq; rw [ha, hb]; exact ⟨kind_str (hT.knd _ _ hq), appE_sound hT h hk⟩
      · exact h.elim
    · rename_i a b hne ha hb
      split at h
      · rename_i q hq
        obtain ⟨e, m, by', cs⟩ := q
        obtain ⟨z, hz, _⟩ := hT.sl _ _ _ _ _ hq
        rw [ha, hb]
        obtain ⟨ys, hys, h⟩ := elsK_sound (sl := sl) (ct := ct) h
        split
        · rename_i a' b' e1 e2; cases e2; exact (hne _ rfl).elim
        · rename_i a' b' _ e1 e2
          cases e1; cases e2
          refine ⟨by rw [hz]; rfl, ?_⟩
          simp only [hys]; exact appE_sound hT h hk
        · rename_i hno; exact (hno a b rfl rfl).elim
      · exact h.elim
    · exact h.elim
  · rename_i h1
    rw [h1]
    simp only
    split at h
    · rename_i g first caps as hf has
      rw [hf, has]; simp only
      split at h
      · refine .inr ?_
        have h := h.out
        intro M0 w0 c M J w vs i1 i2 i3
        obtain ⟨a, b⟩ := h M0 w0 c M J w vs i1 i2 i3
        refine ⟨a, b.mono ?_⟩
        rintro e w' ⟨v, r, hp', c', M', J', x1, x2, x3, x4⟩
        exact ⟨v, r, hp', c', M', J', x1, fun c' hc' => hk _ _ _ (x2 c' hc'), x3, x4⟩
      · refine .inl (pursK_sound _ h (fun ys hp' h' => ?_))
        have h' := h'.out
        refine h'.mono ?_
        rintro r hs' ⟨a, b, c⟩
        refine ⟨a, b, ?_⟩
        obtain ⟨e1, e2⟩ := adds_sl nm ct hs' 0 ⟨sl, hp', ct⟩
        have := hk _ _ _ c
        have e3 : (St.adds nm ct 0 hs' ⟨[], hp', 0⟩).hp = (St.adds nm ct 0 hs' ⟨sl, hp', ct⟩).hp := e2 [] 0
        rw [e3] at this
        show K' _ ⟨(St.adds nm ct 0 hs' ⟨sl, hp', ct⟩).sl, (St.adds nm ct 0 hs' ⟨sl, hp', ct⟩).hp, ct + hs'.length⟩
        rw [e1]; exact this
    · exact h.elim
  · exact h.elim

omit hT in
theorem elK_sound {es : List (List AV)} {i : Nat} {K : List AV → Prop} (h : elK es i K) : ∃ e, es[i]? = some e ∧ K e := by
  unfold elK at h
  split at h
  · rename_i e he; exact ⟨e, he, h⟩
  · exact h.elim
omit hT in
theorem cellsE_sound {x : AV} {K : List AV → Prop} (h : cellsE hp x K) : ∃ cs, cellsAt ⟨sl, hp, ct⟩ x = some cs ∧ K cs := by
  unfold cellsE at h
  split at h
  · exact ⟨_, rfl, h⟩
  · split at h
    · rename_i k hk
      obtain ⟨hb, h⟩ := brK_tt h
      obtain ⟨e, he, h⟩ := elK_sound h
      refine ⟨_, ?_, h⟩
      simp only [cellsAt, hk]
      rw [if_pos (Nat.eq_of_beq_eq_true hb), he]; rfl
    · exact h.elim
  · exact h.elim

theorem storeE_sound {t : TypeId} {p x : AV} {K : List (Nat × Blk) → Prop} (h : storeE T t p x sl hp ct K) {K' : St → Prop} (hk : ∀ hp', K hp' → K' ⟨sl, hp', ct⟩) : storew E t p x ⟨sl, hp, ct⟩ K' := by
  unfold storeE at h
  split at h
  · rename_i r v i o b n ht
    unfold storew; rw [hT.tz _ _ ht]; simp only
    split at h
    · rename_i k hg
      rw [hg]; simp only
      split at h
      · rename_i hbx
        rw [if_pos hbx]
        split at h
        · rename_i cs hcs
          obtain ⟨hb, h1, h⟩ := brK_tt h
          obtain ⟨e, he, h⟩ := elK_sound h
          rw [hcs, he]
          simp only [Bool.and_eq_true, Nat.beq_eq, Nat.ble_eq] at hb
          exact ⟨hb.1.1, hb.1.2, hb.2, h1, hk _ h⟩
        · exact h.elim
      · rename_i hbx
        rw [if_neg (by rw [hbx]; decide)]
        refine pur1_sound (K := fun y hp' => (match get hp' r, cellsOf y with
          | some k, some cs => chk (!k.box && Nat.beq k.ver v && Nat.beq cs.length n && Nat.ble (o + n) k.sz) (Sided (k.frz ≤ i) (elK k.es i fun e => K ((r, ⟨k.sz, k.ty, k.ver, k.frz, k.box, k.es.set i (withCells e o cs)⟩) :: hp')))
          | _, _ => False)) h (fun y hp' h' => ?_)
        split at h'
        · rename_i k' cs hg' hcs
          obtain ⟨hb, h1, h'⟩ := brK_tt h'
          obtain ⟨e, he, h'⟩ := elK_sound h'
          simp only [hg', hcs, he]
          simp only [Bool.and_eq_true, Nat.beq_eq, Nat.ble_eq, Bool.not_eq_true'] at hb
          exact ⟨hb.1.1.1, hb.1.1.2, hb.1.2, hb.2, h1, hk _ h'⟩
        · exact h'.elim
    · exact h.elim
  · exact h.elim

theorem stepE_sound {hs : List FuncId} {op : Op} {K : AV → List (Nat × Blk) → Nat → Prop} (h : stepE E T hs nm op sl hp ct K) {d : Option Tmp} {K' : St → Prop} (hk : ∀ a hp' ct', K a hp' ct' → K' (St.put ⟨sl, hp', ct'⟩ d a)) :
    opD E nm d op ⟨sl, hp, ct⟩ K' := by
  unfold stepE at h
  simp only [operE_eq hp ct, argsE_eq hp ct, partsE_eq hp ct, bndE_eq (hp := hp) (ct := ct), litE_eq] at h
  unfold opD
  split at h
  · split at h
    · rename_i a ha; simp only [opw, ha]; exact hk _ _ _ h
    · exact h.elim
  · split at h
    · rename_i a ha; simp only [opw, ha]; exact hk _ _ _ h
    · exact h.elim
  · split at h
    · rename_i a b ha hb; simp only [ha, hb]; exact storeE_sound hT h (fun hp' h' => hk _ _ _ h')
    · exact h.elim
  · split at h
    · rename_i t ht
      simp only [opw, ht]
      refine ⟨fun e => ?_, fun e => ?_⟩
      · have := brK_t h e; unfold optK at this; split at this
        · rename_i x hx; rw [hx]; exact hk _ _ _ this
        · exact this.elim
      · have := brK_f h e; unfold optK at this; split at this
        · rename_i x hx; rw [hx]; exact hk _ _ _ this
        · exact this.elim
    · exact h.elim
  · split at h
    · rename_i cs hc hg
      obtain ⟨z, n, b, h1, h2⟩ := hT.zc _ _ hc
      simp only [opw, h1, h2]; exact ⟨hg, hk _ _ _ h⟩
    · exact h.elim
  · split at h
    · rename_i a ha hg
      split at h
      · rename_i cs hc
        simp only [opw, ha, hc]; exact ⟨hg, hk _ _ _ h⟩
      · exact h.elim
    · exact h.elim
  · split at h
    · rename_i z places l hl hp'
      obtain ⟨cs, h1, h2⟩ := fillE_sound _ h
      simp only [opw, hT.ly _ _ hl, hp', h1]; exact hk _ _ _ h2
    · exact h.elim
  · split at h
    · rename_i e n b cs l hl hp'
      obtain ⟨z, hz, _, hzn, hn, _⟩ := hT.sl _ _ _ _ _ hl
      obtain ⟨hb, h⟩ := chkS_tt h
      simp only [Bool.and_eq_true, Nat.beq_eq, Nat.ble_eq] at hb
      simp only [opw, hz, hp']
      refine ⟨⟨hb.1.1, hn, ?_, hzn⟩, pursK_sound _ h (fun ys hp' h' => ?_)⟩
      · rw [rangeB_sound _ _ hb.2, hb.1.2]; simp
      · split at h'
        · rename_i es he hg
          simp only [he]; exact ⟨hg, hk _ _ _ h'⟩
        · exact h'.elim
    · exact h.elim
  · split at h
    · rename_i a ha
      obtain ⟨cs, h1, h⟩ := cellsE_sound (sl := sl) (ct := ct) h
      obtain ⟨x, h2, h⟩ := partE_sound hT h
      simp only [opw, ha, h1, h2]; exact hk _ _ _ h
    · exact h.elim
  · split at h
    · rename_i cs ha; simp only [opw, ha]; exact ⟨rfl, hk _ _ _ h⟩
    · rename_i r v i o ha; simp only [opw, ha]; exact ⟨rfl, hk _ _ _ h⟩
    · exact h.elim
  · split at h
    · rename_i a b ha hb; simp only [opw, ha, hb]
      exact binE_sound hT h (fun v h' => hk _ _ _ h')
    · exact h.elim
  · split at h
    · rename_i b hb; simp only [opw, hb]; exact hk _ _ _ h
    · rename_i k n hb; simp only [opw, hb]; exact hk _ _ _ h
    · exact h.elim
  · split at h
    · rename_i a ha; simp only [opw, ha]; exact conE_sound hT h (fun v h' => hk _ _ _ h')
    · exact h.elim
  · split at h
    · rename_i a b ha hb; simp only [opw, ha, hb]; exact hk _ _ _ h
    · exact h.elim
  · split at h
    · rename_i l cs hl ha
      split at h
      · rename_i o t' n hf
        simp only [opw, hT.fd _ _ hl _ _ hf, ha]; exact ⟨Nat.succ_pos _, hk _ _ _ h⟩
      · exact h.elim
    · rename_i l r ver' i o' hl ha
      split at h
      · rename_i o t' n hf
        simp only [opw, hT.fd _ _ hl _ _ hf, ha]; exact ⟨Nat.succ_pos _, hk _ _ _ h⟩
      · exact h.elim
    · exact h.elim
  · split at h
    · rename_i l cs hl ha
      split at h
      · rename_i o t' n hf
        obtain ⟨x, h2, h⟩ := partE_sound hT h
        simp only [opw, hT.fd _ _ hl _ _ hf, ha, h2]; exact hk _ _ _ h
      · exact h.elim
    · exact h.elim
  · split at h
    · rename_i z xs k n ha hi
      split at h
      · rename_i e sz q hl
        obtain ⟨b, cs⟩ := q
        obtain ⟨z', hz, _⟩ := hT.sl _ _ _ _ _ hl
        obtain ⟨hb, ⟨h0, h1⟩, h⟩ := chkS_tt h
        obtain ⟨e', he, h⟩ := elK_sound h
        simp only [opw, hz, ha, hi]
        refine ⟨Nat.eq_of_beq_eq_true hb, h0, h1, ?_⟩
        rw [List.getD_eq_getElem?_getD, he]; exact hk _ _ _ h
      · exact h.elim
    · rename_i r v off len k n ha hi
      split at h
      · rename_i e sz q k hl hg
        obtain ⟨b, cs⟩ := q
        obtain ⟨z', hz, _⟩ := hT.sl _ _ _ _ _ hl
        obtain ⟨hb, ⟨h0, h1⟩, h⟩ := brK_tt h
        simp only [Bool.and_eq_true, Nat.beq_eq] at hb
        simp only [opw, hz, ha, hi, hg]
        exact ⟨h0, h1, hb, hk _ _ _ h⟩
      · exact h.elim
    · rename_i cs k n ha hi
      split at h
      · rename_i m e sz hl
        obtain ⟨⟨h0, h1⟩, h⟩ := h
        simp only [opw, hT.ar _ _ hl, ha, hi]
        exact ⟨h0, h1, hk _ _ _ h⟩
      · exact h.elim
    · rename_i r v j o k n ha hi
      split at h
      · rename_i m e sz hl
        obtain ⟨⟨h0, h1⟩, h⟩ := h
        simp only [opw, hT.ar _ _ hl, ha, hi]
        exact ⟨h0, h1, hk _ _ _ h⟩
      · exact h.elim
    · exact h.elim
  · split at h
    · rename_i b k n ha hi
      split at h
      · rename_i hl
        obtain ⟨⟨h0, h1⟩, h⟩ := h
        simp only [opw, kind_str (hT.knd _ _ hl), ha, hi]
        have : n.toNat < b.size := by omega
        refine ⟨h0, this, ?_⟩
        rw [← byt_eq this]; exact hk _ _ _ h
      · exact h.elim
    · rename_i cs k n ha hi
      split at h
      · rename_i m e sz hl
        obtain ⟨⟨h0, h1⟩, h⟩ := h
        obtain ⟨x, h2, h⟩ := partE_sound hT h
        simp only [opw, hT.ar _ _ hl, ha, hi, h2]
        exact ⟨h0, h1, hk _ _ _ h⟩
      · exact h.elim
    · exact h.elim
  · split at h
    · rename_i xs ha
      split at h
      · rename_i a hx; simp only [opw, ha, hx]; exact hk _ _ _ h
      · exact h.elim
    · exact h.elim
  · split at h
    · rename_i a l h' m ha hl hh hm; simp only [opw, ha, hl, hh, hm]; exact sliceE_sound hT h (fun a h'' => hk _ _ _ h'')
    · exact h.elim
  · split at h
    · rename_i e n by' cs a b hl ha hb hg
      obtain ⟨z, hz, hzc, hzn, hn, hcn⟩ := hT.sl _ _ _ _ _ hl
      obtain ⟨⟨a1, a2, a3, a4⟩, h⟩ := h
      simp only [opw, hz, ha, hb, hzc]
      exact ⟨a1, a2, a3, a4, hn, hcn, hg, hk _ _ _ h⟩
    · exact h.elim
  · exact callE_sound hT h (K' := fun x s' => K' (s'.put d x)) (fun a hp' ct' h' => hk _ _ _ h')
  · exact h.elim
end
end Ev
end Go.Proofs.YtdgpilapblipbaaDoor.Abs
