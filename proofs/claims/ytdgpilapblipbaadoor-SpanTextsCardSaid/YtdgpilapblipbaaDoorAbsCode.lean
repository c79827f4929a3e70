/- A calculus over values: whole bodies. -/
import Derived.Test.YtdgpilapblipbaaDoorAbsSem
import Derived.Deep.LoopGhost
import Derived.Scope
namespace Go.Proofs.YtdgpilapblipbaaDoor.Abs
open Go Go.RowKit
set_option linter.unusedVariables false
set_option linter.unusedSimpArgs false

def onlyA (sl : List (Nat × AV)) : List Nat → List (Nat × AV) → List (Nat × AV)
  | [], acc => acc
  | k :: ks, acc => match get sl k with | some x => onlyA sl ks ((k, x) :: acc) | none => onlyA sl ks acc
def onlyL (sl : List (Nat × AV)) (ks : List Nat) : List (Nat × AV) := onlyA sl ks []
def St.only (s : St) (keep : List Nat) : St := { s with sl := onlyL s.sl keep }

structure Ins where
  i : Nat
  dst : Option Tmp
  op : Op
  g : Option (Tmp × Bool)

inductive CC where
  | skip
  | ret
  | exit (id : Nat)
  | seq (a b : CC)
  | cond (x : Operand) (a b : CC)
  | block (id : Nat) (a : CC)
  | loop (a : CC)
  | reg (id : Nat) (l : List Ins)
  | draw (id : Nat) (l : List Ins) (deps : List (List Nat))
  | other (c : Code)

def insOf (all : Array Oper) (p : Nat × Oper) : Option Ins :=
  match p.2.guard with
  | none => some ⟨p.1, p.2.dst, p.2.op, none⟩
  | some (j, want) => ((all[j]?).bind (·.dst)).map fun t => ⟨p.1, p.2.dst, p.2.op, some (t, want)⟩
def insL (all : Array Oper) : List (Nat × Oper) → Option (List Ins)
  | [] => some []
  | p :: l => match insOf all p, insL all l with | some a, some r => some (a :: r) | _, _ => none
def numbered (ops : Array Oper) : List (Nat × Oper) := ops.toList.zipIdx.map fun p => (p.2, p.1)

/-- Of each operation: which ones must have come ahead of it. -/
def direct (o : Oper) : List Nat := (o.after.toList.filter (Region.binds .any)).map (·.on)
def comp : Code → CC
  | .skip => .skip
  | .label _ => .skip
  | .ret => .ret
  | .exit id => .exit id
  | .seq a b => .seq (comp a) (comp b)
  | .cond x a b => .cond x (comp a) (comp b)
  | .block id b => .block id (comp b)
  | .loop b => .loop (comp b)
  | .region id ops false => match insL ops (numbered ops) with | some l => .reg id l | none => .other (.region id ops false)
  | .region id ops true => match insL ops (numbered ops) with | some l => .draw id l (ops.toList.map direct) | none => .other (.region id ops true)
  | .rangeFunc a b c d => .other (.rangeFunc a b c d)
  | .scope b => .other (.scope b)
  | .goto l => .other (.goto l)
  | .refuse r => .other (.refuse r)

def opD (E : Env) (nm : Nat) (d : Option Tmp) (op : Op) (s : St) (K : St → Prop) : Prop :=
  match op with
  | .store t p x => match oper E s p, oper E s x with | some a, some b => storew E t a b s fun s' => K (s'.put d (.v undef)) | _, _ => False
  | op => opw E nm s.ctr op s fun x s' => K (s'.put d x)

abbrev opS (E : Env) (nm : Nat) (o : Oper) (s : St) (K : St → Prop) : Prop := opD E nm o.dst o.op s K

/-- A region's operations, in the text's order. -/
def St.know (s : St) (t : Tmp) (b : Bool) : St := { s with sl := set s.sl t (.v (.bool b)) }

def runk (E : Env) (base : Nat) : List Ins → St → (St → Prop) → Prop
  | [], s, K => K (s.only E.keep)
  | ⟨i, d, op, none⟩ :: rest, s, K => opD E (base + i * 8) d op s fun s' => runk E base rest s' K
  | ⟨i, d, op, some (t, want)⟩ :: rest, s, K =>
    match get s.sl t with
    | some (.v (.bool b)) =>
      (b = want → opD E (base + i * 8) d op (s.know t want) fun s' => runk E base rest s' K) ∧
      (b = !want → runk E base rest ((s.know t (!want)).put d (.v undef)) K)
    | some (.v (.tuple _)) => runk E base rest (s.put d (.v undef)) K
    | _ => False

def opsOK (nt : Nat) (ops : Array Oper) : Bool := ops.toList.all fun o => (match o.dst with | some d => decide (d < nt) | none => true)
def codeOK (nt : Nat) : Code → Bool
  | .region _ ops _ => opsOK nt ops
  | .seq a b => codeOK nt a && codeOK nt b
  | .cond _ a b => codeOK nt a && codeOK nt b
  | .block _ b => codeOK nt b
  | .loop b => codeOK nt b
  | .scope b => codeOK nt b
  | _ => true

/-- What holds behind a piece of code, in the machine. -/
def Post (E : Env) (M0 : Mem) (w0 : World) (nt : Nat) (K : Exit → St → Prop) (e : Exit) (a : Act) (w : World) : Prop :=
  ∃ s M J, K e s ∧ Inv E M0 w0 s.ctr M J s a.tmps w ∧ a.tmps.size = nt ∧ a.defers = []
def WP (E : Env) (nt : Nat) (c : Code) (K : Exit → St → Prop) (s : St) : Prop :=
  ∀ (M0 : Mem) (w0 : World) (M : Mem) (J : Locs) (tm : Array Value) (w : World), Inv E M0 w0 s.ctr M J s tm w → tm.size = nt →
    c.wp E.P (Post E M0 w0 nt K) ⟨tm, []⟩ w

/-- A state may be told otherwise. -/
def Gh (E : Env) (s s' : St) : Prop := ∀ (M0 : Mem) (w0 : World) (M : Mem) (J : Locs) (tm : Array Value) (w : World), Inv E M0 w0 s.ctr M J s tm w → ∃ M' J', Inv E M0 w0 s'.ctr M' J' s' tm w

def thenK (next : St → Prop) (K : Exit → St → Prop) : Exit → St → Prop
  | .normal, s => next s
  | e, s => K e s
def blockK (id : Nat) (K : Exit → St → Prop) : Exit → St → Prop
  | .exit i, s => if i = id then K .normal s else K (.exit i) s
  | e, s => K e s

/-- A piece of code that is told so. -/
def WPk (E : Env) (nt : Nat) (c : CC) (K : Exit → St → Prop) (s : St) : Prop := ∀ c', comp c' = c → codeOK nt c' = true → WP E nt c' K s

def wpk (E : Env) (nt : Nat) : CC → (Exit → St → Prop) → St → Prop
  | .skip, K, s => K .normal s
  | .ret, K, s => K .ret s
  | .exit id, K, s => K (.exit id) s
  | .seq a b, K, s => wpk E nt a (thenK (wpk E nt b K) K) s
  | .cond c a b, K, s =>
    match oper E s c with
    | some (.v (.bool t)) => (t = true → wpk E nt a K s) ∧ (t = false → wpk E nt b K s)
    | _ => False
  | .block id b, K, s => wpk E nt b (blockK id K) s
  | .reg id l, K, s => runk E (E.N + id * 512) l s (K .normal)
  | c, K, s => WPk E nt c K s

section
variable {E : Env} {M0 : Mem} {w0 : World} {M : Mem} {J : Locs} {s : St} {tm : Array Value} {w : World}

theorem Inv.put {c : Nat} (inv : Inv E M0 w0 c M J s tm w) {d : Option Tmp} {x : AV} {v : Value} (hr : Rel M J x v) (hd : ∀ t, d = some t → t < tm.size) {ds : List Deferred} :
    Inv E M0 w0 c M J (s.put d x) ((⟨tm, ds⟩ : Act).put d v).tmps w := by
  cases d with
  | none => exact inv
  | some t =>
    have ht := hd t rfl
    refine { inv with slot := fun t' x' hx' => ?_ }
    simp only [St.put, get_nil, get_cons] at hx'
    show ∃ u, (tm.setIfInBounds t v)[t']? = some u ∧ _
    split at hx'
    · rename_i e; subst e
      obtain rfl := Option.some.inj hx'
      exact ⟨v, by rw [Array.getElem?_setIfInBounds]; simp [ht], hr⟩
    · rename_i hne
      obtain ⟨u, h1, h2⟩ := inv.slot t' x' hx'
      exact ⟨u, by rw [Array.getElem?_setIfInBounds, if_neg (fun e => hne e.symm)]; exact h1, h2⟩

theorem Inv.ctr {c c' : Nat} (inv : Inv E M0 w0 c M J s tm w) (n : Nat) (h : c ≤ c') : Inv E M0 w0 c' M J { s with ctr := n } tm w :=
  { inv with vers := fun r L hr => Nat.lt_of_lt_of_le (inv.vers r L hr) h }

theorem put_ctr (s : St) (d : Option Tmp) (x : AV) : (s.put d x).ctr = s.ctr := by cases d <;> rfl

theorem get_onlyA (sl : List (Nat × AV)) : ∀ (ks : List Nat) (acc : List (Nat × AV)), (∀ t x, get acc t = some x → get sl t = some x) → ∀ (t : Nat) (x : AV), get (onlyA sl ks acc) t = some x → get sl t = some x
  | [], acc, ha, t, x, h => ha t x h
  | k :: ks, acc, ha, t, x, h => by
    simp only [onlyA] at h
    split at h
    · rename_i y hy
      refine get_onlyA sl ks _ (fun t' x' h' => ?_) t x h
      simp only [get_nil, get_cons] at h'
      split at h'
      · rename_i e; subst e; rw [hy]; exact h'
      · exact ha t' x' h'
    · exact get_onlyA sl ks acc ha t x h
theorem get_onlyL (sl : List (Nat × AV)) (ks : List Nat) (t : Nat) (x : AV) : get (onlyL sl ks) t = some x → get sl t = some x := get_onlyA sl ks [] (fun t x h => by simp [get_nil, get_cons] at h) t x

theorem Inv.only {c : Nat} (inv : Inv E M0 w0 c M J s tm w) (keep : List Nat) : Inv E M0 w0 c M J (s.only keep) tm w :=
  { inv with slot := fun t x h => inv.slot t x (get_onlyL s.sl keep t x h) }

theorem put_sizeA (a : Act) (d : Option Tmp) (v : Value) : (a.put d v).tmps.size = a.tmps.size := by cases d <;> simp [Act.put]
theorem put_defers (a : Act) (d : Option Tmp) (v : Value) : (a.put d v).defers = a.defers := by cases d <;> rfl

theorem opS_wp (inv : Inv E M0 w0 s.ctr M J s tm w) {nm : Nat} {o : Oper} {K : St → Prop} (h : opS E nm o s K) (hd : ∀ t, o.dst = some t → t < tm.size) {next : Act → World → Prop} {Q : Exit → Act → World → Prop}
    (hn : ∀ a w' M' J' s', K s' → Inv E M0 w0 s'.ctr M' J' s' a.tmps w' → a.tmps.size = tm.size → a.defers = [] → next a w') : o.wp E.P ⟨tm, []⟩ w next Q := by
  unfold opS opD at h
  split at h
  · rename_i t p x ho
    split at h
    · rename_i a b ha hb
      refine store_wp inv (ds := []) ho ha hb h (fun w' M' s' hk hi hc => ?_)
      refine hn _ w' M' J _ hk ?_ (put_sizeA _ _ _) (put_defers _ _ _)
      rw [put_ctr, hc]
      exact Inv.put hi (.pure (.v _)) hd
    · exact h.elim
  · rename_i op hst
    refine op_wp inv (ds := []) (ver := s.ctr) (Nat.le_refl _) (fun t a b e => hst t a b e) h (fun v w' M' J' x s' c' hk hi hr hc => ?_)
    refine hn _ w' M' J' _ hk ?_ (put_sizeA _ _ _) (put_defers _ _ _)
    rw [put_ctr]
    exact Inv.put (hi.weaken (by omega)) hr hd

theorem runk_wp {base : Nat} {ops : Array Oper} : ∀ (l : List (Nat × Oper)) {k : List Ins} {s : St} {M : Mem} {J : Locs} {tm : Array Value} {w : World} {K : St → Prop}, (∀ p ∈ l, ops[p.1]? = some p.2) → opsOK tm.size ops = true →
    insL ops l = some k → runk E base k s K → Inv E M0 w0 s.ctr M J s tm w → ∀ {Q : Exit → Act → World → Prop},
    (∀ a w' M' J' s', K s' → Inv E M0 w0 s'.ctr M' J' s' a.tmps w' → a.tmps.size = tm.size → a.defers = [] → Q .normal a w') →
    wpOps E.P ops Q (l.map Prod.fst) ⟨tm, []⟩ w
  | [], k, s, M, J, tm, w, K, _, _, hk, h, inv, Q, hq => by
    simp only [insL, Option.some.injEq] at hk; subst hk
    exact hq _ w M J _ h (inv.only _) rfl rfl
  | (i, o) :: rest, k, s, M, J, tm, w, K, hl, hok, hk, h, inv, Q, hq => by
    simp only [insL] at hk
    split at hk
    case h_2 => cases hk
    rename_i a r ha hrr
    obtain rfl := Option.some.inj hk
    have hio := hl (i, o) (by simp)
    have hd : ∀ t, o.dst = some t → t < tm.size := by
      intro t ht
      unfold opsOK at hok
      rw [List.all_eq_true] at hok
      have := hok o (by rw [Array.mem_toList_iff]; exact Array.mem_of_getElem? hio)
      rw [ht] at this; simpa using this
    have hrest : ∀ p ∈ rest, ops[p.1]? = some p.2 := fun p hp => hl p (by simp [hp])
    simp only [List.map_cons, wpOps, hio]
    have go : ∀ {s1 : St} {J1 : Locs} {M1 : Mem}, opS E (base + i * 8) o s1 (fun s' => runk E base r s' K) → Inv E M0 w0 s1.ctr M1 J1 s1 tm w → Oper.wp E.P o ⟨tm, []⟩ w (wpOps E.P ops Q (rest.map Prod.fst)) Q := by
      intro s1 J1 M1 h1 i1
      refine opS_wp i1 h1 hd (fun a w' M' J' s' hk hi hs hdf => ?_)
      obtain ⟨tm', ds'⟩ := a
      simp only at hi hs hdf
      subst hdf
      exact runk_wp rest hrest (by rw [hs]; exact hok) hrr hk hi (fun a w'' M'' J'' s'' a1 a2 a3 a4 => hq a w'' M'' J'' s'' a1 a2 (by rw [a3, hs]) a4)
    simp only [insOf] at ha
    split at ha
    · rename_i hg
      obtain rfl := Option.some.inj ha
      simp only [runk] at h
      have : Region.wanted o (yielded ops tm) = true := by simp [Region.wanted, hg]
      rw [if_pos this]
      exact .inl (go h inv)
    · rename_i j want hg
      rw [Option.map_eq_some_iff] at ha
      obtain ⟨t, ht, rfl⟩ := ha
      simp only [runk] at h
      · split at h
        · rename_i b hb
          obtain ⟨v, hv, hr⟩ := inv.slot t _ hb
          obtain rfl := hr.v_inv
          have hy : yielded ops tm j = some b := by simp [yielded, ht, hv]
          have hself : ∀ b', b = b' → Inv E M0 w0 s.ctr M J (s.know t b') tm w := by
            rintro b' rfl
            refine { inv with slot := fun t' x' hx' => ?_ }
            rw [St.know, get_set _ _ _ _ _ hb] at hx'
            split at hx'
            · rename_i e; subst e
              obtain rfl := Option.some.inj hx'
              exact ⟨_, hv, hr⟩
            · rename_i hne
              exact inv.slot t' x' hx'
          by_cases hbw : b = want
          · have : Region.wanted o (yielded ops tm) = true := by simp [Region.wanted, hg, hy, hbw]
            rw [if_pos this]
            exact .inl (go (h.1 hbw) (hself want hbw))
          · have : Region.wanted o (yielded ops tm) = false := by simp [Region.wanted, hg, hy, hbw]
            rw [if_neg (by rw [this]; simp)]
            have hb' : b = !want := by cases b <;> cases want <;> simp_all
            have i1 := Inv.put (hself (!want) hb') (d := o.dst) (x := .v undef) (v := undef) (.pure (.v _)) hd (ds := [])
            have hs := put_sizeA ⟨tm, []⟩ o.dst undef
            have hdf := put_defers ⟨tm, []⟩ o.dst undef
            generalize (⟨tm, []⟩ : Act).put o.dst undef = a at i1 hs hdf ⊢
            obtain ⟨tm', ds'⟩ := a
            simp only at i1 hs hdf
            subst hdf
            refine runk_wp (M := M) (J := J) rest hrest (by rw [hs]; exact hok) hrr (h.2 hb') ?_ (fun a w'' M'' J'' s'' a1 a2 a3 a4 => hq a w'' M'' J'' s'' a1 a2 (by rw [a3, hs]) a4)
            rw [put_ctr]; exact i1
        · rename_i vs hb
          obtain ⟨v, hv, hr⟩ := inv.slot t _ hb
          obtain rfl := hr.v_inv
          have hy : yielded ops tm j = none := by simp [yielded, ht, hv]
          have : Region.wanted o (yielded ops tm) = false := by simp [Region.wanted, hg, hy]
          rw [if_neg (by rw [this]; simp)]
          have i1 := Inv.put inv (d := o.dst) (x := .v undef) (v := undef) (.pure (.v _)) hd (ds := [])
          have hs := put_sizeA ⟨tm, []⟩ o.dst undef
          have hdf := put_defers ⟨tm, []⟩ o.dst undef
          generalize (⟨tm, []⟩ : Act).put o.dst undef = a at i1 hs hdf ⊢
          obtain ⟨tm', ds'⟩ := a
          simp only at i1 hs hdf
          subst hdf
          refine runk_wp (M := M) (J := J) rest hrest (by rw [hs]; exact hok) hrr h ?_ (fun a w'' M'' J'' s'' a1 a2 a3 a4 => hq a w'' M'' J'' s'' a1 a2 (by rw [a3, hs]) a4)
          rw [put_ctr]; exact i1
        · exact h.elim

theorem zipIdx_ops (ops : Array Oper) : (∀ p ∈ (ops.toList.zipIdx.map fun p => (p.2, p.1)), ops[p.1]? = some p.2) ∧ (ops.toList.zipIdx.map fun p => (p.2, p.1)).map Prod.fst = List.range ops.size := by
  constructor
  · intro p hp
    rw [List.mem_map] at hp
    obtain ⟨⟨o, i⟩, hp, rfl⟩ := hp
    have := List.mem_zipIdx_iff_getElem?.1 hp
    simpa using this
  · apply List.ext_getElem?
    intro i
    simp only [List.getElem?_map, List.getElem?_zipIdx, Option.map_map]
    by_cases h : i < ops.size
    · rw [List.getElem?_range h, Array.getElem?_toList, Array.getElem?_eq_getElem h]; simp
    · have h1 : (List.range ops.size)[i]? = none := List.getElem?_eq_none (by rw [List.length_range]; omega)
      rw [h1, Array.getElem?_toList, Array.getElem?_eq_none (by omega)]; rfl

theorem WP.mono {nt : Nat} {c : Code} {K K' : Exit → St → Prop} {s : St} (h : WP E nt c K s) (hk : ∀ e s, K e s → K' e s) : WP E nt c K' s :=
  fun M0 w0 M J tm w inv hs => wp_mono (h M0 w0 M J tm w inv hs) fun e a w' ⟨s', M', J', k, i, z, d⟩ => ⟨s', M', J', hk _ _ k, i, z, d⟩

theorem WP.ghost {nt : Nat} {c : Code} {K : Exit → St → Prop} {s s' : St} (hg : Gh E s s') (h : WP E nt c K s') : WP E nt c K s :=
  fun M0 w0 M J tm w inv hs => let ⟨M', J', i⟩ := hg M0 w0 M J tm w inv; h M0 w0 M' J' tm w i hs

theorem wpk_sound {nt : Nat} : ∀ (c : Code) {K : Exit → St → Prop} {s : St}, codeOK nt c = true → wpk E nt (comp c) K s → WP E nt c K s
  | .skip, K, s, _, h => fun M0 w0 M J tm w inv hs => wp_skip ⟨s, M, J, h, inv, hs, rfl⟩
  | .label l, K, s, _, h => fun M0 w0 M J tm w inv hs => wp_label ⟨s, M, J, h, inv, hs, rfl⟩
  | .exit id, K, s, _, h => fun M0 w0 M J tm w inv hs => wp_exit ⟨s, M, J, h, inv, hs, rfl⟩
  | .ret, K, s, _, h => fun M0 w0 M J tm w inv hs => wp_ret ⟨s, M, J, h, inv, hs, rfl⟩
  | .seq a b, K, s, hok, h => fun M0 w0 M J tm w inv hs => by
    simp only [codeOK, Bool.and_eq_true] at hok
    simp only [comp, wpk] at h
    refine wp_seq (wp_mono (wpk_sound a hok.1 h M0 w0 M J tm w inv hs) ?_)
    rintro e ⟨tm', ds'⟩ w' ⟨s', M', J', hk, hi, hz, hd⟩
    simp only at hd; subst hd
    cases e <;> simp only [Exit.then]
    case normal => exact wpk_sound b hok.2 hk M0 w0 M' J' tm' w' hi hz
    all_goals exact ⟨s', M', J', hk, hi, hz, rfl⟩
  | .cond c a b, K, s, hok, h => fun M0 w0 M J tm w inv hs => by
    simp only [codeOK, Bool.and_eq_true] at hok
    simp only [comp, wpk] at h
    split at h
    · rename_i t ht
      have hv := (inv.oper (ds := []) ht).v_inv
      refine wp_cond_split hv (fun e => ?_) (fun e => ?_)
      · exact wpk_sound a hok.1 (h.1 e) M0 w0 M J tm w inv hs
      · exact wpk_sound b hok.2 (h.2 e) M0 w0 M J tm w inv hs
    · exact h.elim
  | .block id b, K, s, hok, h => fun M0 w0 M J tm w inv hs => by
    simp only [comp, wpk] at h
    refine wp_block (wp_mono (wpk_sound b hok h M0 w0 M J tm w inv hs) ?_)
    rintro e a w' ⟨s', M', J', hk, hi, hz, hd⟩
    cases e <;> simp only [Exit.inBlock]
    case exit i =>
      simp only [blockK] at hk
      split
      · rename_i e; rw [if_pos e] at hk; exact ⟨s', M', J', hk, hi, hz, hd⟩
      · rename_i e; rw [if_neg e] at hk; exact ⟨s', M', J', hk, hi, hz, hd⟩
    all_goals exact ⟨s', M', J', hk, hi, hz, hd⟩
  | .region id ops false, K, s, hok, h => by
    simp only [comp] at h
    split at h
    · rename_i l hl
      simp only [wpk] at h
      intro M0 w0 M J tm w inv hs
      obtain ⟨z1, z2⟩ := zipIdx_ops ops
      refine wp_region ?_
      rw [← z2]
      exact runk_wp _ z1 (by rw [hs]; exact hok) hl h inv (fun a w' M' J' s' hk hi hz hd => ⟨s', M', J', hk, hi, by rw [hz, hs], hd⟩)
    · rename_i hl
      exact h _ (by simp only [comp]; split <;> simp_all) hok
  | .region id ops true, K, s, hok, h => by
    have : wpk E nt (comp (.region id ops true)) K s = WPk E nt (comp (.region id ops true)) K s := by
      simp only [comp]; split <;> rfl
    rw [this] at h
    exact h _ rfl hok
  | .loop c, K, s, hok, h => h _ rfl hok
  | .rangeFunc a b c d, K, s, hok, h => h _ rfl hok
  | .scope b, K, s, hok, h => h _ rfl hok
  | .goto l, K, s, hok, h => h _ rfl hok
  | .refuse r, K, s, hok, h => h _ rfl hok

theorem comp_loop {c : Code} {d : CC} (h : comp c = .loop d) : ∃ b, c = .loop b ∧ comp b = d := by
  cases c
  case loop b => simp only [comp] at h; exact ⟨b, rfl, by injection h⟩
  case region id ops dr => cases dr <;> simp only [comp] at h <;> split at h <;> cases h
  all_goals (simp only [comp] at h; cases h)

theorem comp_seq {c : Code} {d e : CC} (h : comp c = .seq d e) : ∃ a b, c = .seq a b ∧ comp a = d ∧ comp b = e := by
  cases c
  case seq a b => simp only [comp] at h; injection h with h1 h2; exact ⟨a, b, rfl, h1, h2⟩
  case region id ops dr => cases dr <;> simp only [comp] at h <;> split at h <;> cases h
  all_goals (simp only [comp] at h; cases h)

theorem WPk.of {nt : Nat} {c : CC} {K : Exit → St → Prop} {s : St} (h : wpk E nt c K s) : WPk E nt c K s := by
  rintro c' rfl hok
  exact wpk_sound c' hok h
theorem WPk.mono {nt : Nat} {c : CC} {K K' : Exit → St → Prop} {s : St} (h : WPk E nt c K s) (hk : ∀ e s, K e s → K' e s) : WPk E nt c K' s :=
  fun c' e hok => (h c' e hok).mono hk
theorem WPk.ghost {nt : Nat} {c : CC} {K : Exit → St → Prop} {s s' : St} (hg : Gh E s s') (h : WPk E nt c K s') : WPk E nt c K s :=
  fun c' e hok => .ghost hg (h c' e hok)
/-- What stands between two pieces may be told anew. -/
theorem WPk.seq {nt : Nat} {a b : CC} {K : Exit → St → Prop} {s : St} (h : WPk E nt a (thenK (fun s' => ∃ s2, Gh E s' s2 ∧ WPk E nt b K s2) K) s) : WPk E nt (.seq a b) K s := by
  intro c' e hok
  obtain ⟨a', b', rfl, rfl, rfl⟩ := comp_seq e
  simp only [codeOK, Bool.and_eq_true] at hok
  intro M0 w0 M J tm w inv hs
  refine wp_seq (wp_mono (h a' rfl hok.1 M0 w0 M J tm w inv hs) ?_)
  rintro e ⟨tm', ds'⟩ w' ⟨s', M', J', hk, hi, hz, hd⟩
  simp only at hd; subst hd
  cases e <;> simp only [Exit.then]
  case normal =>
    obtain ⟨s2, hg, hb⟩ := hk
    obtain ⟨M2, J2, i2⟩ := hg M0 w0 M' J' tm' w' hi
    exact hb b' rfl hok.2 M0 w0 M2 J2 tm' w' i2 hz
  all_goals exact ⟨s', M', J', hk, hi, hz, rfl⟩

/-- A loop. -/
theorem WPk.loop {nt : Nat} {d : CC} {K : Exit → St → Prop} {s : St} (I : Nat → St → Prop) (h0 : ∃ n s0, Gh E s s0 ∧ I n s0)
    (round : ∀ n s1, I n s1 → wpk E nt d (thenK (fun s' => ∃ m s2, m < n ∧ Gh E s' s2 ∧ I m s2) K) s1) : WPk E nt (.loop d) K s := by
  intro c' e hok
  obtain ⟨c, rfl, rfl⟩ := comp_loop e
  simp only [codeOK] at hok
  intro M0 w0 M J tm w inv hs
  obtain ⟨n0, s0, hg, hI⟩ := h0
  obtain ⟨M', J', i0⟩ := hg M0 w0 M J tm w inv
  refine wp_loop_ghost (fun n a w => ∃ s M J, I n s ∧ Inv E M0 w0 s.ctr M J s a.tmps w ∧ a.tmps.size = nt ∧ a.defers = []) n0 ⟨s0, M', J', hI, i0, hs, rfl⟩ ?_
  rintro n ⟨tm', ds'⟩ w' ⟨s1, M1, J1, hI1, i1, hz, hd⟩
  simp only at hd; subst hd
  refine wp_mono (wpk_sound c hok (round n s1 hI1) M0 w0 M1 J1 tm' w' i1 hz) ?_
  rintro e a w'' ⟨s2, M2, J2, hk, i2, hz2, hd2⟩
  cases e <;> simp only [Exit.then]
  case normal =>
    obtain ⟨m, s3, hm, hg3, hI3⟩ := hk
    obtain ⟨M3, J3, i3⟩ := hg3 M0 w0 M2 J2 a.tmps w'' i2
    exact ⟨m, hm, s3, M3, J3, hI3, i3, hz2, hd2⟩
  all_goals exact ⟨s2, M2, J2, hk, i2, hz2, hd2⟩
end
end Go.Proofs.YtdgpilapblipbaaDoor.Abs
