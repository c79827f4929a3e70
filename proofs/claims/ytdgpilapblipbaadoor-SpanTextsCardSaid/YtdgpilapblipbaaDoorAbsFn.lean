/- A calculus over values: functions. -/
import Derived.Test.YtdgpilapblipbaaDoorAbsCode
namespace Go.Proofs.YtdgpilapblipbaaDoor.Abs
open Go Go.RowKit
set_option linter.unusedVariables false
set_option linter.unusedSimpArgs false

def subs {α : Type} (l : List (Nat × α)) : List (Nat × α) → Prop
  | [] => True
  | (k, x) :: r => get l k = some x ∧ subs l r

theorem subs_get {α : Type} {l : List (Nat × α)} : ∀ {r : List (Nat × α)}, subs l r → ∀ t x, get r t = some x → get l t = some x
  | [], _, t, x, h => by simp [get_nil, get_cons] at h
  | (k, y) :: r, h, t, x, hx => by
    simp only [get_nil, get_cons] at hx
    split at hx
    · rename_i e; subst e; obtain rfl := Option.some.inj hx; exact h.1
    · exact subs_get h.2 t x hx

section
variable {E : Env} {M0 : Mem} {w0 : World} {c : Nat} {M : Mem} {J : Locs} {s s' : St} {tm : Array Value} {w : World}

theorem Inv.less (inv : Inv E M0 w0 c M J s tm w) (h1 : ∀ t x, get s'.sl t = some x → get s.sl t = some x) (h2 : ∀ r k, get s'.hp r = some k → get s.hp r = some k) : Inv E M0 w0 c M J s' tm w :=
  { inv with
    slot := fun t x h => inv.slot t x (h1 t x h)
    heap := fun r k h => inv.heap r k (h2 r k h)
    apart := fun r r' k k' L L' h h' => inv.apart r r' k k' L L' (h2 r k h) (h2 r' k' h')
    owns := fun r k L o u h => inv.owns r k L o u (h2 r k h) }

theorem Gh.refl : Gh E s s := fun M0 w0 M J tm w inv => ⟨M, J, inv⟩
theorem Gh.trans {s'' : St} (h : Gh E s s') (h' : Gh E s' s'') : Gh E s s'' := fun M0 w0 M J tm w inv => let ⟨M', J', i⟩ := h M0 w0 M J tm w inv; h' M0 w0 M' J' tm w i
/-- Less is told. -/
theorem Gh.sub (h1 : subs s.sl s'.sl) (h2 : subs s.hp s'.hp) (h3 : s.ctr ≤ s'.ctr) : Gh E s s' := fun M0 w0 M J tm w inv =>
  ⟨M, J, (inv.less (subs_get h1) (subs_get h2)).weaken h3⟩

theorem get_put (s : St) (t t' : Nat) (x : AV) : get (s.put (some t) x).sl t' = if t' = t then some x else get s.sl t' := get_cons _ _ _ _

/-- A slot's value with no row of the call's own in it. -/
theorem Gh.pure {t : Nat} {x y : AV} (hx : get s.sl t = some x) (hy : pure1 s deep x = some y) : Gh E s ((s.freeze (reads deep x)).put (some t) y) := fun M0 w0 M J tm w inv => by
  obtain ⟨v, hv, hr⟩ := inv.slot t x hx
  obtain ⟨y', s1, M1, ⟨hk, hs1⟩, hs, i1, hp, hc⟩ := inv.pure (K := fun y' s' => y' = y ∧ s' = s.freeze (reads deep x)) hr (by unfold St.pure; rw [hy]; exact ⟨rfl, rfl⟩)
  subst hk; subst hs1
  refine ⟨M1, J, ?_⟩
  have hcc : ((s.freeze (reads deep x)).put (some t) y').ctr = s.ctr := freeze_ctr _ _
  rw [hcc]
  refine { i1 with slot := fun t' x' h' => ?_ }
  rw [get_put] at h'
  split at h'
  · rename_i e; subst e; obtain rfl := Option.some.inj h'; exact ⟨v, hv, .pure hp⟩
  · exact i1.slot t' x' h'

/-- A slice of nothing, as a row of its own. -/
theorem Gh.adopt {t nm sz : Nat} {ty : TypeId} (hx : get s.sl t = some (.v (.slice none 0 0))) (hn : get s.hp nm = none) :
    Gh E s ((s.new nm s.ctr sz ty false []).put (some t) (.own nm s.ctr 0 0)) := fun M0 w0 M J tm w inv => by
  obtain ⟨J', hJ, hJ', hI⟩ := inv.newNil (ver := s.ctr) (sz := sz) (ty := ty) (box := false) hn (Nat.le_refl _)
  refine ⟨M, J', ?_⟩
  have hI2 : Inv E M0 w0 (s.ctr + 8) M J' (s.new nm s.ctr sz ty false []) tm w := hI.weaken (by omega)
  refine { hI2 with slot := fun t' x' h' => ?_ }
  rw [get_put] at h'
  split at h'
  · rename_i e; subst e; obtain rfl := Option.some.inj h'
    obtain ⟨v, hv, hr⟩ := inv.slot _ _ hx
    obtain rfl := hr.v_inv
    exact ⟨_, hv, .own hJ' (Nat.le_refl _) (fun _ => rfl) (fun h => by simp at h) rfl⟩
  · exact hI2.slot t' x' h'

def idx : List (Nat × Nat) → Nat → Nat → Nat → Option Nat
  | [], _, _, _ => none
  | (a, b) :: l, j, r, v => if r = a ∧ v = b then some j else idx l (j + 1) r v

mutual
def ren (l : List (Nat × Nat)) : AV → Option AV
  | .agg cs => (rens l cs).map .agg
  | .tup cs => (rens l cs).map .tup
  | .clo f a b => match rens l a, rens l b with | some a', some b' => some (.clo f a' b') | _, _ => none
  | .own r v off len => (idx l 0 r v).map fun j => .own j j off len
  | .ptr r v i o => (idx l 0 r v).map fun j => .ptr j j i o
  | x => some x
def rens (l : List (Nat × Nat)) : List AV → Option (List AV)
  | [] => some []
  | c :: cs => match ren l c, rens l cs with | some c', some cs' => some (c' :: cs') | _, _ => none
end

def rensL (l : List (Nat × Nat)) : List (List AV) → Option (List (List AV))
  | [] => some []
  | c :: cs => match rens l c, rensL l cs with | some c', some cs' => some (c' :: cs') | _, _ => none

/-- The blocks that are handed back, told anew. -/
def handed (s : St) (l : List (Nat × Nat)) : List (Nat × Nat) → Nat → Option (List Blk)
  | [], _ => some []
  | (r, v) :: rest, j =>
    match get s.hp r, handed s l rest (j + 1) with
    | some k, some ks =>
      if k.ver = v then (if k.box then (rensL l k.es).map fun es => { k with ver := j, es := es } :: ks else some ({ k with ver := j } :: ks)) else none
    | _, _ => none

/-- What a function's result variables hold. -/
def resAV (E : Env) (s : St) : List ResultVar → Option (List AV)
  | [] => some []
  | .tmp t :: l => match get s.sl t, resAV E s l with | some a, some r => some (a :: r) | _, _ => none
  | .cell a t :: l =>
    match get s.sl a, resAV E s l with
    | some p, some r => (match cellsAt s p with | some cs => (match partOf E.P t cs with | some x => some (x :: r) | none => none) | none => none)
    | _, _ => none
def resOf : List AV → AV
  | [x] => x
  | l => .tup l

theorem idx_get : ∀ (l : List (Nat × Nat)) (j r v i : Nat), idx l j r v = some i → j ≤ i ∧ l[i - j]? = some (r, v)
  | [], _, _, _, _, h => by simp [idx] at h
  | (a, b) :: l, j, r, v, i, h => by
    simp only [idx] at h
    split at h
    · rename_i e; obtain rfl := Option.some.inj h; obtain ⟨rfl, rfl⟩ := e; simp
    · obtain ⟨h1, h2⟩ := idx_get l (j + 1) r v i h
      exact ⟨by omega, by rw [show i - j = (i - (j + 1)) + 1 by omega, List.getElem?_cons_succ]; exact h2⟩

theorem rens_get {l : List (Nat × Nat)} : ∀ {cs ds : List AV}, rens l cs = some ds → ds.length = cs.length ∧ ∀ (i : Nat) (d : AV), ds[i]? = some d → ∃ c, cs[i]? = some c ∧ ren l c = some d
  | [], ds, h => by simp only [rens, Option.some.injEq] at h; subst h; simp
  | c :: cs, ds, h => by
    simp only [rens] at h
    split at h
    · rename_i c' cs' h1 h2
      obtain rfl := Option.some.inj h
      obtain ⟨a, b⟩ := rens_get h2
      refine ⟨by simp [a], fun i d hd => ?_⟩
      cases i with
      | zero => simp at hd; subst hd; exact ⟨c, rfl, h1⟩
      | succ i => obtain ⟨c'', x, y⟩ := b i d (by simpa using hd); exact ⟨c'', by simpa using x, y⟩
    · cases h

theorem rensL_get {l : List (Nat × Nat)} : ∀ {cs ds : List (List AV)}, rensL l cs = some ds → ds.length = cs.length ∧ ∀ (i : Nat) (d : List AV), ds[i]? = some d → ∃ c, cs[i]? = some c ∧ rens l c = some d
  | [], ds, h => by simp only [rensL, Option.some.injEq] at h; subst h; simp
  | c :: cs, ds, h => by
    simp only [rensL] at h
    split at h
    · rename_i c' cs' h1 h2
      obtain rfl := Option.some.inj h
      obtain ⟨a, b⟩ := rensL_get h2
      refine ⟨by simp [a], fun i d hd => ?_⟩
      cases i with
      | zero => simp at hd; subst hd; exact ⟨c, rfl, h1⟩
      | succ i => obtain ⟨c'', x, y⟩ := b i d (by simpa using hd); exact ⟨c'', by simpa using x, y⟩
    · cases h

theorem PRel.ren {l : List (Nat × Nat)} {x : AV} {v : Value} (h : PRel M x v) : ∀ {y : AV}, Abs.ren l x = some y → PRel M y v := by
  induction h with
  | v x => intro y hy; simp only [Abs.ren, Option.some.injEq] at hy; subst hy; exact .v x
  | agg hn h1 _ ih =>
    intro y hy
    simp only [Abs.ren, Option.map_eq_some_iff] at hy
    obtain ⟨ds, hd, rfl⟩ := hy
    obtain ⟨a, b⟩ := rens_get hd
    refine .agg (by rw [a]; exact hn) h1 (fun i d v hd hv => ?_)
    obtain ⟨c, hc, hr⟩ := b i d hd
    exact ih i c v hc hv hr
  | tup hn _ ih =>
    intro y hy
    simp only [Abs.ren, Option.map_eq_some_iff] at hy
    obtain ⟨ds, hd, rfl⟩ := hy
    obtain ⟨a, b⟩ := rens_get hd
    refine .tup (by rw [a]; exact hn) (fun i d v hd hv => ?_)
    obtain ⟨c, hc, hr⟩ := b i d hd
    exact ih i c v hc hv hr
  | lst u hn hc hz hA hM h _ => intro y hy; simp only [Abs.ren, Option.some.injEq] at hy; subst hy; exact .lst u hn hc hz hA hM h
  | rptr u hM h _ => intro y hy; simp only [Abs.ren, Option.some.injEq] at hy; subst hy; exact .rptr u hM h
  | clo hn hm _ _ ih ih' =>
    intro y hy
    simp only [Abs.ren] at hy
    split at hy
    · rename_i a' b' ha hb
      obtain rfl := Option.some.inj hy
      obtain ⟨a1, a2⟩ := rens_get ha
      obtain ⟨b1, b2⟩ := rens_get hb
      refine .clo (by rw [a1]; exact hn) (by rw [b1]; exact hm) (fun i d v hd hv => ?_) (fun i d v hd hv => ?_)
      · obtain ⟨c, hc, hr⟩ := a2 i d hd; exact ih i c v hc hv hr
      · obtain ⟨c, hc, hr⟩ := b2 i d hd; exact ih' i c v hc hv hr
    · cases hy

theorem Rel.ren {l : List (Nat × Nat)} {J' : Locs} (hJ : ∀ (j r v : Nat) (L : Loc), l[j]? = some (r, v) → J v = some L → J' j = some L) {x : AV} {v : Value} (h : Rel M J x v) :
    ∀ {y : AV}, Abs.ren l x = some y → Rel M J' y v := by
  induction h with
  | pure h => intro y hy; exact .pure (h.ren hy)
  | agg hn h1 _ ih =>
    intro y hy
    simp only [Abs.ren, Option.map_eq_some_iff] at hy
    obtain ⟨ds, hd, rfl⟩ := hy
    obtain ⟨a, b⟩ := rens_get hd
    refine .agg (by rw [a]; exact hn) h1 (fun i d v hd hv => ?_)
    obtain ⟨c, hc, hr⟩ := b i d hd
    exact ih i c v hc hv hr
  | tup hn _ ih =>
    intro y hy
    simp only [Abs.ren, Option.map_eq_some_iff] at hy
    obtain ⟨ds, hd, rfl⟩ := hy
    obtain ⟨a, b⟩ := rens_get hd
    refine .tup (by rw [a]; exact hn) (fun i d v hd hv => ?_)
    obtain ⟨c, hc, hr⟩ := b i d hd
    exact ih i c v hc hv hr
  | clo hn hm _ _ ih ih' =>
    intro y hy
    simp only [Abs.ren] at hy
    split at hy
    · rename_i a' b' ha hb
      obtain rfl := Option.some.inj hy
      obtain ⟨a1, a2⟩ := rens_get ha
      obtain ⟨b1, b2⟩ := rens_get hb
      refine .clo (by rw [a1]; exact hn) (by rw [b1]; exact hm) (fun i d v hd hv => ?_) (fun i d v hd hv => ?_)
      · obtain ⟨c, hc, hr⟩ := a2 i d hd; exact ih i c v hc hv hr
      · obtain ⟨c, hc, hr⟩ := b2 i d hd; exact ih' i c v hc hv hr
    · cases hy
  | own hL hl hN hA hc =>
    intro y hy
    simp only [Abs.ren, Option.map_eq_some_iff] at hy
    obtain ⟨j, hj, rfl⟩ := hy
    obtain ⟨_, h2⟩ := idx_get _ _ _ _ _ hj
    exact .own (hJ _ _ _ _ (by simpa using h2) hL) hl hN hA hc
  | ptr hL hN =>
    intro y hy
    simp only [Abs.ren, Option.map_eq_some_iff] at hy
    obtain ⟨j, hj, rfl⟩ := hy
    obtain ⟨_, h2⟩ := idx_get _ _ _ _ _ hj
    exact .ptr (hJ _ _ _ _ (by simpa using h2) hL) hN

theorem handed_get {l : List (Nat × Nat)} : ∀ {rest : List (Nat × Nat)} {j : Nat} {hs : List Blk}, handed s l rest j = some hs → hs.length = rest.length ∧ ∀ (i : Nat) (q : Blk), hs[i]? = some q →
    ∃ r v k, rest[i]? = some (r, v) ∧ get s.hp r = some k ∧ k.ver = v ∧ q = { k with ver := j + i, es := q.es } ∧ (k.box = true → rensL l k.es = some q.es) ∧ (k.box = false → q.es = k.es)
  | [], j, hs, h => by simp only [handed, Option.some.injEq] at h; subst h; simp
  | (r, v) :: rest, j, hs, h => by
    simp only [handed] at h
    split at h
    · rename_i k ks hk hks
      obtain ⟨a, b⟩ := handed_get hks
      split at h
      · rename_i hv
        have step : ∀ q0 : Blk, hs = q0 :: ks → q0 = { k with ver := j, es := q0.es } → (k.box = true → rensL l k.es = some q0.es) → (k.box = false → q0.es = k.es) →
            hs.length = rest.length + 1 ∧ ∀ (i : Nat) (q : Blk), hs[i]? = some q →
            ∃ r' v' k', ((r, v) :: rest)[i]? = some (r', v') ∧ get s.hp r' = some k' ∧ k'.ver = v' ∧ q = { k' with ver := j + i, es := q.es } ∧ (k'.box = true → rensL l k'.es = some q.es) ∧ (k'.box = false → q.es = k'.es) := by
          rintro q0 rfl h1 h2 h3
          refine ⟨by simp [a], fun i q hq => ?_⟩
          cases i with
          | zero => simp at hq; subst hq; exact ⟨r, v, k, rfl, hk, hv, by simpa using h1, h2, h3⟩
          | succ i =>
            obtain ⟨r', v', k', x1, x2, x3, x4, x5, x6⟩ := b i q (by simpa using hq)
            exact ⟨r', v', k', by simpa using x1, x2, x3, by rw [show j + (i + 1) = j + 1 + i by omega]; exact x4, x5, x6⟩
        split at h
        · rename_i hb
          rw [Option.map_eq_some_iff] at h
          obtain ⟨es, he, h⟩ := h
          exact step { k with ver := j, es := es } h.symm rfl (fun _ => he) (fun h => by rw [hb] at h; cases h)
        · rename_i hb
          exact step { k with ver := j } (Option.some.inj h).symm rfl (fun h => absurd h hb) (fun _ => rfl)
      · cases h
    · cases h

theorem Inv.hand (inv : Inv E M0 w0 c M J s tm w) {l : List (Nat × Nat)} {hs : List Blk} (h : handed s l l 0 = some hs) (hd : (l.map Prod.fst).Nodup) :
    ∃ J', Inv E M0 w0 hs.length M J' ⟨[], heapOf 0 hs, 0⟩ #[] w ∧ ∀ x y v, ren l x = some y → Rel M J x v → Rel M J' y v := by
  obtain ⟨hl, hg⟩ := handed_get h
  have hJ : ∀ (j r v : Nat) (L : Loc), l[j]? = some (r, v) → J v = some L → (fun j => (l[j]?).bind fun p => J p.2) j = some L := by
    intro j r v L h1 h2
    simp [h1, h2]
  have hget : ∀ (r : Nat) (k : Blk), get (heapOf 0 hs) r = some k → ∃ q r' v' k', hs[r]? = some q ∧ k = { q with ver := r } ∧ l[r]? = some (r', v') ∧ get s.hp r' = some k' ∧ k'.ver = v' ∧
      q = { k' with ver := r, es := q.es } ∧ (k'.box = true → rensL l k'.es = some q.es) ∧ (k'.box = false → q.es = k'.es) := by
    intro r k hk
    rw [get_heapOf, if_pos (Nat.zero_le _), Nat.sub_zero, Option.map_eq_some_iff] at hk
    obtain ⟨q, hq, rfl⟩ := hk
    obtain ⟨r', v', k', x1, x2, x3, x4, x5, x6⟩ := hg r q hq
    exact ⟨q, r', v', k', hq, rfl, x1, x2, x3, by simpa using x4, x5, x6⟩
  have hname : ∀ (i j r v v' : Nat), l[i]? = some (r, v) → l[j]? = some (r, v') → i = j := by
    intro i j r v v' hi hj
    have hi' : (l.map Prod.fst)[i]? = some r := by rw [List.getElem?_map, hi]; rfl
    have hj' : (l.map Prod.fst)[j]? = some r := by rw [List.getElem?_map, hj]; rfl
    obtain ⟨a, b⟩ := List.getElem?_eq_some_iff.1 hi'
    obtain ⟨a', b'⟩ := List.getElem?_eq_some_iff.1 hj'
    exact (List.getElem_inj hd).1 (b.trans b'.symm)
  refine ⟨_, ⟨inv.below, inv.mem, inv.newM, inv.oldM, inv.glob, fun t x h => by simp [get_nil, get_cons] at h, ?_, ?_, ?_, ?_⟩, fun x y v hy hr => hr.ren hJ hy⟩
  · intro r k hk
    obtain ⟨q, r', v', k', x1, rfl, x3, x4, x5, x6, x7, x8⟩ := hget r k hk
    obtain ⟨L, C, hL, hb, ok⟩ := inv.heap r' k' x4
    refine ⟨L, C, by show (l[r]?).bind _ = _; rw [x3]; simpa [← x5] using hL, hb, ?_⟩
    have e1 : q.ty = k'.ty := by rw [x6]
    have e2 : q.sz = k'.sz := by rw [x6]
    have e3 : q.frz = k'.frz := by rw [x6]
    have e4 : q.box = k'.box := by rw [x6]
    have hlen : q.es.length = k'.es.length := by
      cases hbx : k'.box
      · rw [x8 hbx]
      · exact (rensL_get (x7 hbx)).1
    refine ⟨fun hn => by rw [e1]; exact ok.blk hn, ok.none, by rw [e2]; exact ok.size, by rw [hlen]; exact ok.fits, by rw [e3, hlen]; exact ok.frz, by rw [e2]; exact ok.sz, ?_, ?_, ok.cap⟩
    · intro i e he
      show e.length = q.sz
      rw [e2]
      cases hbx : k'.box
      · exact ok.len i e (by rw [← x8 hbx]; exact he)
      · obtain ⟨c', hc', hr'⟩ := (rensL_get (x7 hbx)).2 i e he
        rw [(rens_get hr').1]; exact ok.len i c' hc'
    · intro i e j x he hx
      show ∃ u, C[i * q.sz + j]? = some u ∧ _
      rw [e2]
      show ∃ u, _ ∧ _ ∧ CellRel M _ q.box x u
      rw [e4]
      cases hbx : k'.box
      · obtain ⟨u, a1, a2, a3⟩ := ok.cell i e j x (by rw [← x8 hbx]; exact he) hx
        refine ⟨u, a1, a2, ?_⟩
        unfold CellRel at a3 ⊢; rw [hbx] at a3; simpa using a3
      · obtain ⟨c', hc', hr'⟩ := (rensL_get (x7 hbx)).2 i e he
        obtain ⟨y, hy, hry⟩ := (rens_get hr').2 j x hx
        obtain ⟨u, a1, a2, a3⟩ := ok.cell i c' j y hc' hy
        refine ⟨u, a1, a2, ?_⟩
        unfold CellRel at a3 ⊢; rw [hbx] at a3
        simp only [if_true] at a3 ⊢
        exact a3.ren hJ hry
  · intro r r' k k' L L' hk hk' hL hL' hN hN' hne
    obtain ⟨q, a, v, b, x1, rfl, x3, x4, x5, x6, x7, x8⟩ := hget r k hk
    obtain ⟨q', a', v', b', y1, rfl, y3, y4, y5, y6, y7, y8⟩ := hget r' k' hk'
    have hL1 : J b.ver = some L := by
      have : (l[r]?).bind (fun p => J p.2) = some L := hL
      rw [x3] at this; rw [x5]; simpa using this
    have hL2 : J b'.ver = some L' := by
      have : (l[r']?).bind (fun p => J p.2) = some L' := hL'
      rw [y3] at this; rw [y5]; simpa using this
    exact inv.apart a a' b b' L L' x4 y4 hL1 hL2 hN hN' (fun e => hne (by subst e; exact hname _ _ _ _ _ x3 y3))
  · intro r k L o u hk hL hN hu
    obtain ⟨q, a, v, b, x1, rfl, x3, x4, x5, x6, x7, x8⟩ := hget r k hk
    have hL1 : J b.ver = some L := by
      have : (l[r]?).bind (fun p => J p.2) = some L := hL
      rw [x3] at this; rw [x5]; simpa using this
    have := inv.owns a b L o u x4 hL1 hN hu
    show o < q.frz * q.sz
    rw [x6]; exact this
  · intro r L hL
    have : (l[r]?).bind (fun p => J p.2) = some L := hL
    cases h1 : l[r]? with
    | none => rw [h1] at this; simp at this
    | some p => rw [hl]; exact (List.getElem?_eq_some_iff.1 h1).1
end
end Go.Proofs.YtdgpilapblipbaaDoor.Abs
