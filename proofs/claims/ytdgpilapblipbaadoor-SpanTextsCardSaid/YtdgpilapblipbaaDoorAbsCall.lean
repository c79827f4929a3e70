/- A calculus over values: calls, and stores. -/
import Derived.Test.YtdgpilapblipbaaDoorAbsOne
namespace Go.Proofs.YtdgpilapblipbaaDoor.Abs
open Go Go.RowKit
set_option linter.unusedVariables false
set_option linter.unusedSimpArgs false

section
variable {E : Env} {M0 : Mem} {w0 : World} {c : Nat} {M : Mem} {J : Locs} {s : St} {tm : Array Value} {w : World} {K : AV → St → Prop} {ds : List Deferred} {nm ver : Nat}

theorem len_sound (inv : Inv E M0 w0 c M J s tm w) {a : AV} {u : Value} {n : Nat} {t ty : TypeId} (hr : Rel M J a u) (hn : lenOf a = some n)
    (ht : lenT E.P t a) :
    (Builtin.len_ #[t] ty #[u]).run E.P w = .ok (.int .i64 n) w := by
  have sl : ∀ {A cap}, u = .slice A n cap → (sle E.P t).isSome = true → (Builtin.len_ #[t] ty #[u]).run E.P w = .ok (.int .i64 n) w := by
    intro A cap e h
    obtain ⟨⟨e', z, m, b⟩, hs⟩ := Option.isSome_iff_exists.1 h
    obtain ⟨hu, _⟩ := sle_some hs
    subst e
    simp [Builtin.len_, run_underlying hu, goInt]
  unfold lenOf at hn
  split at hn
  · obtain rfl := Option.some.inj hn
    have := hr.lst_inv
    cases this with | lst uu hn' hc hz hA hM hx => subst hn'; exact sl rfl ht
  · obtain rfl := Option.some.inj hn
    obtain rfl := hr.v_inv
    exact sl rfl ht
  · obtain rfl := Option.some.inj hn
    obtain ⟨L, A, rfl, _⟩ := hr.own_inv
    exact sl rfl ht
  · obtain rfl := Option.some.inj hn
    obtain rfl := hr.v_inv
    have ht' : E.P.underlying t = some .string := ht
    simp [Builtin.len_, run_underlying ht', goInt]
  · cases hn

theorem news_of_elems (inv : Inv E M0 w0 c M J s tm w) {a : AV} {u : Value} {ys : List (List AV)} (hr : Rel M J a u) (h : elems s a = some ys) {n : Nat} (hn : 0 < n) (hlen : ∀ y ∈ ys, y.length = n) :
    ∃ news, News E.P w n u ys.length news ∧ NewsOK M n ys news := by
  obtain ⟨A, cap, sz, rfl, hc, hz, hA, hcell⟩ := elems_rel inv hr h
  rcases Nat.eq_zero_or_pos ys.length with h0 | h0
  · have : ys = [] := List.eq_nil_of_length_eq_zero h0
    subst this
    refine ⟨[], ⟨by simp [Builtin.lenOf], ?_, ?_, by simp, by simp⟩, ⟨by simp, by simp, by simp⟩⟩ <;>
    · cases A <;> simp [Builtin.firstCells, loadCells, loadCellsFrom]
  · obtain ⟨b, o, rfl⟩ := hA (by intro e; subst e; simp at h0)
    have hsz : sz = n := by
      obtain ⟨e, he⟩ : ∃ e, ys[0]? = some e := ⟨_, List.getElem?_eq_getElem h0⟩
      rw [← hz 0 e he, hlen e (List.mem_of_getElem? he)]
    subst hsz
    have hx : ∀ k, k < ys.length * sz → ∃ v, w.cell? ⟨b, o + k, none⟩ = some v ∧ v.oneCell' = true := by
      intro k hk
      have hq : k / sz < ys.length := (Nat.div_lt_iff_lt_mul hn).2 hk
      obtain ⟨e, he⟩ : ∃ e, ys[k / sz]? = some e := ⟨_, List.getElem?_eq_getElem hq⟩
      obtain ⟨x, hx⟩ : ∃ x, e[k % sz]? = some x := ⟨_, List.getElem?_eq_getElem (by rw [hz _ _ he]; exact Nat.mod_lt _ hn)⟩
      obtain ⟨v, h1, h2, _⟩ := hcell b o _ e _ x rfl he hx
      rw [Nat.add_assoc, Nat.div_add_mod' k sz] at h1
      exact ⟨v, h1, h2⟩
    have hf : ∃ f : Nat → Value, ∀ k, k < ys.length * sz → w.cell? ⟨b, o + k, none⟩ = some (f k) ∧ (f k).oneCell' = true :=
      ⟨fun k => if h : k < ys.length * sz then Classical.choose (hx k h) else undef, fun k hk => by simp only [dif_pos hk]; exact Classical.choose_spec (hx k hk)⟩
    obtain ⟨f, hf⟩ := hf
    have hl : ((List.range (ys.length * sz)).map f).length = ys.length * sz := by simp
    have hg : ∀ k, k < ys.length * sz → ((List.range (ys.length * sz)).map f)[k]? = some (f k) := by
      intro k hk; rw [List.getElem?_map, List.getElem?_range hk]; rfl
    have hrd : ∀ w' : World, (∀ k, w'.cell? ⟨b, o + k, none⟩ = w.cell? ⟨b, o + k, none⟩) → (Builtin.firstCells sz ys.length (.slice (some ⟨b, o, none⟩) ys.length cap)).run E.P w' = .ok ((List.range (ys.length * sz)).map f).toArray w' := by
      intro w' hw
      refine run_firstCells_some (P := E.P) w' sz ys.length ⟨b, o, none⟩ ys.length cap _ hl (fun j v hj => ?_)
      have hj' : j < ys.length * sz := by rw [← hl]; exact (List.getElem?_eq_some_iff.1 hj).1
      rw [hg j hj'] at hj
      rw [toAdd, hw, (hf j hj').1]; exact hj
    refine ⟨(List.range (ys.length * sz)).map f, ⟨by simp [Builtin.lenOf], hrd w (fun _ => rfl), hrd w.drew (fun _ => rfl), hl, fun u hu => ?_⟩, ⟨fun i e he => hlen e (List.mem_of_getElem? he), hl, fun i e j x he hx => ?_⟩⟩
    · rw [List.mem_map] at hu
      obtain ⟨k, hk, rfl⟩ := hu
      exact (hf k (by simpa using hk)).2
    · obtain ⟨v, h1, h2, h3⟩ := hcell b o i e j x rfl he hx
      have hi := (List.getElem?_eq_some_iff.1 he).1
      have hj : j < sz := by rw [← hz i e he]; exact (List.getElem?_eq_some_iff.1 hx).1
      have hlt : i * sz + j < ys.length * sz := by
        have : (i + 1) * sz ≤ ys.length * sz := Nat.mul_le_mul_right _ hi
        rw [Nat.add_mul] at this; omega
      have h4 := (hf (i * sz + j) hlt).1
      rw [← Nat.add_assoc, h1] at h4
      exact ⟨v, by rw [hg _ hlt, Option.some.inj h4], h2, h3⟩

theorem news_of_string (b : ByteArray) {n : Nat} (hn : 0 < n) (hlen : ∀ y ∈ bytesAV b, y.length = n) :
    ∃ news, News E.P w n (.string b) (bytesAV b).length news ∧ NewsOK M n (bytesAV b) news := by
  have hl : (bytesAV b).length = b.size := by simp [bytesAV]
  have hex : b.extract 0 b.size = b := by simp
  have hcells : ∀ w : World, (Builtin.firstCells n (bytesAV b).length (.string b)).run E.P w = .ok (b.data.toList.map fun c => Value.int .u8 c.toNat).toArray w := by
    intro w
    rw [hl]
    simp only [Builtin.firstCells, hex, Sem.run_pure]
    congr 1
    apply Array.ext'; simp
  refine ⟨b.data.toList.map fun c => .int .u8 c.toNat, ⟨by rw [hl]; simp [Builtin.lenOf], hcells w, hcells w.drew, ?_, ?_⟩, ⟨fun i e he => hlen e (List.mem_of_getElem? he), ?_, ?_⟩⟩
  · rcases Nat.eq_zero_or_pos b.size with h0 | h0
    · rw [hl, h0, List.length_map, Array.length_toList]; rw [show b.data.size = b.size from rfl, h0]; simp
    · have h1 : n = 1 := by
        obtain ⟨e, he⟩ : ∃ e, (bytesAV b)[0]? = some e := ⟨_, List.getElem?_eq_getElem (by omega)⟩
        obtain ⟨_, rfl⟩ := bytesAV_get he
        exact (hlen _ (List.mem_of_getElem? he)).symm
      subst h1; rw [hl]; simp
  · intro u hu
    rw [List.mem_map] at hu
    obtain ⟨c, _, rfl⟩ := hu; rfl
  · rcases Nat.eq_zero_or_pos b.size with h0 | h0
    · rw [hl, h0, List.length_map, Array.length_toList]; rw [show b.data.size = b.size from rfl, h0]; simp
    · have h1 : n = 1 := by
        obtain ⟨e, he⟩ : ∃ e, (bytesAV b)[0]? = some e := ⟨_, List.getElem?_eq_getElem (by omega)⟩
        obtain ⟨_, rfl⟩ := bytesAV_get he
        exact (hlen _ (List.mem_of_getElem? he)).symm
      subst h1; rw [hl]; simp
  · intro i e j x he hx
    have h1 : n = 1 := by
      obtain ⟨_, rfl⟩ := bytesAV_get he
      exact (hlen _ (List.mem_of_getElem? he)).symm
    subst h1
    obtain ⟨hi, rfl⟩ := bytesAV_get he
    cases j with
    | zero =>
      simp at hx; subst hx
      refine ⟨.int .u8 (b[i]'hi).toNat, ?_, rfl, .v _⟩
      rw [Nat.mul_one, Nat.add_zero, List.getElem?_map, List.getElem?_eq_getElem (by simpa using hi)]; rfl
    | succ j => simp at hx

theorem not_int {P : Program} {t : TypeId} (h : (sle P t).isSome = true) : ∃ d, P.underlying t = some d ∧ ∀ k, d ≠ .int k := by
  obtain ⟨⟨e', z, m, b⟩, hs⟩ := Option.isSome_iff_exists.1 h
  obtain ⟨hu, _⟩ := sle_some hs
  exact ⟨_, hu, fun k h => by cases h⟩

theorem get_heapOf : ∀ (hs : List Blk) (j r : Nat), get (heapOf j hs) r = if j ≤ r then (hs[r - j]?).map fun k => { k with ver := r } else none
  | [], j, r => by simp [heapOf, get_nil, get_cons]
  | k :: ks, j, r => by
    simp only [heapOf, get_nil, get_cons]
    rw [get_heapOf ks (j + 1) r]
    by_cases h : r = j
    · subst h; simp
    · rw [if_neg h]
      by_cases h1 : j ≤ r
      · rw [if_pos (by omega), if_pos h1, show r - j = (r - (j + 1)) + 1 by omega, List.getElem?_cons_succ]
      · rw [if_neg (by omega), if_neg h1]

theorem adds_sl : ∀ (hs : List Blk) (nm ver j : Nat) (s : St), (s.adds nm ver j hs).sl = s.sl
  | [], _, _, _, _ => rfl
  | k :: ks, nm, ver, j, s => by simp only [St.adds]; rw [adds_sl ks]
theorem adds_ctr : ∀ (hs : List Blk) (nm ver j : Nat) (s : St), (s.adds nm ver j hs).ctr = s.ctr
  | [], _, _, _, _ => rfl
  | k :: ks, nm, ver, j, s => by simp only [St.adds]; rw [adds_ctr ks]
theorem get_adds : ∀ (hs : List Blk) (nm ver j : Nat) (s : St) (r : Nat), get (s.adds nm ver j hs).hp r =
    match get s.hp r with | some k => some k | none => if nm + j ≤ r then (hs[r - (nm + j)]?).map fun k => k.shift nm ver (r - nm) else none
  | [], nm, ver, j, s, r => by simp only [St.adds]; cases get s.hp r <;> simp
  | k :: ks, nm, ver, j, s, r => by
    simp only [St.adds]
    rw [get_adds ks nm ver (j + 1)]
    simp only [get_append]
    cases hr : get s.hp r with
    | some q => rfl
    | none =>
      simp only
      by_cases h : r = nm + j
      · subst h
        rw [if_pos rfl, if_pos (Nat.le_refl _)]
        simp
      · rw [if_neg h]
        by_cases h1 : nm + j ≤ r
        · rw [if_pos h1, if_pos (by omega), show r - (nm + j) = (r - (nm + (j + 1))) + 1 by omega, List.getElem?_cons_succ]
        · rw [if_neg h1, if_neg (by omega)]

theorem shifts_get : ∀ (cs : List AV) (nm ver i : Nat), (shifts nm ver cs)[i]? = (cs[i]?).map (shift nm ver)
  | [], _, _, _ => by simp [shifts]
  | c :: cs, nm, ver, i => by
    cases i with
    | zero => simp [shifts]
    | succ i => simp only [shifts, List.getElem?_cons_succ]; exact shifts_get cs nm ver i
theorem shifts_length : ∀ (cs : List AV) (nm ver : Nat), (shifts nm ver cs).length = cs.length
  | [], _, _ => rfl
  | c :: cs, nm, ver => by simp [shifts, shifts_length cs]

theorem PRel.shift {M : Mem} {x : AV} {v : Value} (h : PRel M x v) (nm ver : Nat) : PRel M (Abs.shift nm ver x) v := by
  induction h with
  | v x => exact .v x
  | agg hn h1 _ ih =>
    refine .agg (by rw [shifts_length]; exact hn) h1 (fun i c v hc hv => ?_)
    rw [shifts_get, Option.map_eq_some_iff] at hc
    obtain ⟨c', hc', rfl⟩ := hc
    exact ih i c' v hc' hv
  | tup hn _ ih =>
    refine .tup (by rw [shifts_length]; exact hn) (fun i c v hc hv => ?_)
    rw [shifts_get, Option.map_eq_some_iff] at hc
    obtain ⟨c', hc', rfl⟩ := hc
    exact ih i c' v hc' hv
  | lst u hn hc hz hA hM h _ => exact .lst u hn hc hz hA hM h
  | rptr u hM h _ => exact .rptr u hM h
  | clo hn hm _ _ ih ih' =>
    refine .clo (by rw [shifts_length]; exact hn) (by rw [shifts_length]; exact hm) (fun i c v hc hv => ?_) (fun i c v hc hv => ?_)
    · rw [shifts_get, Option.map_eq_some_iff] at hc
      obtain ⟨c', hc', rfl⟩ := hc
      exact ih i c' v hc' hv
    · rw [shifts_get, Option.map_eq_some_iff] at hc
      obtain ⟨c', hc', rfl⟩ := hc
      exact ih' i c' v hc' hv

theorem Rel.shift {M : Mem} {J J' : Locs} {nm ver : Nat} (hJ : ∀ j L, J j = some L → J' (ver + j) = some L) {x : AV} {v : Value} (h : Rel M J x v) : Rel M J' (Abs.shift nm ver x) v := by
  induction h with
  | pure h => exact .pure (h.shift nm ver)
  | agg hn h1 _ ih =>
    refine .agg (by rw [shifts_length]; exact hn) h1 (fun i c v hc hv => ?_)
    rw [shifts_get, Option.map_eq_some_iff] at hc
    obtain ⟨c', hc', rfl⟩ := hc
    exact ih i c' v hc' hv
  | tup hn _ ih =>
    refine .tup (by rw [shifts_length]; exact hn) (fun i c v hc hv => ?_)
    rw [shifts_get, Option.map_eq_some_iff] at hc
    obtain ⟨c', hc', rfl⟩ := hc
    exact ih i c' v hc' hv
  | clo hn hm _ _ ih ih' =>
    refine .clo (by rw [shifts_length]; exact hn) (by rw [shifts_length]; exact hm) (fun i c v hc hv => ?_) (fun i c v hc hv => ?_)
    · rw [shifts_get, Option.map_eq_some_iff] at hc
      obtain ⟨c', hc', rfl⟩ := hc
      exact ih i c' v hc' hv
    · rw [shifts_get, Option.map_eq_some_iff] at hc
      obtain ⟨c', hc', rfl⟩ := hc
      exact ih' i c' v hc' hv
  | own hL hl hN hA hc => exact .own (hJ _ _ hL) hl hN hA hc
  | ptr hL hN => exact .ptr (hJ _ _ hL) hN

/-- What a call hands back is the caller's. -/
theorem Inv.merge (inv : Inv E M0 w0 c M J s tm w) (hv : c ≤ ver) {hs : List Blk} (hfree : free s.hp nm hs.length) {M' : Mem} {J1 : Locs} {w' : World}
    (cal : Inv E M w hs.length M' J1 ⟨[], heapOf 0 hs, 0⟩ #[] w') :
    ∃ J', SubJ J J' ∧ (∀ j L, J1 j = some L → J' (ver + j) = some L) ∧ Sub M M' ∧ Inv E M0 w0 (ver + hs.length) M' J' (s.adds nm ver 0 hs) tm w' := by
  have hsub : Sub M M' := cal.oldM
  have hJ : SubJ J (fun r => if ver ≤ r then J1 (r - ver) else J r) := by
    intro r L h
    have := inv.vers r L h
    show (if ver ≤ r then J1 (r - ver) else J r) = some L
    rw [if_neg (by omega)]; exact h
  have hJ1 : ∀ j L, J1 j = some L → (fun r => if ver ≤ r then J1 (r - ver) else J r) (ver + j) = some L := by
    intro j L h
    show (if ver ≤ ver + j then J1 (ver + j - ver) else J (ver + j)) = some L
    rw [if_pos (by omega), Nat.add_sub_cancel_left]; exact h
  have hold : ∀ r k, get s.hp r = some k → k.ver < ver := by
    intro r k hk
    obtain ⟨L, C, hL, _⟩ := inv.heap r k hk
    have := inv.vers _ _ hL; omega
  have hfree' : ∀ n, free s.hp nm n → ∀ j, j < n → get s.hp (nm + j) = none := by
    intro n
    induction n with
    | zero => intro _ j hj; omega
    | succ n ih =>
      intro hf j hj
      rcases Nat.lt_or_ge j n with h | h
      · exact ih hf.2 j h
      · have : j = n := by omega
        subst this; exact hf.1
  have hget : ∀ r k, get (s.adds nm ver 0 hs).hp r = some k → (get s.hp r = some k ∧ k.ver < ver) ∨
      ∃ (j : Nat) (q : Blk), r = nm + j ∧ hs[j]? = some q ∧ k = q.shift nm ver j ∧ get (heapOf 0 hs) j = some { q with ver := j } := by
    intro r k hk
    rw [get_adds] at hk
    cases h : get s.hp r with
    | some y => rw [h] at hk; simp at hk; subst hk; exact .inl ⟨rfl, hold r _ h⟩
    | none =>
      rw [h] at hk; simp only [Nat.add_zero] at hk
      split at hk
      · rename_i hr
        rw [Option.map_eq_some_iff] at hk
        obtain ⟨q, hq, rfl⟩ := hk
        exact .inr ⟨r - nm, q, by omega, hq, rfl, by rw [get_heapOf, if_pos (Nat.zero_le _), Nat.sub_zero, hq]; rfl⟩
      · cases hk
  refine ⟨_, hJ, hJ1, hsub, ⟨inv.below.trans (cal.below.mono inv.below.size), cal.mem, ?_, fun b o u h => hsub _ _ _ (inv.oldM b o u h), cal.glob, ?_, ?_, ?_, ?_, ?_⟩⟩
  · intro b o u h
    rcases cal.newM b o u h with h | h
    · exact inv.newM b o u h
    · have := inv.below.size; exact .inr (by omega)
  · intro t x hx
    rw [adds_sl] at hx
    obtain ⟨v, h1, h2⟩ := inv.slot t x hx
    exact ⟨v, h1, h2.mono hsub hJ⟩
  · intro r k hk
    rcases hget r k hk with ⟨h1, h2⟩ | ⟨j, q, rfl, hq, rfl, hh⟩
    · obtain ⟨L, C, hL, hb, ok⟩ := inv.heap r k h1
      exact ⟨L, C, hJ _ _ hL, hb, (ok.mono hsub hJ).world fun hn => cal.below.block _ (lt_of_blk ok hn)⟩
    · obtain ⟨L, C, hL, hb, ok⟩ := cal.heap j _ hh
      refine ⟨L, C, hJ1 j L hL, fun hn => by have := hb hn; have := inv.below.size; omega, ⟨ok.blk, ok.none, ok.size, ?_, ?_, ok.sz, ?_, ?_, ok.cap⟩⟩
      · have := ok.fits; simp only [Blk.shift]; split <;> simpa using this
      · have := ok.frz; simp only [Blk.shift]; split <;> simpa using this
      · intro i e he
        simp only [Blk.shift] at he ⊢
        split at he
        · rw [List.getElem?_map, Option.map_eq_some_iff] at he
          obtain ⟨e', he', rfl⟩ := he
          rw [shifts_length]; exact ok.len i e' he'
        · exact ok.len i e he
      · intro i e j' x he hx
        simp only [Blk.shift] at he ⊢
        split at he
        · rename_i hbox
          rw [List.getElem?_map, Option.map_eq_some_iff] at he
          obtain ⟨e', he', rfl⟩ := he
          rw [shifts_get, Option.map_eq_some_iff] at hx
          obtain ⟨x', hx', rfl⟩ := hx
          obtain ⟨u, a1, a2, a3⟩ := ok.cell i e' j' x' he' hx'
          exact ⟨u, a1, a2, by unfold CellRel; rw [if_pos hbox]; exact a3.rel.shift hJ1⟩
        · rename_i hbox
          obtain ⟨u, a1, a2, a3⟩ := ok.cell i e j' x he hx
          refine ⟨u, a1, a2, ?_⟩
          unfold CellRel at a3 ⊢
          rw [if_neg hbox]
          simp only at a3
          rw [if_neg hbox] at a3; exact a3
  · have side : ∀ (r : Nat) (k : Blk) (L : Loc) (j : Nat) (q : Blk) (L' : Loc), get s.hp r = some k → k.ver < ver → (if ver ≤ k.ver then J1 (k.ver - ver) else J k.ver) = some L → get (heapOf 0 hs) j = some { q with ver := j } → J1 j = some L' → L.nil = false → L'.nil = false → L.b ≠ L'.b := by
      intro r k L j q L' h1 h2 hL hh hL' hn hn'
      rw [if_neg (by omega)] at hL
      obtain ⟨L1, C1, e1, _, ok⟩ := inv.heap r k h1
      rw [e1] at hL; obtain rfl := Option.some.inj hL
      obtain ⟨L2, C2, e2, hb, _⟩ := cal.heap j _ hh
      have e2' : J1 j = some L2 := e2
      rw [e2'] at hL'; obtain rfl := Option.some.inj hL'
      have := lt_of_blk ok hn; have := hb hn'; omega
    intro r r' k k' L L' hk hk' hL hL' hN hN' hne
    rcases hget r k hk with ⟨h1, n1⟩ | ⟨j, q, rfl, hq, rfl, hh⟩ <;> rcases hget r' k' hk' with ⟨h2, n2⟩ | ⟨j', q', rfl, hq', rfl, hh'⟩
    · change (if ver ≤ k.ver then J1 (k.ver - ver) else J k.ver) = some L at hL
      change (if ver ≤ k'.ver then J1 (k'.ver - ver) else J k'.ver) = some L' at hL'
      rw [if_neg (by omega)] at hL hL'
      exact inv.apart r r' k k' L L' h1 h2 hL hL' hN hN' hne
    · have hL2 : J1 j' = some L' := by
        change (if ver ≤ ver + j' then J1 (ver + j' - ver) else J (ver + j')) = some L' at hL'
        rw [if_pos (by omega), Nat.add_sub_cancel_left] at hL'; exact hL'
      exact side r k L j' q' L' h1 n1 hL hh' hL2 hN hN'
    · have hL2 : J1 j = some L := by
        change (if ver ≤ ver + j then J1 (ver + j - ver) else J (ver + j)) = some L at hL
        rw [if_pos (by omega), Nat.add_sub_cancel_left] at hL; exact hL
      exact fun e => side r' k' L' j q L h2 n2 hL' hh hL2 hN' hN e.symm
    · have hL1 : J1 j = some L := by
        change (if ver ≤ ver + j then J1 (ver + j - ver) else J (ver + j)) = some L at hL
        rw [if_pos (by omega), Nat.add_sub_cancel_left] at hL; exact hL
      have hL2 : J1 j' = some L' := by
        change (if ver ≤ ver + j' then J1 (ver + j' - ver) else J (ver + j')) = some L' at hL'
        rw [if_pos (by omega), Nat.add_sub_cancel_left] at hL'; exact hL'
      exact cal.apart j j' { q with ver := j } { q' with ver := j' } L L' hh hh' hL1 hL2 hN hN' (fun e => hne (by rw [e]))
  · intro r k L o u hk hL hN hu
    rcases hget r k hk with ⟨h1, n1⟩ | ⟨j, q, rfl, hq, rfl, hh⟩
    · change (if ver ≤ k.ver then J1 (k.ver - ver) else J k.ver) = some L at hL
      rw [if_neg (by omega)] at hL
      obtain ⟨L1, C1, e1, _, ok⟩ := inv.heap r k h1
      rw [e1] at hL; obtain rfl := Option.some.inj hL
      rcases cal.newM _ _ _ hu with h | h
      · exact inv.owns r k _ o u h1 e1 hN h
      · have := lt_of_blk ok hN; omega
    · have hL1 : J1 j = some L := by
        change (if ver ≤ ver + j then J1 (ver + j - ver) else J (ver + j)) = some L at hL
        rw [if_pos (by omega), Nat.add_sub_cancel_left] at hL; exact hL
      exact cal.owns j { q with ver := j } L o u hh hL1 hN hu
  · intro r L h
    split at h
    · have := cal.vers _ L h; omega
    · have := inv.vers r L h; omega
end
end Go.Proofs.YtdgpilapblipbaaDoor.Abs
