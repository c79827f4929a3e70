/- A calculus over values: regions whose order is open, by one order of many. -/
import Derived.Test.YtdgpilapblipbaaDoorAbsDrawB
namespace Go.Proofs.YtdgpilapblipbaaDoor.Abs
open Go Go.RowKit
set_option linter.unusedSimpArgs false
set_option linter.unusedVariables false
namespace Ev
def onlyB (deps : List (List Nat)) (L : List Nat) (i : Nat) : Bool := (List.range deps.length).all fun j => j == i || !rdy deps L j
def freeB (hs : List FuncId) (l : List Ins) (deps : List (List Nat)) (L : List Nat) (i : Nat) (a : Ins) : Bool :=
  (List.range l.length).all fun j => j == i || L.contains j || (match l[j]? with
    | some b => (match deps[j]? with | some ds => ds.contains i | none => false) || (indep a b && (!loadsO a.op || !mutO hs b.op))
    | none => true)
def planOK (hs : List FuncId) (l : List Ins) (deps : List (List Nat)) : List Nat → List Nat → Bool
  | [], L => (List.range deps.length).all fun j => L.contains j
  | i :: rest, L => rdy deps L i && (onlyB deps L i || (match l[i]? with | some a => stillO a.op && a.dst.isSome && freeB hs l deps L i a | none => false)) && planOK hs l deps rest (i :: L)
def pick (l : List Ins) : List Nat → Option (List Ins)
  | [] => some []
  | i :: r => match l[i]?, pick l r with | some a, some q => some (a :: q) | _, _ => none
section
variable {E : Env} {T : Tab} {hs : List FuncId} {base nt : Nat} {l : List Ins} {deps : List (List Nat)} {Q : St → Prop}
theorem rdy_lt {L : List Nat} {j : Nat} (h : rdy deps L j = true) : j < deps.length := by
  unfold rdy at h; rw [Bool.and_eq_true] at h
  cases hg : deps[j]? with
  | none => rw [hg] at h; simp at h
  | some ds => exact (List.getElem?_eq_some_iff.1 hg).1
theorem planS : ∀ (plan : List Nat) {L : List Nat} {pl : List Ins} {sl : List (Nat × AV)} {hp : List (Nat × Blk)} {ct : Nat}, planOK hs l deps plan L = true → pick l plan = some pl →
    runE E T hs base pl sl hp ct Q → AnyS E T hs base l deps plan.length L sl hp ct Q
  | [], L, pl, sl, hp, ct, hp', hl, h => by
    simp only [pick, Option.some.injEq] at hl; subst hl
    simp only [runE, onlyK_eq] at h
    simp only [planOK, List.all_eq_true, List.mem_range] at hp'
    exact ⟨hp', h⟩
  | i :: rest, L, pl, sl, hp, ct, hpl, hl, h => by
    simp only [pick] at hl
    split at hl
    · rename_i a q ha hq
      obtain rfl := Option.some.inj hl
      simp only [runE] at h
      simp only [planOK, Bool.and_eq_true, Bool.or_eq_true] at hpl
      obtain ⟨⟨hr, hc⟩, hrest⟩ := hpl
      rcases hc with hc | hc
      · refine ⟨⟨i, hr⟩, fun j b hj hb => ?_⟩
        have : j = i := by
          have := List.all_eq_true.1 hc j (by rw [List.mem_range]; exact rdy_lt hj)
          rw [hj] at this; simpa using this
        subst this
        rw [ha] at hb; obtain rfl := Option.some.inj hb
        exact insE_move h (fun _ _ => rfl) (fun u hp' ct' _ _ h' => planS rest hrest hq h')
      · rw [ha] at hc
        simp only [Bool.and_eq_true] at hc
        obtain ⟨⟨hs', hd⟩, hf⟩ := hc
        obtain ⟨d, hd⟩ := Option.isSome_iff_exists.1 hd
        obtain ⟨x, sl1, e1, h1, hst⟩ := ins_still hd hs' h
        have h2 := AnyS_congr rest.length (fun _ => rfl) e1 (planS rest hrest hq h1)
        refine any_still ha hd rest.length (fun j b hj hjL hb hcd => ?_) hr hst h2
        have := List.all_eq_true.1 hf j (by rw [List.mem_range]; exact (List.getElem?_eq_some_iff.1 hb).1)
        rw [hb, hjL] at this
        simp only [Bool.or_eq_true, beq_iff_eq, hj, Bool.false_eq_true, false_or, or_false, Bool.and_eq_true, Bool.not_eq_true'] at this
        rcases this with this | this
        · split at this
          · rename_i ds hds; rw [hcd ds hds] at this; cases this
          · cases this
        · refine ⟨this.1, fun hl => ?_⟩
          rcases this.2 with h3 | h3
          · rw [hl] at h3; cases h3
          · exact h3
    · cases hl

section
variable {M0 : Mem} {w0 : World} {M : Mem} {J : Locs} {tm : Array Value} {w : World} {ops : Array Oper}
theorem insE_wp (hT : TabOK E.P T) {i : Nat} {o : Oper} {a : Ins} (ho : ops[i]? = some o) (ha : insOf ops (i, o) = some a) (hok : opsOK tm.size ops = true) {sl : List (Nat × AV)} {hp : List (Nat × Blk)} {ct : Nat} {R : List (Nat × AV) → List (Nat × Blk) → Nat → Prop}
    (h : insE E T hs base a sl hp ct R) (inv : Inv E M0 w0 ct M J ⟨sl, hp, ct⟩ tm w) {Qx : Exit → Act → World → Prop} {K : Act → World → Prop}
    (hk : ∀ a w' M' J' sl' hp' ct', R sl' hp' ct' → Inv E M0 w0 ct' M' J' ⟨sl', hp', ct'⟩ a.tmps w' → a.tmps.size = tm.size → a.defers = [] → K a w') : wpOp E.P ops Qx i K ⟨tm, []⟩ w := by
  have hd : ∀ t, o.dst = some t → t < tm.size := by
    intro t ht
    unfold opsOK at hok
    rw [List.all_eq_true] at hok
    have := hok o (by rw [Array.mem_toList_iff]; exact Array.mem_of_getElem? ho)
    rw [ht] at this; simpa using this
  unfold wpOp
  rw [ho]; simp only
  have go : ∀ {sl1 : List (Nat × AV)} {J1 : Locs} {M1 : Mem}, stepE E T hs (base + i * 8) o.op sl1 hp ct (fun x hp' ct' => putK o.dst x sl1 fun sl' => R sl' hp' ct') → Inv E M0 w0 ct M1 J1 ⟨sl1, hp, ct⟩ tm w → Oper.wp E.P o ⟨tm, []⟩ w K Qx := by
    intro sl1 J1 M1 h1 i1
    have h2 : opS E (base + i * 8) o ⟨sl1, hp, ct⟩ (fun s' => R s'.sl s'.hp s'.ctr) := stepE_sound hT h1 (fun x hp' ct' h' => by
      obtain ⟨sl', e, h''⟩ := putK_eq (hp := hp') (ct := ct') h'
      rw [e]; exact h'')
    exact opS_wp i1 h2 hd (fun a w' M' J' s' hr hi hsz hdf => hk a w' M' J' s'.sl s'.hp s'.ctr hr hi hsz hdf)
  have skip : ∀ {sl1 : List (Nat × AV)} {J1 : Locs} {M1 : Mem}, (putK o.dst (.v (.tuple #[])) sl1 fun sl' => R sl' hp ct) → Inv E M0 w0 ct M1 J1 ⟨sl1, hp, ct⟩ tm w → K ((⟨tm, []⟩ : Act).put o.dst undef) w := by
    intro sl1 J1 M1 h1 i1
    obtain ⟨sl', e, h2⟩ := putK_eq (hp := hp) (ct := ct) h1
    have i2 := Inv.put i1 (d := o.dst) (x := .v undef) (v := undef) (.pure (.v _)) hd (ds := [])
    have e' : St.put ⟨sl1, hp, ct⟩ o.dst (.v undef) = ⟨sl', hp, ct⟩ := e
    rw [e'] at i2
    exact hk _ _ _ _ sl' hp ct h2 i2 (put_sizeA ⟨tm, []⟩ o.dst undef) (put_defers ⟨tm, []⟩ o.dst undef)
  simp only [insOf] at ha
  split at ha
  · rename_i hg
    obtain rfl := Option.some.inj ha
    have : Region.wanted o (yielded ops tm) = true := by simp [Region.wanted, hg]
    rw [if_pos this]
    exact .inl (go h inv)
  · rename_i j want hg
    rw [Option.map_eq_some_iff] at ha
    obtain ⟨t, ht, rfl⟩ := ha
    simp only [insE] at h
    split at h
    · rename_i b hb
      obtain ⟨v, hv, hr⟩ := inv.slot t _ hb
      obtain rfl := hr.v_inv
      have hy : yielded ops tm j = some b := by simp [yielded, ht, hv]
      have hself : Inv E M0 w0 ct M J ⟨(t, .v (.bool b)) :: sl, hp, ct⟩ tm w := by
        refine { inv with slot := fun t' x' hx' => ?_ }
        rw [get_cons] at hx'
        split at hx'
        · rename_i e; subst e
          obtain rfl := Option.some.inj hx'
          exact ⟨_, hv, hr⟩
        · exact inv.slot t' x' hx'
      cases want <;> cases b
      · have : Region.wanted o (yielded ops tm) = true := by simp [Region.wanted, hg, hy]
        rw [if_pos this]; exact .inl (go h hself)
      · have : Region.wanted o (yielded ops tm) = false := by simp [Region.wanted, hg, hy]
        rw [if_neg (by rw [this]; simp)]; exact skip h hself
      · have : Region.wanted o (yielded ops tm) = false := by simp [Region.wanted, hg, hy]
        rw [if_neg (by rw [this]; simp)]; exact skip h hself
      · have : Region.wanted o (yielded ops tm) = true := by simp [Region.wanted, hg, hy]
        rw [if_pos this]; exact .inl (go h hself)
    · rename_i vs hb
      obtain ⟨v, hv, hr⟩ := inv.slot t _ hb
      obtain rfl := hr.v_inv
      have hy : yielded ops tm j = none := by simp [yielded, ht, hv]
      have : Region.wanted o (yielded ops tm) = false := by simp [Region.wanted, hg, hy]
      rw [if_neg (by rw [this]; simp)]; exact skip h inv
    · exact h.elim

theorem insL_get : ∀ {ps : List (Nat × Oper)} {l : List Ins}, insL ops ps = some l → ∀ (i : Nat) (p : Nat × Oper), ps[i]? = some p → ∃ a, l[i]? = some a ∧ insOf ops p = some a
  | [], l, h, i, p, hp => by simp at hp
  | q :: ps, l, h, i, p, hp => by
    simp only [insL] at h
    split at h
    · rename_i a r ha hr
      obtain rfl := Option.some.inj h
      cases i with
      | zero => simp at hp; subst hp; exact ⟨a, rfl, ha⟩
      | succ i => simpa using insL_get hr i p (by simpa using hp)
    · cases h

theorem AnyS_wp (hT : TabOK E.P T) (hl : insL ops (numbered ops) = some l) (hdep : deps = ops.toList.map direct) {K : Exit → St → Prop} (hK : ∀ s, Q s → K .normal s) :
    ∀ (n : Nat) {L : List Nat} {listed : Array Bool} {sl : List (Nat × AV)} {hp : List (Nat × Blk)} {ct : Nat} {M : Mem} {J : Locs} {tm : Array Value} {w : World}, opsOK tm.size ops = true → tm.size = nt → AnyS E T hs base l deps n L sl hp ct Q → Inv E M0 w0 ct M J ⟨sl, hp, ct⟩ tm w →
      listed.size = ops.size → (∀ i, i < ops.size → listed.getD i true = L.contains i) → (∀ i, L.contains i = true → i < ops.size) → wpAny E.P .any ops (Post E M0 w0 nt K) n listed ⟨tm, []⟩ w := by
  have hlen : deps.length = ops.size := by rw [hdep]; simp
  have key : ∀ {L : List Nat} {listed : Array Bool}, listed.size = ops.size → (∀ i, i < ops.size → listed.getD i true = L.contains i) → (∀ i, L.contains i = true → i < ops.size) → ∀ i, i ∈ Region.ready .any ops listed ↔ (rdy deps L i = true) := by
    intro L listed hsz hL hLb i
    rw [mem_ready]
    have gd : ∀ k d, k < ops.size → listed.getD k d = L.contains k := by
      intro k d hk
      rw [← hL k hk]
      rw [Array.getD_eq_getD_getElem?, Array.getD_eq_getD_getElem?, Array.getElem?_eq_getElem (by omega)]; rfl
    unfold rdy
    rw [hdep, List.getElem?_map, Array.getElem?_toList]
    constructor
    · rintro ⟨h0, o, ho, hall⟩
      have hlt : i < ops.size := (Array.getElem?_eq_some_iff.1 ho).1
      rw [ho]; simp only [Option.map_some, Bool.and_eq_true, Bool.not_eq_true']
      refine ⟨by rw [← gd i true hlt]; exact h0, ?_⟩
      rw [List.all_eq_true]
      intro k hk
      simp only [direct, List.mem_map, List.mem_filter, Array.mem_toList_iff] at hk
      obtain ⟨e, ⟨he, hb⟩, rfl⟩ := hk
      have := hall e he hb
      rcases Nat.lt_or_ge e.on ops.size with h' | h'
      · rw [gd _ _ h'] at this; exact this
      · rw [Array.getD_eq_getD_getElem?, Array.getElem?_eq_none (by omega)] at this; cases this
    · intro h
      rw [Bool.and_eq_true] at h
      cases ho : ops[i]? with
      | none => rw [ho] at h; simp at h
      | some o =>
        have hlt : i < ops.size := (Array.getElem?_eq_some_iff.1 ho).1
        rw [ho] at h
        simp only [Option.map_some, Bool.not_eq_true', List.all_eq_true] at h
        refine ⟨by rw [gd i true hlt]; exact h.1, o, rfl, fun e he hb => ?_⟩
        have := h.2 e.on (by simp only [direct, List.mem_map, List.mem_filter, Array.mem_toList_iff]; exact ⟨e, ⟨he, hb⟩, rfl⟩)
        rcases Nat.lt_or_ge e.on ops.size with h' | h'
        · rw [gd _ _ h']; exact this
        · have := hLb _ this; omega
  intro n
  induction n with
  | zero =>
    intro L listed sl hp ct M J tm w hok hnt h inv hsz hL hLb
    refine ⟨?_, _, M, J, hK _ h.2, inv.only E.keep, hnt, rfl⟩
    apply List.eq_nil_iff_forall_not_mem.2
    intro i hi
    rw [key hsz hL hLb] at hi
    have hlt := rdy_lt hi
    have := h.1 i hlt
    unfold rdy at hi; rw [this] at hi; simp at hi
  | succ n ih =>
    intro L listed sl hp ct M J tm w hok hnt h inv hsz hL hLb
    obtain ⟨⟨i0, hi0⟩, h⟩ := h
    refine ⟨fun he => ?_, fun i hi => ?_⟩
    · have := (key hsz hL hLb i0).2 hi0
      rw [he] at this; cases this
    · rw [key hsz hL hLb] at hi
      have hlt : i < ops.size := by rw [← hlen]; exact rdy_lt hi
      have ho : ops[i]? = some ops[i] := Array.getElem?_eq_getElem hlt
      obtain ⟨a, ha, hin⟩ := insL_get hl i (i, ops[i]) (by simp [numbered, hlt])
      refine insE_wp hT ho hin hok (h i a hi ha) inv (fun a' w' M' J' sl' hp' ct' hr hinv hs' hdf => ?_)
      obtain ⟨tm', ds'⟩ := a'
      simp only at hs' hdf hinv
      subst hdf
      refine ih (by rw [hs']; exact hok) (by rw [hs', hnt]) hr hinv (by simp [hsz]) (fun k hk => ?_) (fun k hk => ?_)
      rotate_left
      · rw [List.contains_cons, Bool.or_eq_true] at hk
        rcases hk with hk | hk
        · have : k = i := by simpa using hk
          omega
        · exact hLb k hk
      rw [List.contains_cons]
      by_cases e : k = i
      · subst e; simp [hsz, hlt]
      · rw [getD_set_ne true (Ne.symm e), hL k hk]; simp [e]
end
theorem Inv.drew {M0 : Mem} {w0 : World} {c : Nat} {M : Mem} {J : Locs} {s : St} {tm : Array Value} {w : World} (inv : Inv E M0 w0 c M J s tm w) : Inv E M0 w0 c M J s tm { w with drawn := w.drawn + 1 } :=
  { below := inv.below.drew, mem := inv.mem, newM := inv.newM, oldM := inv.oldM, glob := inv.glob, slot := inv.slot,
    heap := fun r k h => let ⟨L, C, a, b, ok⟩ := inv.heap r k h; ⟨L, C, a, b, ⟨ok.blk, ok.none, ok.size, ok.fits, ok.frz, ok.sz, ok.len, ok.cell, ok.cap⟩⟩,
    apart := inv.apart, owns := inv.owns, vers := inv.vers }
theorem comp_draw {c : Code} {id : Nat} {l : List Ins} {deps : List (List Nat)} (h : comp c = .draw id l deps) : ∃ ops, c = .region id ops true ∧ insL ops (numbered ops) = some l ∧ deps = ops.toList.map direct := by
  cases c
  case region id' ops dr =>
    cases dr <;> simp only [comp] at h <;> split at h
    · cases h
    · cases h
    · rename_i l' hl'
      injection h with h0 h1 h2
      subst h0; subst h1
      exact ⟨ops, rfl, hl', h2.symm⟩
    · cases h
  all_goals (simp only [comp] at h; cases h)
theorem k_draw (hT : TabOK E.P T) (hm : E.P.follows .mixedOrders = true) (plan : List Nat) {K : Exit → St → Prop} {sl : List (Nat × AV)} {hp : List (Nat × Blk)} {ct : Nat} {id : Nat} {pl : List Ins}
    (hplan : planOK hs l deps plan [] = true) (hlen : plan.length = deps.length) (hpick : pick l plan = some pl) (h : ∀ Q : St → Prop, (∀ s, K .normal s → Q s) → runE E T hs (E.N + id * 512) pl sl hp ct Q) :
    Wp E nt (.draw id l deps) K ⟨sl, hp, ct⟩ := by
  intro c' e hok M0 w0 M J tm w inv hnt
  obtain ⟨ops, rfl, hl, hdep⟩ := comp_draw e
  simp only [codeOK] at hok
  refine wp_region_any hm ?_
  have h1 := planS plan hplan hpick (h (K .normal) (fun _ h => h))
  have hn : plan.length = ops.size := by rw [hlen, hdep]; simp
  rw [hn] at h1
  exact AnyS_wp hT hl hdep (fun _ h => h) ops.size (by rw [hnt]; exact hok) hnt h1 (Inv.drew inv) (by simp) (fun i hi => by simp [hi]) (fun i hi => by simp at hi)
end
end Ev
end Go.Proofs.YtdgpilapblipbaaDoor.Abs
