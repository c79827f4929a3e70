/- A calculus over values: bodies that are reckoned, loops, ends. -/
import Derived.Test.YtdgpilapblipbaaDoorAbsEvs
namespace Go.Proofs.YtdgpilapblipbaaDoor.Abs
open Go
set_option linter.unusedSimpArgs false
set_option linter.unusedVariables false
namespace Ev
section
variable {E : Env} {T : Tab} {hs : List FuncId} {nt : Nat}
theorem onlyK_eq (sl : List (Nat × AV)) : ∀ (ks : List Nat) (acc : List (Nat × AV)) (Q : List (Nat × AV) → Prop), onlyK sl ks acc Q = Q (onlyA sl ks acc)
  | [], acc, Q => rfl
  | k :: ks, acc, Q => by
    simp only [onlyK, onlyA]
    cases get sl k with
    | none => exact onlyK_eq sl ks acc Q
    | some x => exact onlyK_eq sl ks _ Q
theorem putK_eq {d : Option Tmp} {x : AV} {sl : List (Nat × AV)} {hp : List (Nat × Blk)} {ct : Nat} {Q : List (Nat × AV) → Prop} (h : putK d x sl Q) : ∃ sl', St.put ⟨sl, hp, ct⟩ d x = ⟨sl', hp, ct⟩ ∧ Q sl' := by
  cases d with
  | none => exact ⟨_, rfl, h⟩
  | some t => exact ⟨_, rfl, h⟩
variable (hT : TabOK E.P T)
include hT
theorem runE_sound {base : Nat} : ∀ (l : List Ins) {sl : List (Nat × AV)} {hp : List (Nat × Blk)} {ct : Nat} {Q Q' : St → Prop}, runE E T hs base l sl hp ct Q → (∀ s, Q s → Q' s) → runk E base l ⟨sl, hp, ct⟩ Q'
  | [], sl, hp, ct, Q, Q', h, hq => by
    simp only [runE, onlyK_eq] at h
    exact hq _ h
  | ⟨i, d, op, none⟩ :: rest, sl, hp, ct, Q, Q', h, hq => by
    simp only [runE, insE] at h
    simp only [runk]
    refine stepE_sound hT h (fun x hp' ct' h' => ?_)
    obtain ⟨sl', e, h''⟩ := putK_eq (hp := hp') (ct := ct') h'
    rw [e]; exact runE_sound rest h'' hq
  | ⟨i, d, op, some (t, want)⟩ :: rest, sl, hp, ct, Q, Q', h, hq => by
    simp only [runE, insE] at h
    simp only [runk]
    split at h
    · rename_i b hb
      simp only [hb]
      have go : ∀ {sl1 : List (Nat × AV)}, stepE E T hs (base + i * 8) op sl1 hp ct (fun x hp' ct' => putK d x sl1 fun sl' => runE E T hs base rest sl' hp' ct' Q) →
          opD E (base + i * 8) d op ⟨sl1, hp, ct⟩ fun s' => runk E base rest s' Q' := by
        intro sl1 h1
        refine stepE_sound hT h1 (fun x hp' ct' h' => ?_)
        obtain ⟨sl', e, h''⟩ := putK_eq (hp := hp') (ct := ct') h'
        rw [e]; exact runE_sound rest h'' hq
      have skip : ∀ {sl1 : List (Nat × AV)}, putK d (.v (.tuple #[])) sl1 (fun sl' => runE E T hs base rest sl' hp ct Q) → runk E base rest (St.put ⟨sl1, hp, ct⟩ d (.v undef)) Q' := by
        intro sl1 h1
        obtain ⟨sl', e, h''⟩ := putK_eq (hp := hp) (ct := ct) h1
        show runk E base rest (St.put ⟨sl1, hp, ct⟩ d (.v (.tuple #[]))) Q'
        rw [e]; exact runE_sound rest h'' hq
      split at h
      · exact ⟨fun e => go (brK_t h e), fun e => skip (brK_f h e)⟩
      · exact ⟨fun e => go (brK_f h e), fun e => skip (brK_t h e)⟩
    · rename_i vs hb
      simp only [hb]
      obtain ⟨sl', e, h''⟩ := putK_eq (hp := hp) (ct := ct) h
      show runk E base rest (St.put ⟨sl, hp, ct⟩ d (.v (.tuple #[]))) Q'
      rw [e]; exact runE_sound rest h'' hq
    · exact h.elim

omit hT
/-- A piece of code, and what is wanted behind it. -/
def Wp (E : Env) (nt : Nat) (c : CC) (K : Exit → St → Prop) (s : St) : Prop := WPk E nt c K s
theorem Wp.mono {c : CC} {K K' : Exit → St → Prop} {s : St} (h : Wp E nt c K s) (hk : ∀ e s, K e s → K' e s) : Wp E nt c K' s := WPk.mono h hk
theorem k_ghost {c : CC} {K : Exit → St → Prop} {s : St} (s' : St) (hg : Gh E s s') (h : Wp E nt c K s') : Wp E nt c K s := WPk.ghost hg h
theorem k_skip {K : Exit → St → Prop} {s : St} (h : K .normal s) : Wp E nt .skip K s := WPk.of h
theorem k_ret {K : Exit → St → Prop} {s : St} (h : K .ret s) : Wp E nt .ret K s := WPk.of h
theorem k_exit {K : Exit → St → Prop} {s : St} {i : Nat} (h : K (.exit i) s) : Wp E nt (.exit i) K s := WPk.of h
theorem k_seq {K : Exit → St → Prop} {s : St} {a b : CC} (h : Wp E nt a (thenK (Wp E nt b K) K) s) : Wp E nt (.seq a b) K s := by
  refine WPk.seq (WPk.mono h (fun e s' h' => ?_))
  cases e <;> simp only [thenK] at h' ⊢
  case normal => exact ⟨s', Gh.refl, h'⟩
  all_goals exact h'
theorem comp_cond {c : Code} {x : Operand} {d e : CC} (h : comp c = .cond x d e) : ∃ a b, c = .cond x a b ∧ comp a = d ∧ comp b = e := by
  cases c
  case cond y a b => simp only [comp] at h; injection h with h0 h1 h2; subst h0; exact ⟨a, b, rfl, h1, h2⟩
  case region id ops dr => cases dr <;> simp only [comp] at h <;> split at h <;> cases h
  all_goals (simp only [comp] at h; cases h)
theorem comp_block {c : Code} {i : Nat} {d : CC} (h : comp c = .block i d) : ∃ a, c = .block i a ∧ comp a = d := by
  cases c
  case block j a => simp only [comp] at h; injection h with h0 h1; subst h0; exact ⟨a, rfl, h1⟩
  case region id ops dr => cases dr <;> simp only [comp] at h <;> split at h <;> cases h
  all_goals (simp only [comp] at h; cases h)
theorem k_block {K : Exit → St → Prop} {s : St} {i : Nat} {b : CC} (h : Wp E nt b (blockK i K) s) : Wp E nt (.block i b) K s := by
  intro c' e hok
  obtain ⟨a, rfl, rfl⟩ := comp_block e
  simp only [codeOK] at hok
  intro M0 w0 M J tm w inv hs
  refine wp_block (wp_mono (h a rfl hok M0 w0 M J tm w inv hs) ?_)
  rintro e a w' ⟨s', M', J', hk, hi, hz, hd⟩
  cases e <;> simp only [Exit.inBlock]
  case exit i =>
    simp only [blockK] at hk
    split
    · rename_i e; rw [if_pos e] at hk; exact ⟨s', M', J', hk, hi, hz, hd⟩
    · rename_i e; rw [if_neg e] at hk; exact ⟨s', M', J', hk, hi, hz, hd⟩
  all_goals exact ⟨s', M', J', hk, hi, hz, hd⟩
theorem k_cond {K : Exit → St → Prop} {sl : List (Nat × AV)} {hp : List (Nat × Blk)} {ct : Nat} {c : Operand} {a b : CC} {t : Bool} (hc : operE E sl c = some (.v (.bool t)))
    (h : brC t (Wp E nt a K ⟨sl, hp, ct⟩) (Wp E nt b K ⟨sl, hp, ct⟩)) : Wp E nt (.cond c a b) K ⟨sl, hp, ct⟩ := by
  intro c' e hok
  obtain ⟨a', b', rfl, rfl, rfl⟩ := comp_cond e
  simp only [codeOK, Bool.and_eq_true] at hok
  intro M0 w0 M J tm w inv hs
  rw [operE_eq hp ct] at hc
  have hv := (inv.oper (ds := []) hc).v_inv
  refine wp_cond_split hv (fun e => ?_) (fun e => ?_)
  · exact brC_t h e a' rfl hok.1 M0 w0 M J tm w inv hs
  · exact brC_f h e b' rfl hok.2 M0 w0 M J tm w inv hs
theorem k_reg (hT : TabOK E.P T) {K : Exit → St → Prop} {sl : List (Nat × AV)} {hp : List (Nat × Blk)} {ct : Nat} {id : Nat} {l : List Ins} (h : ∀ Q : St → Prop, (∀ s, K .normal s → Q s) → runE E T hs (E.N + id * 512) l sl hp ct Q) :
    Wp E nt (.reg id l) K ⟨sl, hp, ct⟩ := WPk.of (by simp only [wpk]; exact runE_sound hT l (h _ (fun _ h => h)) (fun _ h => h))
/-- It is one of these, told so or with less. -/
def To (E : Env) (J : St → Prop) (s : St) : Prop := ∃ s2, Gh E s s2 ∧ J s2
theorem to {J : St → Prop} {s : St} (s2 : St) (hs : subs s.sl s2.sl) (hh : subs s.hp s2.hp) (hc : s.ctr ≤ s2.ctr) (hI : J s2) : To E J s := ⟨s2, Gh.sub hs hh hc, hI⟩
theorem To.ghost {J : St → Prop} {s s' : St} (hg : Gh E s s') (h : To E J s') : To E J s := let ⟨s2, a, b⟩ := h; ⟨s2, hg.trans a, b⟩
/-- Ways that meet. -/
theorem join (J : St → Prop) {K : Exit → St → Prop} {s : St} {a b : CC} (h : Wp E nt a (thenK (To E J) K) s) (h' : ∀ s, J s → Wp E nt b K s) : Wp E nt (.seq a b) K s := by
  refine WPk.seq (WPk.mono h (fun e s' h1 => ?_))
  cases e <;> simp only [thenK] at h1 ⊢
  case normal => obtain ⟨s2, g, h2⟩ := h1; exact ⟨s2, g, h' _ h2⟩
  all_goals exact h1
theorem t_norm {f : St → Prop} {K : Exit → St → Prop} {s : St} (h : f s) : thenK f K .normal s := h
theorem t_ret {f : St → Prop} {K : Exit → St → Prop} {s : St} (h : K .ret s) : thenK f K .ret s := h
theorem t_exit {f : St → Prop} {K : Exit → St → Prop} {s : St} {i : Nat} (h : K (.exit i) s) : thenK f K (.exit i) s := h
theorem b_norm {K : Exit → St → Prop} {s : St} {i : Nat} (h : K .normal s) : blockK i K .normal s := h
theorem b_ret {K : Exit → St → Prop} {s : St} {i : Nat} (h : K .ret s) : blockK i K .ret s := h
theorem b_here {K : Exit → St → Prop} {s : St} {i : Nat} (h : K .normal s) : blockK i K (.exit i) s := by simp only [blockK, if_true]; exact h
theorem b_off {K : Exit → St → Prop} {s : St} {i j : Nat} (hne : Nat.beq j i = false) (h : K (.exit j) s) : blockK i K (.exit j) s := by
  have : j ≠ i := Nat.ne_of_beq_eq_false hne
  simp only [blockK, if_neg this]; exact h
/-- One round more. -/
def Again (E : Env) (I : Nat → St → Prop) (n : Nat) (s : St) : Prop := To E (fun s => ∃ m, m < n ∧ I m s) s
theorem loop {d : CC} {K : Exit → St → Prop} {s : St} (I : Nat → St → Prop) (h0 : To E (fun s => ∃ n, I n s) s)
    (round : ∀ n s1, I n s1 → Wp E nt d (thenK (Again E I n) K) s1) : Wp E nt (.loop d) K s := by
  intro c' e hok
  obtain ⟨c, rfl, rfl⟩ := comp_loop e
  simp only [codeOK] at hok
  intro M0 w0 M J tm w inv hs
  obtain ⟨s0, hg, n0, hI⟩ := h0
  obtain ⟨M', J', i0⟩ := hg M0 w0 M J tm w inv
  refine wp_loop_ghost (fun n a w => ∃ s M J, I n s ∧ Inv E M0 w0 s.ctr M J s a.tmps w ∧ a.tmps.size = nt ∧ a.defers = []) n0 ⟨s0, M', J', hI, i0, hs, rfl⟩ ?_
  rintro n ⟨tm', ds'⟩ w' ⟨s1, M1, J1, hI1, i1, hz, hd⟩
  simp only at hd; subst hd
  refine wp_mono (round n s1 hI1 c rfl hok M0 w0 M1 J1 tm' w' i1 hz) ?_
  rintro e a w'' ⟨s2, M2, J2, hk, i2, hz2, hd2⟩
  cases e <;> simp only [Exit.then]
  case normal =>
    obtain ⟨s3, hg3, m, hm, hI3⟩ := hk
    obtain ⟨M3, J3, i3⟩ := hg3 M0 w0 M2 J2 a.tmps w'' i2
    exact ⟨m, hm, s3, M3, J3, hI3, i3, hz2, hd2⟩
  all_goals exact ⟨s2, M2, J2, hk, i2, hz2, hd2⟩
theorem again {I : Nat → St → Prop} {n : Nat} {s : St} (m : Nat) (s2 : St) (hm : m < n) (hs : subs s.sl s2.sl) (hh : subs s.hp s2.hp) (hc : s.ctr ≤ s2.ctr) (hI : I m s2) : Again E I n s :=
  ⟨s2, Gh.sub hs hh hc, m, hm, hI⟩
theorem w_run {base : Nat} {l : List Ins} {sl : List (Nat × AV)} {hp : List (Nat × Blk)} {ct : Nat} {Q : St → Prop} (h : runE E T hs base l sl hp ct Q) : runE E T hs base l sl hp ct Q := h
theorem w_step {nm : Nat} {op : Op} {sl : List (Nat × AV)} {hp : List (Nat × Blk)} {ct : Nat} {K : AV → List (Nat × Blk) → Nat → Prop} (h : stepE E T hs nm op sl hp ct K) : stepE E T hs nm op sl hp ct K := h
theorem w_put {d : Option Tmp} {x : AV} {sl : List (Nat × AV)} {Q : List (Nat × AV) → Prop} (h : putK d x sl Q) : putK d x sl Q := h
theorem w_opt {o : Option AV} {K : AV → Prop} (h : optK o K) : optK o K := h

theorem slot_int {l : List (Nat × AV)} {t : Nat} {k : IntKind} {a b : Int} (h : get l t = some (.v (.int k a))) (e : a = b) : get l t = some (.v (.int k b)) := by rw [h, e]
theorem slot_eq {α : Type} {l : List (Nat × α)} {t : Nat} {a b : α} (h : get l t = some a) (e : a = b) : get l t = some b := by rw [h, e]
/-- A call whose result is known. -/
def plainA : Nat → AV → Bool
  | 0, _ => false
  | n + 1, .agg cs => cs.all (plainA n)
  | n + 1, .tup cs => cs.all (plainA n)
  | n + 1, .clo _ a b => a.all (plainA n) && b.all (plainA n)
  | _ + 1, .own _ _ _ _ => false
  | _ + 1, .ptr _ _ _ _ => false
  | _ + 1, _ => true
theorem shifts_eq (nm ct : Nat) : ∀ cs, shifts nm ct cs = cs.map (shift nm ct)
  | [] => by simp [shifts]
  | c :: cs => by simp [shifts, shifts_eq nm ct cs]
theorem shift_plain (nm ct : Nat) : ∀ (n : Nat) (x : AV), plainA n x = true → shift nm ct x = x
  | 0, x, h => by simp [plainA] at h
  | n + 1, x, h => by
    have all : ∀ cs : List AV, cs.all (plainA n) = true → shifts nm ct cs = cs := by
      intro cs hc
      rw [shifts_eq]
      rw [List.all_eq_true] at hc
      have : cs.map (shift nm ct) = cs.map id := List.map_congr_left (fun a ha => shift_plain nm ct n a (hc a ha))
      rw [this, List.map_id]
    cases x with
    | v x => simp [shift]
    | lst s xs => simp [shift]
    | rptr xs => simp [shift]
    | own r v o l => simp [plainA] at h
    | ptr r v i o => simp [plainA] at h
    | agg cs => simp only [plainA] at h; simp [shift, all cs h]
    | tup cs => simp only [plainA] at h; simp [shift, all cs h]
    | clo f a b => simp only [plainA, Bool.and_eq_true] at h; simp [shift, all a h.1, all b h.2]
theorem call_det {f : FuncId} {args args' : List AV} {hp : List (Nat × Blk)} {nm ct : Nat} {K : AV → List (Nat × Blk) → Nat → Prop} {X : AV} (hc : CallW E f args' fun r hs => r = X ∧ hs = []) (ha : args = args') (hX : plainA 6 X = true) (h : K X hp ct) :
    CallX E f args hp nm ct K := by
  subst ha
  refine ⟨hc.mono ?_⟩
  rintro r hs ⟨rfl, rfl⟩
  refine ⟨by simp, trivial, ?_⟩
  rw [shift_plain nm ct 6 _ hX]; exact h
theorem call_of {f : FuncId} {args args' : List AV} {hp : List (Nat × Blk)} {nm ct : Nat} {K : AV → List (Nat × Blk) → Nat → Prop} {R : AV → List Blk → Prop} (hc : CallW E f args' R) (ha : args = args')
    (h : ∀ r hs, R r hs → hs.length ≤ 8 ∧ free hp nm hs.length ∧ K (shift nm ct r) (St.adds nm ct 0 hs ⟨[], hp, 0⟩).hp (ct + hs.length)) : CallX E f args hp nm ct K := by
  subst ha; exact ⟨hc.mono h⟩

theorem call_own {f : FuncId} {args args' : List AV} {hp : List (Nat × Blk)} {nm ct : Nat} {K : AV → List (Nat × Blk) → Nat → Prop} {X : AV} {H : List Blk} (hc : CallW E f args' fun r hs => r = X ∧ hs = H) (ha : args = args') (h8 : H.length ≤ 8) (hf : free hp nm H.length)
    (h : K (shift nm ct X) (St.adds nm ct 0 H ⟨[], hp, 0⟩).hp (ct + H.length)) : CallX E f args hp nm ct K := by
  subst ha
  refine ⟨hc.mono ?_⟩
  rintro r hs ⟨rfl, rfl⟩
  exact ⟨h8, hf, h⟩
def Fin (p : Prop) : Prop := p
theorem fin {p : Prop} (h : p) : Fin p := h
/-- The end of a function that hands back values. -/
def FinP (rs : List ResultVar) (s : St) (T : Tab) (R : AV → List Blk → Prop) : Prop :=
  resK s.sl s.hp rs fun xs => pursK s.sl s.hp xs fun ys _ => Fin (R (resOf ys) [])
where
  resK (sl : List (Nat × AV)) (hp : List (Nat × Blk)) : List ResultVar → (List AV → Prop) → Prop
  | [], K => K []
  | .tmp t :: l, K => (match get sl t with | some a => resK sl hp l fun r => K (a :: r) | none => False)
  | .cell a t :: l, K => (match get sl a with | some p => cellsE hp p fun cs => partE T t cs fun x => resK sl hp l fun r => K (x :: r) | none => False)
theorem resK_sound {E : Env} (hT : TabOK E.P T) {sl : List (Nat × AV)} {hp : List (Nat × Blk)} {ct : Nat} : ∀ (l : List ResultVar) {K : List AV → Prop}, FinP.resK T sl hp l K → ∃ xs, resAV E ⟨sl, hp, ct⟩ l = some xs ∧ K xs
  | [], K, h => ⟨[], rfl, h⟩
  | .tmp t :: l, K, h => by
    simp only [FinP.resK] at h
    split at h
    · rename_i a ha
      obtain ⟨r, hr, h⟩ := resK_sound hT (ct := ct) l h
      exact ⟨_, by simp only [resAV, ha, hr], h⟩
    · exact h.elim
  | .cell a t :: l, K, h => by
    simp only [FinP.resK] at h
    split at h
    · rename_i p hp'
      obtain ⟨cs, hcs, h⟩ := cellsE_sound (sl := sl) (ct := ct) h
      obtain ⟨x, hx, h⟩ := partE_sound hT h
      obtain ⟨r, hr, h⟩ := resK_sound hT (ct := ct) l h
      exact ⟨_, by simp only [resAV, hp', hr, hcs, hx], h⟩
    · exact h.elim
def FinP' (rs : List ResultVar) (s : St) (T : Tab) (R : AV → List Blk → Prop) (F : Prop → Prop) : Prop :=
  FinP.resK T s.sl s.hp rs fun xs => pursK s.sl s.hp xs fun ys _ => F (R (resOf ys) [])
theorem FinP'_fin {rs : List ResultVar} {s : St} {T : Tab} {R : AV → List Blk → Prop} (h : FinP' rs s T R Fin) : FinP rs s T R := h
def EndP (T : Tab) (rs : List ResultVar) (R : AV → List Blk → Prop) : Exit → St → Prop
  | .normal, s => FinP rs s T R
  | .ret, s => FinP rs s T R
  | _, _ => False
theorem func {E0 : Env} {T : Tab} (hT : TabOK E0.P T) (keep : List Nat) (N : Nat) {f : FuncId} {fn : Func} {c : Code} {args : List AV} {R : AV → List Blk → Prop} (hf : E0.P.funcs[f]? = some fn) (hb : fn.body = some c)
    (hname : (fn.name == "runtime.NumGoroutine") = false) (hnt : args.length ≤ fn.ntmps) (hok : codeOK fn.ntmps c = true) {cc : CC} (hcc : comp c = cc) {rs : List ResultVar} (hrs : fn.results.toList = rs)
    (h : Wp { E0 with keep := keep, N := N } fn.ntmps cc (EndP T rs R) ⟨params 0 args, [], 0⟩) : CallW E0 f args R := by
  refine CallW.pureW keep N hf hb hname hnt hrs (WP.mono (h c hcc hok) (fun e s h' => ?_))
  have fin : FinP rs s T R → endP { E0 with keep := keep, N := N } rs s R := by
    intro h'
    obtain ⟨xs, h1, h2⟩ := resK_sound (E := { E0 with keep := keep, N := N }) hT (ct := s.ctr) rs h'
    unfold endP
    have h1' : resAV { E0 with keep := keep, N := N } s rs = some xs := h1
    rw [h1']
    exact pursK_sound (sl := s.sl) (ct := s.ctr) _ h2 (fun ys hp' h => h)
  cases e with
  | normal => exact ⟨.inl rfl, fin h'⟩
  | ret => exact ⟨.inr rfl, fin h'⟩
  | _ => exact h'.elim
/-- The end of a function that hands back rows of its own: the rows' names are told. -/
def FinO (l : List (Nat × Nat)) (rs : List ResultVar) (s : St) (T : Tab) (R : AV → List Blk → Prop) : Prop :=
  FinP.resK T s.sl s.hp rs fun xs => (match handed s l l 0, rens l xs with | some hs, some ys => Fin (R (resOf ys) hs) | _, _ => False)
def FinL (T : Tab) (rs : List ResultVar) (s : St) (R : AV → List Blk → Prop) : Prop := ∃ l : List (Nat × Nat), (l.map Prod.fst).Nodup ∧ FinO l rs s T R
def EndO (T : Tab) (rs : List ResultVar) (R : AV → List Blk → Prop) : Exit → St → Prop
  | .normal, s => FinL T rs s R
  | .ret, s => FinL T rs s R
  | _, _ => False
theorem eo_norm {T : Tab} {rs : List ResultVar} {R : AV → List Blk → Prop} {s : St} (h : FinL T rs s R) : EndO T rs R .normal s := h
theorem eo_ret {T : Tab} {rs : List ResultVar} {R : AV → List Blk → Prop} {s : St} (h : FinL T rs s R) : EndO T rs R .ret s := h
theorem finL {T : Tab} {rs : List ResultVar} {R : AV → List Blk → Prop} {s : St} (l : List (Nat × Nat)) (hl : (l.map Prod.fst).Nodup) (h : ∀ F : Prop → Prop, (∀ p, p → F p) → FinP.resK T s.sl s.hp rs fun xs => (match handed s l l 0, rens l xs with | some hs, some ys => F (R (resOf ys) hs) | _, _ => False)) : FinL T rs s R :=
  ⟨l, hl, h Fin (fun _ h => h)⟩
theorem funcO {E0 : Env} {T : Tab} (hT : TabOK E0.P T) (keep : List Nat) (N : Nat) {f : FuncId} {fn : Func} {c : Code} {args : List AV} {R : AV → List Blk → Prop} (hf : E0.P.funcs[f]? = some fn) (hb : fn.body = some c)
    (hname : (fn.name == "runtime.NumGoroutine") = false) (hnt : args.length ≤ fn.ntmps) (hok : codeOK fn.ntmps c = true) {cc : CC} (hcc : comp c = cc) {rs : List ResultVar} (hrs : fn.results.toList = rs)
    (h : Wp { E0 with keep := keep, N := N } fn.ntmps cc (EndO T rs R) ⟨params 0 args, [], 0⟩) : CallW E0 f args R := by
  refine CallW.ownW keep N hf hb hname hnt hrs (WP.mono (h c hcc hok) (fun e s h' => ?_))
  have fin : FinL T rs s R → endO { E0 with keep := keep, N := N } rs s R := by
    rintro ⟨l, hl, h'⟩
    obtain ⟨xs, h1, h2⟩ := resK_sound (E := { E0 with keep := keep, N := N }) hT (ct := s.ctr) rs h'
    unfold endO
    have h1' : resAV { E0 with keep := keep, N := N } s rs = some xs := h1
    rw [h1']
    split at h2
    · rename_i hs' ys a b
      exact ⟨l, hs', ys, hl, a, b, h2⟩
    · exact h2.elim
  cases e with
  | normal => exact ⟨.inl rfl, fin h'⟩
  | ret => exact ⟨.inr rfl, fin h'⟩
  | _ => exact h'.elim
theorem wrap64 (n : Int) : IntKind.i64.wrap n = (n + 9223372036854775808) % 18446744073709551616 - 9223372036854775808 := by
  have e1 : (2 : Int) ^ 64 = 18446744073709551616 := by decide
  have e2 : (2 : Int) ^ (64 - 1) = 9223372036854775808 := by decide
  simp only [IntKind.wrap, IntKind.signed, IntKind.bits, Bool.true_and, decide_eq_true_eq, e1, e2]
  split <;> omega
theorem wrap8 (n : Int) : IntKind.u8.wrap n = n % 256 := by
  simp [IntKind.wrap, IntKind.signed, IntKind.bits]
theorem wrap32 (n : Int) : IntKind.i32.wrap n = (n + 2147483648) % 4294967296 - 2147483648 := by
  have e1 : (2 : Int) ^ 32 = 4294967296 := by decide
  have e2 : (2 : Int) ^ (32 - 1) = 2147483648 := by decide
  simp only [IntKind.wrap, IntKind.signed, IntKind.bits, Bool.true_and, decide_eq_true_eq, e1, e2]
  split <;> omega
theorem e_norm {T : Tab} {rs : List ResultVar} {R : AV → List Blk → Prop} {s : St} (h : ∀ F : Prop → Prop, (∀ p, p → F p) → FinP' rs s T R F) : EndP T rs R .normal s := FinP'_fin (h Fin (fun _ h => h))
theorem e_ret {T : Tab} {rs : List ResultVar} {R : AV → List Blk → Prop} {s : St} (h : ∀ F : Prop → Prop, (∀ p, p → F p) → FinP' rs s T R F) : EndP T rs R .ret s := FinP'_fin (h Fin (fun _ h => h))
def fdAll (P : Program) (t : TypeId) : Nat → List (Nat × TypeId × Nat) → Prop
  | _, [] => True
  | j, x :: l => fld P t j = some x ∧ fdAll P t (j + 1) l
theorem fdAll_get {P : Program} {t : TypeId} : ∀ {l : List (Nat × TypeId × Nat)} {j : Nat}, fdAll P t j l → ∀ f x, l[f]? = some x → fld P t (j + f) = some x
  | [], j, _, f, x, h => by simp at h
  | y :: l, j, ha, f, x, h => by
    cases f with
    | zero => simp at h; subst h; exact ha.1
    | succ f => have := fdAll_get ha.2 f x (by simpa using h); rw [show j + (f + 1) = j + 1 + f by omega]; exact this
end
end Ev
end Go.Proofs.YtdgpilapblipbaaDoor.Abs
