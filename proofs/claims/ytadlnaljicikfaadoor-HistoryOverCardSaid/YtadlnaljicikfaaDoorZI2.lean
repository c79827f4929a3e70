/- A part of the proof: a calculus over values, and contracts of functions. No condition. -/
import Derived.Test.YtadlnaljicikfaaDoorZI1
set_option linter.unusedVariables false
set_option linter.unusedSimpArgs false
namespace Go.Proofs.YtadlnaljicikfaaDoor.Abs
open Go
def Le (a b : AV) : Prop := ∀ (M : Mem) (v : Value), PRel M a v → PRel M b v
def LeR (a b : AV) : Prop := ∀ (M : Mem) (J : Locs) (v : Value), Rel M J a v → Rel M J b v
theorem Le.refl (a : AV) : Le a a := fun _ _ h => h
theorem LeR.refl (a : AV) : LeR a a := fun _ _ _ h => h
theorem PRel.nil_lst (M : Mem) (sz : Nat) : PRel M (.lst sz []) (.slice none 0 0) :=
  .lst (fun _ _ => undef) rfl (Nat.le_refl _) (fun i e h => by simp at h) (fun h => absurd rfl h) (fun b o i e j c h => by cases h) (fun i e j c h => by simp at h)
theorem Le.nil (sz : Nat) : Le (.v (.slice none 0 0)) (.lst sz []) := fun M v h => by cases h; exact PRel.nil_lst M sz
theorem LeR.nil (sz : Nat) : LeR (.v (.slice none 0 0)) (.lst sz []) := fun M J v h => by
  have := h.v_inv
  subst this
  exact .pure (PRel.nil_lst M sz)
theorem LeR.tup {cs cs' : List AV} (hn : cs.length = cs'.length) (h : ∀ (i : Nat) (c c' : AV), cs[i]? = some c → cs'[i]? = some c' → LeR c c') : LeR (.tup cs) (.tup cs') := by
  intro M J v hr
  have get : ∀ (i : Nat) (c' : AV), cs'[i]? = some c' → ∃ c, cs[i]? = some c := fun i c' hc' => by
    have := (List.getElem?_eq_some_iff.1 hc').1
    exact ⟨cs[i]'(by omega), List.getElem?_eq_getElem (by omega)⟩
  cases hr with
  | pure hp =>
    cases hp with
    | tup h1 h2 =>
      refine .tup (by omega) (fun i c v hc hv => ?_)
      obtain ⟨c0, hc0⟩ := get i c hc
      exact h i c0 c hc0 hc M J v (.pure (h2 i c0 v hc0 hv))
  | tup h1 h2 =>
    refine .tup (by omega) (fun i c v hc hv => ?_)
    obtain ⟨c0, hc0⟩ := get i c hc
    exact h i c0 c hc0 hc M J v (h2 i c0 v hc0 hv)
theorem LeR.tup2 {a a' b b' : AV} (h : LeR a a') (h' : LeR b b') : LeR (.tup [a, b]) (.tup [a', b']) :=
  LeR.tup rfl (fun i c c' hc hc' => by
    rcases i with _ | _ | i
    · simp at hc hc'; subst hc; subst hc'; exact h
    · simp at hc hc'; subst hc; subst hc'; exact h'
    · simp at hc)
theorem CallW.args {E : Env} {f : FuncId} {args args' : List AV} {R : AV → List Blk → Prop} (h : CallW E f args' R) (hn : args.length = args'.length)
    (hle : ∀ (i : Nat) (x x' : AV), args[i]? = some x → args'[i]? = some x' → Le x x') : CallW E f args R := by
  intro M w vs hm hg hs hr
  refine h M w vs hm hg (by omega) (fun i x' v hx' hv => ?_)
  have hlt := (List.getElem?_eq_some_iff.1 hx').1
  have hx : args[i]? = some (args[i]'(by omega)) := List.getElem?_eq_getElem (by omega)
  exact hle i _ _ hx hx' M v (hr i _ v hx hv)
theorem CallW.res {E : Env} {f : FuncId} {args : List AV} {R R' : AV → List Blk → Prop} (h : CallW E f args R) (hr : ∀ r hs, R r hs → ∃ r', R' r' hs ∧ LeR r r') : CallW E f args R' := by
  intro M w vs hm hg hn hrel
  obtain ⟨h1, h2⟩ := h M w vs hm hg hn hrel
  refine ⟨h1, h2.mono ?_⟩
  rintro e w' ⟨v, r, hs, M', J', a, b, c, d⟩
  obtain ⟨r', b', l⟩ := hr _ _ b
  exact ⟨v, r', hs, M', J', a, b', c, l _ _ _ d⟩
theorem CallW.res_eq {E : Env} {f : FuncId} {args : List AV} {X Y : AV} {H : List Blk} (h : CallW E f args fun r hs => r = X ∧ hs = H) (hl : LeR X Y) : CallW E f args fun r hs => r = Y ∧ hs = H :=
  h.res (fun r hs ⟨a, b⟩ => ⟨Y, ⟨rfl, b⟩, by rw [a]; exact hl⟩)
theorem startH {E0 E : Env} (hG : E0.G = E.G) {M0 : Bas} {w0 : World} {c : Nat} {M : Mem} {J : Locs} {w : World} {hp : List (Nat × Blk)} {args : List AV} {vs : Array Value} {n : Nat}
    (inv : Inv E0 M0 w0 c M J ⟨[], hp, 0⟩ #[] w) (hn : vs.size = args.length) (hr : ∀ (i : Nat) (x : AV) (v : Value), args[i]? = some x → vs[i]? = some v → Rel M J x v) :
    Inv E ⟨M, J, M0.x, []⟩ w0 c M J ⟨params 0 args, hp, c⟩ (vs ++ Array.replicate n undef) w := by
  refine ⟨inv.below, inv.mem, fun _ _ _ h => .inl h, fun _ _ _ h => h, fun g cs h => inv.glob g cs (by rw [hG]; exact h), fun t x h => ?_, inv.heap, inv.apart, inv.owns, inv.vers, fun r L h => h, inv.far⟩
  simp only [get_params, Nat.zero_le, if_true, Nat.sub_zero] at h
  have hlt : t < vs.size := by rw [hn]; exact (List.getElem?_eq_some_iff.1 h).1
  exact ⟨vs[t], by rw [Array.getElem?_append_left hlt]; simp [hlt], hr t x _ h (by simp [hlt])⟩
namespace Ev
def FinH (T : Tab) (rs : List ResultVar) (s : St) (R : AV → List (Nat × Blk) → Prop) : Prop := FinP.resK T s.sl s.hp rs fun xs => Fin (R (resOf xs) s.hp)
def FinH' (rs : List ResultVar) (s : St) (T : Tab) (R : AV → List (Nat × Blk) → Prop) (F : Prop → Prop) : Prop := FinP.resK T s.sl s.hp rs fun xs => F (R (resOf xs) s.hp)
def EndH (T : Tab) (rs : List ResultVar) (R : AV → List (Nat × Blk) → Prop) : Exit → St → Prop
  | .normal, s => FinH T rs s R
  | .ret, s => FinH T rs s R
  | _, _ => False
theorem eh_norm {T : Tab} {rs : List ResultVar} {R : AV → List (Nat × Blk) → Prop} {s : St} (h : ∀ F : Prop → Prop, (∀ p, p → F p) → FinH' rs s T R F) : EndH T rs R .normal s := h Fin (fun _ h => h)
theorem eh_ret {T : Tab} {rs : List ResultVar} {R : AV → List (Nat × Blk) → Prop} {s : St} (h : ∀ F : Prop → Prop, (∀ p, p → F p) → FinH' rs s T R F) : EndH T rs R .ret s := h Fin (fun _ h => h)
theorem funcH {E0 : Env} {T : Tab} (hT : TabOK E0.P T) (keep : List Nat) (N : Nat) {f : FuncId} {fn : Func} {c : Code} {args : List AV} {hp : List (Nat × Blk)} {R : AV → List (Nat × Blk) → Prop} (hf : E0.P.funcs[f]? = some fn) (hb : fn.body = some c)
    (hname : (fn.name == "runtime.NumGoroutine") = false) (hnt : args.length ≤ fn.ntmps) (hok : codeOK fn.ntmps c = true) {cc : CC} (hcc : comp c = cc) {rs : List ResultVar} (hrs : fn.results.toList = rs)
    (h : ∀ ct, Wp { E0 with keep := keep, N := N } fn.ntmps cc (EndH T rs R) ⟨params 0 args, hp, ct⟩) : HCallW E0 N f args hp R := by
  subst hrs
  intro M0 w0 ct M J w vs inv hn hr
  refine ⟨run_callFunc hf hb hname w, ?_⟩
  refine calls_of_wp hf hb ?_
  refine wp_mono (h ct c hcc hok ⟨M, J, M0.x, []⟩ w0 M J (vs ++ Array.replicate (fn.ntmps - vs.size) undef) w (startH (args := args) (hp := hp) (E0 := E0) (E := { E0 with keep := keep, N := N }) rfl inv hn hr) (by simp [hn]; omega)) ?_
  rintro e a w' ⟨s', M1, J1, hk, i1, hz, hd⟩
  have fin : FinH T fn.results.toList s' R → ∃ v, (results fn a.tmps).run E0.P w' = .ok v w' ∧ ∃ r, R r s'.hp ∧ Rel M1 J1 r v := by
    intro h'
    obtain ⟨xs, h1, h2⟩ := resK_sound (E := { E0 with keep := keep, N := N }) hT (ct := s'.ctr) fn.results.toList h'
    obtain ⟨vs', h3, h4, h5⟩ := results_sound i1 (fn := fn) h1
    exact ⟨_, h3, _, h2, resOf_rel (R := Rel M1 J1) (fun xs vs a b => .tup a b) h4 h5⟩
  have out : FinH T fn.results.toList s' R → a.defers = [] ∧ ∃ v, (results fn a.tmps).run E0.P w' = .ok v w' ∧ ∃ v' r hp' c' M' J', Ending.returned v = Ending.returned v' ∧ R r hp' ∧ Inv E0 M0 w0 c' M' J' ⟨[], hp', 0⟩ #[] w' ∧ Rel M' J' r v' ∧ Sub M M' ∧ SubJ J J' := by
    intro h'
    obtain ⟨v, h3, r, h4, h5⟩ := fin h'
    refine ⟨hd, v, h3, v, r, s'.hp, s'.ctr, M1, J1, rfl, h4, ?_, h5, i1.oldM, i1.oldJ⟩
    exact ⟨i1.below, i1.mem, fun b o u hu => (i1.newM b o u hu).elim (fun h => inv.newM b o u h) .inr, fun b o u hu => i1.oldM b o u (inv.oldM b o u hu), i1.glob, fun t x h => by simp [get_nil] at h,
      i1.heap, i1.apart, i1.owns, i1.vers, fun r L h => i1.oldJ r L (inv.oldJ r L h), i1.far⟩
  cases e with
  | normal => exact out hk
  | ret => exact out hk
  | _ => exact hk.elim
def Go' (ct : Nat) (K : AV → List (Nat × Blk) → Nat → Prop) (r : AV) (hp : List (Nat × Blk)) : Prop := ∀ c', ct + 8 ≤ c' → K r hp c'
theorem go_k {ct : Nat} {K : AV → List (Nat × Blk) → Nat → Prop} {r : AV} {hp : List (Nat × Blk)} (h : ∀ c', K r hp c') : Go' ct K r hp := fun c' _ => h c'
theorem inl {E0 : Env} {T : Tab} (hT : TabOK E0.P T) (keep : List Nat) {nm : Nat} {f : FuncId} {fn : Func} {c : Code} {args : List AV} {hp : List (Nat × Blk)} {ct : Nat} {K : AV → List (Nat × Blk) → Nat → Prop} (hf : E0.P.funcs[f]? = some fn) (hb : fn.body = some c)
    (hname : (fn.name == "runtime.NumGoroutine") = false) (hnt : args.length ≤ fn.ntmps) (hok : codeOK fn.ntmps c = true) {cc : CC} (hcc : comp c = cc) {rs : List ResultVar} (hrs : fn.results.toList = rs)
    (h : ∀ ct', Wp { E0 with keep := keep, N := 65536 * (nm + 1) } fn.ntmps cc (EndH T rs (Go' ct K)) ⟨params 0 args, hp, ct'⟩) : HCallX E0 nm f args hp ct K :=
  ⟨_, funcH hT keep (65536 * (nm + 1)) hf hb hname hnt hok hcc hrs h⟩
def Unr (E : Env) (nt : Nat) (d : CC) (K : Exit → St → Prop) : Nat → St → Prop
  | 0, _ => False
  | n + 1, s => Wp E nt d (thenK (Unr E nt d K n) K) s
theorem u_step {E : Env} {nt : Nat} {d : CC} {K : Exit → St → Prop} {n : Nat} {s : St} (h : Wp E nt d (thenK (Unr E nt d K n) K) s) : Unr E nt d K (n + 1) s := h
theorem unroll {E : Env} {nt : Nat} {d : CC} {K : Exit → St → Prop} {s : St} (n : Nat) (h : Unr E nt d K n s) : Wp E nt (.loop d) K s := by
  refine loop (fun m s => Unr E nt d K m s) ⟨s, Gh.refl, n, h⟩ (fun m s1 h1 => ?_)
  cases m with
  | zero => exact h1.elim
  | succ m =>
    refine Wp.mono h1 (fun e s2 h2 => ?_)
    cases e <;> simp only [thenK] at h2 ⊢
    case normal => exact ⟨s2, Gh.refl, m, Nat.lt_succ_self m, h2⟩
    all_goals exact h2
end Ev
end Go.Proofs.YtadlnaljicikfaaDoor.Abs
