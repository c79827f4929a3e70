/- A calculus over values: a function's contract, out of its body. -/
import Derived.Test.YtdgpilapblipbaaDoorAbsFn
namespace Go.Proofs.YtdgpilapblipbaaDoor.Abs
open Go Go.RowKit
set_option linter.unusedVariables false
set_option linter.unusedSimpArgs false

def params : Nat → List AV → List (Nat × AV)
  | _, [] => []
  | j, a :: l => (j, a) :: params (j + 1) l

theorem get_params : ∀ (l : List AV) (j t : Nat), get (params j l) t = if j ≤ t then l[t - j]? else none
  | [], j, t => by simp [params, get_nil, get_cons]
  | a :: l, j, t => by
    simp only [params, get_nil, get_cons]
    rw [get_params l (j + 1) t]
    by_cases h : t = j
    · subst h; simp
    · rw [if_neg h]
      by_cases h1 : j ≤ t
      · rw [if_pos (by omega), if_pos h1, show t - j = (t - (j + 1)) + 1 by omega, List.getElem?_cons_succ]
      · rw [if_neg (by omega), if_neg h1]

/-- A value each. -/
def endP (E : Env) (rs : List ResultVar) (s : St) (R : AV → List Blk → Prop) : Prop :=
  match resAV E s rs with
  | some xs => s.pures xs fun ys _ => R (resOf ys) []
  | none => False
/-- Rows of the call's own are handed back. -/
def endO (E : Env) (rs : List ResultVar) (s : St) (R : AV → List Blk → Prop) : Prop :=
  match resAV E s rs with
  | some xs => ∃ l hs ys, (l.map Prod.fst).Nodup ∧ handed s l l 0 = some hs ∧ rens l xs = some ys ∧ R (resOf ys) hs
  | none => False

section
variable {E : Env} {M0 : Mem} {w0 : World} {c : Nat} {M : Mem} {J : Locs} {s s' : St} {tm : Array Value} {w : World}

theorem res_sound (inv : Inv E M0 w0 c M J s tm w) : ∀ {rs : List ResultVar} {xs : List AV}, resAV E s rs = some xs →
    ∃ vs : List Value, (rs.mapM fun (r : ResultVar) => (match r with | .tmp t => (Pure.pure (tm.getD t undef) : Sem Value) | .cell a t => do loadVar t (← asAddr (tm.getD a undef)))).run E.P w = .ok vs w ∧
      vs.length = xs.length ∧ ∀ (i : Nat) (x : AV) (v : Value), xs[i]? = some x → vs[i]? = some v → Rel M J x v
  | [], xs, h => by
    simp only [resAV, Option.some.injEq] at h; subst h
    exact ⟨[], by simp, rfl, fun i x v hx => by simp at hx⟩
  | .tmp t :: l, xs, h => by
    simp only [resAV] at h
    split at h
    · rename_i a r ha hr
      obtain rfl := Option.some.inj h
      obtain ⟨vs, h1, h2, h3⟩ := res_sound inv hr
      obtain ⟨v, hv, hrel⟩ := inv.slot t a ha
      have : tm.getD t undef = v := by rw [Array.getD_eq_getD_getElem?, hv]; rfl
      refine ⟨v :: vs, ?_, by simp [h2], fun i x u hx hu => ?_⟩
      · rw [List.mapM_cons]; simp only [Sem.run_bind, Sem.run_pure, Result.andThen_ok, this]
        rw [h1]; rfl
      · cases i with
        | zero => simp at hx hu; subst hx; subst hu; exact hrel
        | succ i => exact h3 i x u (by simpa using hx) (by simpa using hu)
    · cases h
  | .cell a t :: l, xs, h => by
    simp only [resAV] at h
    split at h
    · rename_i p r ha hr
      split at h
      · rename_i cs hcs
        split at h
        · rename_i x hx
          obtain rfl := Option.some.inj h
          obtain ⟨vs, h1, h2, h3⟩ := res_sound inv hr
          obtain ⟨v, hv, hrel⟩ := inv.slot a p ha
          obtain ⟨b, o, rfl, _⟩ := cellsAt_rel inv hrel hcs
          obtain ⟨y, h4, h5⟩ := load_rel inv hrel hcs hx
          have : tm.getD a undef = .pointer (some ⟨b, o, none⟩) := by rw [Array.getD_eq_getD_getElem?, hv]; rfl
          simp only [Instr.loadAt, Instr.sureAddr, Sem.run_bind, Sem.run_pure, Result.andThen_ok] at h4
          refine ⟨y :: vs, ?_, by simp [h2], fun i x' u hx' hu => ?_⟩
          · have e : ∀ u, u = Value.pointer (some ⟨b, o, none⟩) → (do loadVar t (← asAddr u)).run E.P w = .ok y w := by
              rintro u rfl
              simpa [asAddr] using h4
            rw [List.mapM_cons, Sem.run_bind]
            have := e _ this
            simp only at this ⊢
            rw [this]
            simp only [Result.andThen_ok, Sem.run_bind]
            rw [h1]; rfl
          · cases i with
            | zero => simp at hx' hu; subst hx'; subst hu; exact h5
            | succ i => exact h3 i x' u (by simpa using hx') (by simpa using hu)
        · cases h
      · cases h
    · cases h

theorem results_sound (inv : Inv E M0 w0 c M J s tm w) {fn : Func} {xs : List AV} (h : resAV E s fn.results.toList = some xs) :
    ∃ vs : List Value, (results fn tm).run E.P w = .ok (if h : vs.length = 1 then vs[0] else .tuple vs.toArray) w ∧
      vs.length = xs.length ∧ ∀ (i : Nat) (x : AV) (v : Value), xs[i]? = some x → vs[i]? = some v → Rel M J x v := by
  obtain ⟨vs, h1, h2, h3⟩ := res_sound inv h
  refine ⟨vs, ?_, h2, h3⟩
  unfold results
  rw [Array.mapM_eq_mapM_toList]
  rw [Sem.run_bind, Sem.run_map]
  have e := congrArg (fun r => (Result.andThen (Result.andThen r fun a w' => .ok a.toArray w') fun (a : Array Value) w' => Sem.run E.P (Pure.pure (if h : a.size = 1 then a[0] else Value.tuple a)) w')) h1
  exact e.trans (by simp)

theorem resOf_rel {R : AV → Value → Prop} (hv : ∀ (xs : List AV) (vs : Array Value), vs.size = xs.length → (∀ (i : Nat) (x : AV) (v : Value), xs[i]? = some x → vs[i]? = some v → R x v) → R (.tup xs) (.tuple vs))
    {xs : List AV} {vs : List Value} (h2 : vs.length = xs.length) (h3 : ∀ (i : Nat) (x : AV) (v : Value), xs[i]? = some x → vs[i]? = some v → R x v) :
    R (resOf xs) (if h : vs.length = 1 then vs[0] else .tuple vs.toArray) := by
  have hx : xs.length = 1 ∨ xs.length ≠ 1 := by omega
  rcases hx with hx | hx
  · match xs, vs, h2 with
    | [x], [v], _ => simpa [resOf] using h3 0 x v rfl rfl
  · rw [dif_neg (by omega)]
    have : resOf xs = .tup xs := by
      unfold resOf; split
      · simp at hx
      · rfl
    rw [this]
    exact hv xs _ (by simpa using h2) (fun i x v hx hv => h3 i x v hx (by simpa using hv))

theorem start_inv {E0 : Env} (hP : E0.P = E.P) (hG : E0.G = E.G) {args : List AV} {vs : Array Value} {n : Nat} (hm : ∀ b o u, M b o = some u → w.cell? ⟨b, o, none⟩ = some u ∧ u.oneCell' = true)
    (hg : ∀ g cs, E0.G g = some cs → PRel M (.rptr cs) (.pointer (some ⟨g, 0, none⟩))) (hn : vs.size = args.length)
    (hr : ∀ (i : Nat) (x : AV) (v : Value), args[i]? = some x → vs[i]? = some v → PRel M x v) :
    Inv E M w 0 M (fun _ => none) ⟨params 0 args, [], 0⟩ (vs ++ Array.replicate n undef) w := by
  refine ⟨Below.refl _ _, hm, fun _ _ _ h => .inl h, fun _ _ _ h => h, fun g cs h => hg g cs (by rw [hG]; exact h), fun t x h => ?_, fun r k h => by simp [get_nil, get_cons] at h, fun r r' k k' L L' h => by simp [get_nil, get_cons] at h, fun r k L o u h => by simp [get_nil, get_cons] at h, fun r L h => by simp at h⟩
  simp only [get_params, Nat.zero_le, if_true, Nat.sub_zero] at h
  have hlt : t < vs.size := by rw [hn]; exact (List.getElem?_eq_some_iff.1 h).1
  refine ⟨vs[t], by rw [Array.getElem?_append_left hlt]; simp [hlt], .pure (hr t x _ h (by simp [hlt]))⟩

theorem run_callFunc {f : FuncId} {fn : Func} {c : Code} {vs : Array Value} {P : Program} (hf : P.funcs[f]? = some fn) (hb : fn.body = some c) (hname : (fn.name == "runtime.NumGoroutine") = false) (w : World) :
    (callFunc f vs).run P w = .ok (.enter f vs) w := by
  simp [callFunc, hf, hb]; simpa using hname

theorem CallW.of {E0 E : Env} (hP : E0.P = E.P) (hG : E0.G = E.G) {f : FuncId} {fn : Func} {c : Code} {args : List AV} {R : AV → List Blk → Prop} (hf : E0.P.funcs[f]? = some fn) (hb : fn.body = some c)
    (hname : (fn.name == "runtime.NumGoroutine") = false) (hnt : args.length ≤ fn.ntmps) {Q : St → Prop}
    (hq : ∀ (M : Mem) (w0 : World) (s : St) (M1 : Mem) (J : Locs) (tm : Array Value) (w : World), Q s → Inv E M w0 s.ctr M1 J s tm w →
      ∃ v r hs M' J', (results fn tm).run E.P w = .ok v w ∧ R r hs ∧ Inv E M w0 hs.length M' J' ⟨[], heapOf 0 hs, 0⟩ #[] w ∧ Rel M' J' r v)
    (h : WP E fn.ntmps c (fun e s => (e = .normal ∨ e = .ret) ∧ Q s) ⟨params 0 args, [], 0⟩) : CallW E0 f args R := by
  intro M w vs hm hg hn hr
  refine ⟨run_callFunc hf hb hname w, ?_⟩
  rw [hP] at hf
  rw [hP]
  refine calls_of_wp hf hb ?_
  refine wp_mono (h M w M _ _ w (start_inv hP hG hm hg hn hr) (by simp [hn]; omega)) ?_
  rintro e a w' ⟨s', M1, J1, ⟨he, hQ⟩, inv, hz, hd⟩
  obtain ⟨v, r, hs, M', J', h1, h2, h3, h4⟩ := hq M w s' M1 J1 a.tmps w' hQ inv
  have h3' : Inv E0 M w hs.length M' J' ⟨[], heapOf 0 hs, 0⟩ #[] w' := h3.env hG
  rcases he with rfl | rfl
  · exact ⟨hd, v, h1, v, r, hs, M', J', rfl, h2, h3', h4⟩
  · exact ⟨hd, v, h1, v, r, hs, M', J', rfl, h2, h3', h4⟩

theorem CallW.pureW {E0 : Env} (keep : List Nat) (N : Nat) {f : FuncId} {fn : Func} {c : Code} {args : List AV} {R : AV → List Blk → Prop} (hf : E0.P.funcs[f]? = some fn) (hb : fn.body = some c)
    (hname : (fn.name == "runtime.NumGoroutine") = false) (hnt : args.length ≤ fn.ntmps) {rs : List ResultVar} (hrs : fn.results.toList = rs)
    (h : WP { E0 with keep := keep, N := N } fn.ntmps c (fun e s => (e = .normal ∨ e = .ret) ∧ endP { E0 with keep := keep, N := N } rs s R) ⟨params 0 args, [], 0⟩) : CallW E0 f args R := by
  subst hrs
  refine CallW.of (E0 := E0) (E := { E0 with keep := keep, N := N }) rfl rfl hf hb hname hnt ?_ h
  intro M w0 s M1 J tm w hQ inv
  unfold endP at hQ
  split at hQ
  · rename_i xs hxs
    obtain ⟨vs, h1, h2, h3⟩ := results_sound inv hxs
    obtain ⟨ys, s', M', hR, _, i', hl, hrel⟩ := Inv.pures xs (vs := vs) inv h2 h3 hQ
    refine ⟨_, _, [], M', fun _ => none, h1, hR, ?_, .pure (resOf_rel (R := PRel M') (fun xs vs a b => .tup a b) (by rw [h2, hl]) hrel)⟩
    exact ⟨i'.below, i'.mem, i'.newM, i'.oldM, i'.glob, fun t x h => by simp [get_nil, get_cons] at h, fun r k h => by simp [heapOf, get_nil, get_cons] at h, fun r r' k k' L L' h => by simp [heapOf, get_nil, get_cons] at h, fun r k L o u h => by simp [heapOf, get_nil, get_cons] at h, fun r L h => by simp at h⟩
  · exact hQ.elim

/-- A function that hands back values. -/
theorem CallW.pure {E0 : Env} (keep : List Nat) (N : Nat) {f : FuncId} {fn : Func} {c : Code} {args : List AV} {R : AV → List Blk → Prop} (hf : E0.P.funcs[f]? = some fn) (hb : fn.body = some c)
    (hname : (fn.name == "runtime.NumGoroutine") = false) (hnt : args.length ≤ fn.ntmps) (hok : codeOK fn.ntmps c = true) {cc : CC} (hcc : comp c = cc) {rs : List ResultVar} (hrs : fn.results.toList = rs)
    (h : wpk { E0 with keep := keep, N := N } fn.ntmps cc (fun e s => (e = .normal ∨ e = .ret) ∧ endP { E0 with keep := keep, N := N } rs s R) ⟨params 0 args, [], 0⟩) : CallW E0 f args R :=
  CallW.pureW keep N hf hb hname hnt hrs (wpk_sound c hok (by rw [hcc]; exact h))
theorem CallW.ownW {E0 : Env} (keep : List Nat) (N : Nat) {f : FuncId} {fn : Func} {c : Code} {args : List AV} {R : AV → List Blk → Prop} (hf : E0.P.funcs[f]? = some fn) (hb : fn.body = some c)
    (hname : (fn.name == "runtime.NumGoroutine") = false) (hnt : args.length ≤ fn.ntmps) {rs : List ResultVar} (hrs : fn.results.toList = rs)
    (h : WP { E0 with keep := keep, N := N } fn.ntmps c (fun e s => (e = .normal ∨ e = .ret) ∧ endO { E0 with keep := keep, N := N } rs s R) ⟨params 0 args, [], 0⟩) : CallW E0 f args R := by
  subst hrs
  refine CallW.of (E0 := E0) (E := { E0 with keep := keep, N := N }) rfl rfl hf hb hname hnt ?_ h
  intro M w0 s M1 J tm w hQ inv
  unfold endO at hQ
  split at hQ
  · rename_i xs hxs
    obtain ⟨vs, h1, h2, h3⟩ := results_sound inv hxs
    obtain ⟨l, hs, ys, hd, hh, hy, hR⟩ := hQ
    obtain ⟨J', i', hren⟩ := inv.hand hh hd
    obtain ⟨a, b⟩ := rens_get hy
    refine ⟨_, _, hs, M1, J', h1, hR, i', resOf_rel (R := Rel M1 J') (fun xs vs a b => .tup a b) (by rw [h2, a]) (fun i x v hx hv => ?_)⟩
    obtain ⟨x', hx', hr'⟩ := b i x hx
    exact hren _ _ _ hr' (h3 i x' v hx' hv)
  · exact hQ.elim

theorem CallW.mono {f : FuncId} {args : List AV} {R R' : AV → List Blk → Prop} (h : CallW E f args R) (hr : ∀ r hs, R r hs → R' r hs) : CallW E f args R' := by
  intro M w vs hm hg hn hrel
  obtain ⟨h1, h2⟩ := h M w vs hm hg hn hrel
  refine ⟨h1, h2.mono ?_⟩
  rintro e w' ⟨v, r, hs, M', J', a, b, c, d⟩
  exact ⟨v, r, hs, M', J', a, hr _ _ b, c, d⟩
end
end Go.Proofs.YtdgpilapblipbaaDoor.Abs
