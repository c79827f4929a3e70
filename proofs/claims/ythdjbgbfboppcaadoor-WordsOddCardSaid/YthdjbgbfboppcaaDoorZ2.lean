/- A part of the proof: a calculus over values, and contracts of functions. No condition. -/
import Derived.Test.YthdjbgbfboppcaaDoorZ1
/- A calculus over values: what stands beside, closed by rule. -/
namespace Go.Proofs.YthdjbgbfboppcaaDoor.Abs
set_option linter.unusedSimpArgs false
set_option linter.unusedVariables false
open Go
@[simp] theorem bts_len (l : List UInt8) : (bts l).length = l.length := by simp [bts]
theorem bts_all (l : List UInt8) : ∀ y ∈ bts l, y.length = 1 := by
  intro y hy
  obtain ⟨s, _, rfl⟩ := List.mem_map.1 hy
  rfl
theorem bytesAV_eq (b : ByteArray) : bytesAV b = bts b.data.toList := rfl
theorem bts_app (a b : List UInt8) : bts (a ++ b) = bts a ++ bts b := by simp [bts]
theorem bts_str : ∀ l : List UInt8, (bts l).mapM toByte = some l
  | [] => rfl
  | n :: l => by
    have := bts_str l
    simp only [bts] at this ⊢
    simp only [List.map_cons, List.mapM_cons, this, toByte]
    simp
/-- Numbers as a row's elements; runes likewise. -/
theorem bts_cut (l : List UInt8) (n o : Nat) : List.take n (List.drop o (bts l)) = bts ((l.drop o).take n) := by simp [bts, List.map_take, List.map_drop]
def rnsV (l : List Int) : List (List AV) := l.map fun n => [AV.v (.int .i32 n)]
theorem rnsV_str : ∀ l : List Int, (rnsV l).mapM toRune = some l
  | [] => rfl
  | n :: l => by
    have := rnsV_str l
    simp only [rnsV] at this ⊢
    simp only [List.map_cons, List.mapM_cons, this, toRune]
    simp
theorem rnsV_cut (l : List Int) (n o : Nat) : List.take n (List.drop o (rnsV l)) = rnsV ((l.drop o).take n) := by simp [rnsV, List.map_take, List.map_drop]
namespace Ev
theorem app_one {i n b : Nat} {es : List (List AV)} {e : List AV} (hi : i = es.length) (he : e.length = n) (hb : i ≤ 1000000000) (hbb : b ≤ 1000) :
    Side (0 = 0 ∧ i = es.length ∧ (∀ y ∈ List.take 1 (List.drop 0 [e]), y.length = n) ∧ i + (List.take 1 (List.drop 0 [e])).length ≤ maxLen ∧ (i + (List.take 1 (List.drop 0 [e])).length) * b ≤ 140737488355328) := by
  have hm : 2000000003 ≤ maxLen := by decide
  have h1 : (List.take 1 (List.drop 0 [e])).length = 1 := rfl
  rw [h1]
  refine Side.of ⟨rfl, hi, ?_, by omega, ?_⟩
  · intro y hy; simp at hy; subst hy; exact he
  · have : (i + 1) * b ≤ 1000000001 * 1000 := Nat.mul_le_mul (by omega) hbb
    omega
theorem own_le {i : Nat} {es : List (List AV)} (h : i = es.length) : Side (0 + i ≤ es.length) := Side.of (by omega)
theorem own_le1 {i : Nat} {es : List (List AV)} {e : List AV} (h : i = es.length) : Side (0 + (i + (List.take 1 (List.drop 0 [e])).length) ≤ (es ++ List.take 1 (List.drop 0 [e])).length) := by
  subst h; exact Side.of (by simp)
theorem fin_row {sz n : Nat} {es X : List (List AV)} (h : es = X) (hn : X.length ≤ n) : (fun (r : AV) (hs : List Blk) => r = AV.lst sz X ∧ hs = []) (resOf [AV.lst sz ((es.drop 0).take n)]) [] := by
  subst h
  exact ⟨congrArg (AV.lst sz) (List.take_of_length_le (by simpa using hn)), rfl⟩
theorem fin_row1 {sz i : Nat} {es X : List (List AV)} {e : List AV} (h : es ++ [e] = X) (hi : i = es.length) : (fun (r : AV) (hs : List Blk) => r = AV.lst sz X ∧ hs = []) (resOf [AV.lst sz (((es ++ List.take 1 (List.drop 0 [e])).drop 0).take (i + (List.take 1 (List.drop 0 [e])).length))]) [] :=
  fin_row (by rw [← h]; rfl) (by rw [← h]; simp [hi])
theorem int_eq {k : IntKind} {a b : Int} (h : a = b) : AV.v (Value.int k a) = AV.v (Value.int k b) := by rw [h]
theorem bool_eq {a b : Bool} (h : a = b) : AV.v (Value.bool a) = AV.v (Value.bool b) := by rw [h]
theorem str_eq {a b : ByteArray} (h : a = b) : AV.v (Value.string a) = AV.v (Value.string b) := by rw [h]
theorem own_eq {r v o a b : Nat} (h : a = b) : AV.own r v o a = AV.own r v o b := by rw [h]
theorem lst_eq {sz : Nat} {a b : List (List AV)} (h : a = b) : AV.lst sz a = AV.lst sz b := by rw [h]
theorem blk_eq {sz : Nat} {ty : TypeId} {ver frz : Nat} {box : Bool} {a b : List (List AV)} (h : a = b) : Blk.mk sz ty ver frz box a = Blk.mk sz ty ver frz box b := by rw [h]
theorem tup2_eq {a a' b b' : AV} (h : a = a') (h' : b = b') : AV.tup [a, b] = AV.tup [a', b'] := by rw [h, h']
theorem tup3_eq {a a' b b' c c' : AV} (h : a = a') (h' : b = b') (h'' : c = c') : AV.tup [a, b, c] = AV.tup [a', b', c'] := by rw [h, h', h'']
theorem ret_eq {X Y : AV} {H : List Blk} (h : X = Y) : X = Y ∧ ([] : List Blk) = [] := ⟨h, rfl⟩
theorem app_ys {i n b : Nat} {es ys : List (List AV)} (hi : i = es.length) (he : ∀ y ∈ ys, y.length = n) (hb : i + ys.length ≤ 2000000000) (hbb : b ≤ 1000) :
    Side (0 = 0 ∧ i = es.length ∧ (∀ y ∈ ys, y.length = n) ∧ i + ys.length ≤ maxLen ∧ (i + ys.length) * b ≤ 140737488355328) := by
  have hm : 2000000003 ≤ maxLen := by decide
  refine Side.of ⟨rfl, hi, he, by omega, ?_⟩
  have : (i + ys.length) * b ≤ 2000000000 * 1000 := Nat.mul_le_mul (by omega) hbb
  omega
theorem app_nil {n b : Nat} {ys : List (List AV)} (he : ∀ y ∈ ys, y.length = n) (hb : ys.length ≤ 2000000000) (hbb : b ≤ 1000) :
    Side ((∀ y ∈ ys, y.length = n) ∧ ys.length ≤ maxLen ∧ ys.length * b ≤ 140737488355328) := by
  have hm : 2000000003 ≤ maxLen := by decide
  refine Side.of ⟨he, by omega, ?_⟩
  have : ys.length * b ≤ 2000000000 * 1000 := Nat.mul_le_mul (by omega) hbb
  omega
theorem app_nil1 {n b : Nat} {e : List AV} (he : e.length = n) (hbb : b ≤ 1000) : Side ((∀ y ∈ List.take 1 (List.drop 0 [e]), y.length = n) ∧ (List.take 1 (List.drop 0 [e])).length ≤ maxLen ∧ (List.take 1 (List.drop 0 [e])).length * b ≤ 140737488355328) := by
  refine app_nil ?_ (by simp) hbb
  intro y hy; simp at hy; subst hy; exact he
theorem take_all {n : Nat} {es X : List (List AV)} (hn : n = es.length) (h : es = X) : List.take n (List.drop 0 es) = X := by
  subst h; subst hn; rw [List.drop_zero, List.take_length]
theorem el_mapN {α : Type} {f : α → List AV} {l : List α} {i : Nat} {K : List AV → Prop} (h : Side (i < l.length)) (k : ∀ h : i < l.length, K (f l[i])) : elK (l.map f) (i : Int).toNat K := el_map (i := (i : Int).toNat) h k
theorem el_map0 {α : Type} {f : α → List AV} {l : List α} {i : Nat} {K : List AV → Prop} (h : Side (i < l.length)) (k : ∀ h : i < l.length, K (f l[i])) : elK (l.map f) (0 + (i : Int).toNat) K := by
  have h' : Side (0 + (i : Int).toNat < l.length) := by have : i < l.length := h; exact Side.of (by omega)
  refine el_map h' (fun h2 => ?_)
  have e0 : 0 + (i : Int).toNat = i := by simp
  have e : l[0 + (i : Int).toNat]'h2 = l[i]'h := getElem_congr rfl e0 _
  rw [e]; exact k h
theorem cons_eq {a b : AV} {l m : List AV} (h : a = b) (h' : l = m) : a :: l = b :: m := by rw [h, h']
theorem byt_cut {l : List UInt8} {n o : Nat} {K : List UInt8 → Prop} (k : K ((l.drop o).take n)) : bytK (List.take n (List.drop o (bts l))) K := by
  rw [bts_cut]; exact byt_k _ (bts_str _) k
theorem byt_all {l : List UInt8} {K : List UInt8 → Prop} (k : K l) : bytK (bts l) K := byt_k _ (bts_str _) k
theorem run_cut {l : List Int} {n o : Nat} {K : List Int → Prop} (k : K ((l.drop o).take n)) : runK (List.take n (List.drop o (rnsV l))) K := by
  rw [rnsV_cut]; exact run_k _ (rnsV_str _) k
theorem run_all {l : List Int} {K : List Int → Prop} (k : K l) : runK (rnsV l) K := run_k _ (rnsV_str _) k
theorem max_big : 2000000003 ≤ maxLen := by decide
theorem br_pos {p : Prop} [Decidable p] {A B : Prop} (h : p) (k : A) : Ev.brK (decide p) A B := Ev.br_dec (fun _ => k) (fun h' => absurd h h')
theorem br_neg {p : Prop} [Decidable p] {A B : Prop} (h : ¬ p) (k : B) : Ev.brK (decide p) A B := Ev.br_dec (fun h' => absurd h' h) (fun _ => k)
theorem c_pos {p : Prop} [Decidable p] {A B : Prop} (h : p) (k : A) : Ev.brC (decide p) A B := Ev.c_dec (fun _ => k) (fun h' => absurd h h')
theorem c_neg {p : Prop} [Decidable p] {A B : Prop} (h : ¬ p) (k : B) : Ev.brC (decide p) A B := Ev.c_dec (fun h' => absurd h' h) (fun _ => k)
end Ev
end Go.Proofs.YthdjbgbfboppcaaDoor.Abs

/- A calculus over values: a value may be told as one that says less. -/
namespace Go.Proofs.YthdjbgbfboppcaaDoor.Abs
open Go
set_option linter.unusedVariables false
/-- What a stands for, b stands for. -/
def Le (a b : AV) : Prop := ∀ (M : Mem) (v : Value), PRel M a v → PRel M b v
def LeR (a b : AV) : Prop := ∀ (M : Mem) (J : Locs) (v : Value), Rel M J a v → Rel M J b v
theorem Le.refl (a : AV) : Le a a := fun _ _ h => h
theorem LeR.refl (a : AV) : LeR a a := fun _ _ _ h => h
theorem PRel.nil_lst (M : Mem) (sz : Nat) : PRel M (.lst sz []) (.slice none 0 0) :=
  .lst (fun _ _ => undef) rfl (Nat.le_refl _) (fun i e h => by simp at h) (fun h => absurd rfl h) (fun b o i e j c h => by cases h) (fun i e j c h => by simp at h)
theorem Le.nil (sz : Nat) : Le (.v (.slice none 0 0)) (.lst sz []) := fun M v h => by cases h; exact PRel.nil_lst M sz
theorem LeR.nil (sz : Nat) : LeR (.v (.slice none 0 0)) (.lst sz []) := fun M J v h => by
  have := h.v_inv
  subst this
  exact .pure (PRel.nil_lst M sz)
theorem LeR.tup {cs cs' : List AV} (hn : cs.length = cs'.length) (h : ∀ (i : Nat) (c c' : AV), cs[i]? = some c → cs'[i]? = some c' → LeR c c') : LeR (.tup cs) (.tup cs') := by
  intro M J v hr
  have get : ∀ (i : Nat) (c' : AV), cs'[i]? = some c' → ∃ c, cs[i]? = some c := fun i c' hc' => by
    have := (List.getElem?_eq_some_iff.1 hc').1
    exact ⟨cs[i]'(by omega), List.getElem?_eq_getElem (by omega)⟩
  cases hr with
  | pure hp =>
    cases hp with
    | tup h1 h2 =>
      refine .tup (by omega) (fun i c v hc hv => ?_)
      obtain ⟨c0, hc0⟩ := get i c hc
      exact h i c0 c hc0 hc M J v (.pure (h2 i c0 v hc0 hv))
  | tup h1 h2 =>
    refine .tup (by omega) (fun i c v hc hv => ?_)
    obtain ⟨c0, hc0⟩ := get i c hc
    exact h i c0 c hc0 hc M J v (h2 i c0 v hc0 hv)
theorem LeR.tup2 {a a' b b' : AV} (h : LeR a a') (h' : LeR b b') : LeR (.tup [a, b]) (.tup [a', b']) :=
  LeR.tup rfl (fun i c c' hc hc' => by
    rcases i with _ | _ | i
    · simp at hc hc'; subst hc; subst hc'; exact h
    · simp at hc hc'; subst hc; subst hc'; exact h'
    · simp at hc)
theorem LeR.tup3 {a a' b b' d d' : AV} (h : LeR a a') (h' : LeR b b') (h'' : LeR d d') : LeR (.tup [a, b, d]) (.tup [a', b', d']) :=
  LeR.tup rfl (fun i c c' hc hc' => by
    rcases i with _ | _ | _ | i
    · simp at hc hc'; subst hc; subst hc'; exact h
    · simp at hc hc'; subst hc; subst hc'; exact h'
    · simp at hc hc'; subst hc; subst hc'; exact h''
    · simp at hc)
theorem CallW.args {E : Env} {f : FuncId} {args args' : List AV} {R : AV → List Blk → Prop} (h : CallW E f args' R) (hn : args.length = args'.length)
    (hle : ∀ (i : Nat) (x x' : AV), args[i]? = some x → args'[i]? = some x' → Le x x') : CallW E f args R := by
  intro M w vs hm hg hs hr
  refine h M w vs hm hg (by omega) (fun i x' v hx' hv => ?_)
  have hlt := (List.getElem?_eq_some_iff.1 hx').1
  have hx : args[i]? = some (args[i]'(by omega)) := List.getElem?_eq_getElem (by omega)
  exact hle i _ _ hx hx' M v (hr i _ v hx hv)
theorem CallW.res {E : Env} {f : FuncId} {args : List AV} {R R' : AV → List Blk → Prop} (h : CallW E f args R) (hr : ∀ r hs, R r hs → ∃ r', R' r' hs ∧ LeR r r') : CallW E f args R' := by
  intro M w vs hm hg hn hrel
  obtain ⟨h1, h2⟩ := h M w vs hm hg hn hrel
  refine ⟨h1, h2.mono ?_⟩
  rintro e w' ⟨v, r, hs, M', J', a, b, c, d⟩
  obtain ⟨r', b', l⟩ := hr _ _ b
  exact ⟨v, r', hs, M', J', a, b', c, l _ _ _ d⟩
theorem CallW.res_eq {E : Env} {f : FuncId} {args : List AV} {X Y : AV} {H : List Blk} (h : CallW E f args fun r hs => r = X ∧ hs = H) (hl : LeR X Y) : CallW E f args fun r hs => r = Y ∧ hs = H :=
  h.res (fun r hs ⟨a, b⟩ => ⟨Y, ⟨rfl, b⟩, by rw [a]; exact hl⟩)
end Go.Proofs.YthdjbgbfboppcaaDoor.Abs

/- A calculus over values: a function that is called on our own heap. -/
namespace Go.Proofs.YthdjbgbfboppcaaDoor.Abs
open Go
set_option linter.unusedVariables false
set_option linter.unusedSimpArgs false
theorem startH {E0 E : Env} (hG : E0.G = E.G) {M0 : Bas} {w0 : World} {c : Nat} {M : Mem} {J : Locs} {w : World} {hp : List (Nat × Blk)} {args : List AV} {vs : Array Value} {n : Nat}
    (inv : Inv E0 M0 w0 c M J ⟨[], hp, 0⟩ #[] w) (hn : vs.size = args.length) (hr : ∀ (i : Nat) (x : AV) (v : Value), args[i]? = some x → vs[i]? = some v → Rel M J x v) :
    Inv E ⟨M, J⟩ w0 c M J ⟨params 0 args, hp, c⟩ (vs ++ Array.replicate n undef) w := by
  refine ⟨inv.below, inv.mem, fun _ _ _ h => .inl h, fun _ _ _ h => h, fun g cs h => inv.glob g cs (by rw [hG]; exact h), fun t x h => ?_, inv.heap, inv.apart, inv.owns, inv.vers, fun r L h => h⟩
  simp only [get_params, Nat.zero_le, if_true, Nat.sub_zero] at h
  have hlt : t < vs.size := by rw [hn]; exact (List.getElem?_eq_some_iff.1 h).1
  exact ⟨vs[t], by rw [Array.getElem?_append_left hlt]; simp [hlt], hr t x _ h (by simp [hlt])⟩
namespace Ev
/-- The end of a function that was called on our own heap. -/
def FinH (T : Tab) (rs : List ResultVar) (s : St) (R : AV → List (Nat × Blk) → Prop) : Prop := FinP.resK T s.sl s.hp rs fun xs => Fin (R (resOf xs) s.hp)
def FinH' (rs : List ResultVar) (s : St) (T : Tab) (R : AV → List (Nat × Blk) → Prop) (F : Prop → Prop) : Prop := FinP.resK T s.sl s.hp rs fun xs => F (R (resOf xs) s.hp)
def EndH (T : Tab) (rs : List ResultVar) (R : AV → List (Nat × Blk) → Prop) : Exit → St → Prop
  | .normal, s => FinH T rs s R
  | .ret, s => FinH T rs s R
  | _, _ => False
theorem eh_norm {T : Tab} {rs : List ResultVar} {R : AV → List (Nat × Blk) → Prop} {s : St} (h : ∀ F : Prop → Prop, (∀ p, p → F p) → FinH' rs s T R F) : EndH T rs R .normal s := h Fin (fun _ h => h)
theorem eh_ret {T : Tab} {rs : List ResultVar} {R : AV → List (Nat × Blk) → Prop} {s : St} (h : ∀ F : Prop → Prop, (∀ p, p → F p) → FinH' rs s T R F) : EndH T rs R .ret s := h Fin (fun _ h => h)
theorem funcH {E0 : Env} {T : Tab} (hT : TabOK E0.P T) (keep : List Nat) (N : Nat) {f : FuncId} {fn : Func} {c : Code} {args : List AV} {hp : List (Nat × Blk)} {R : AV → List (Nat × Blk) → Prop} (hf : E0.P.funcs[f]? = some fn) (hb : fn.body = some c)
    (hname : (fn.name == "runtime.NumGoroutine") = false) (hnt : args.length ≤ fn.ntmps) (hok : codeOK fn.ntmps c = true) {cc : CC} (hcc : comp c = cc) {rs : List ResultVar} (hrs : fn.results.toList = rs)
    (h : ∀ ct, Wp { E0 with keep := keep, N := N } fn.ntmps cc (EndH T rs R) ⟨params 0 args, hp, ct⟩) : HCallW E0 N f args hp R := by
  subst hrs
  intro M0 w0 ct M J w vs inv hn hr
  refine ⟨run_callFunc hf hb hname w, ?_⟩
  refine calls_of_wp hf hb ?_
  refine wp_mono (h ct c hcc hok ⟨M, J⟩ w0 M J (vs ++ Array.replicate (fn.ntmps - vs.size) undef) w (startH (args := args) (hp := hp) (E0 := E0) (E := { E0 with keep := keep, N := N }) rfl inv hn hr) (by simp [hn]; omega)) ?_
  rintro e a w' ⟨s', M1, J1, hk, i1, hz, hd⟩
  have fin : FinH T fn.results.toList s' R → ∃ v, (results fn a.tmps).run E0.P w' = .ok v w' ∧ ∃ r, R r s'.hp ∧ Rel M1 J1 r v := by
    intro h'
    obtain ⟨xs, h1, h2⟩ := resK_sound (E := { E0 with keep := keep, N := N }) hT (ct := s'.ctr) fn.results.toList h'
    obtain ⟨vs', h3, h4, h5⟩ := results_sound i1 (fn := fn) h1
    exact ⟨_, h3, _, h2, resOf_rel (R := Rel M1 J1) (fun xs vs a b => .tup a b) h4 h5⟩
  have out : FinH T fn.results.toList s' R → a.defers = [] ∧ ∃ v, (results fn a.tmps).run E0.P w' = .ok v w' ∧ ∃ v' r hp' c' M' J', Ending.returned v = Ending.returned v' ∧ R r hp' ∧ Inv E0 M0 w0 c' M' J' ⟨[], hp', 0⟩ #[] w' ∧ Rel M' J' r v' ∧ Sub M M' ∧ SubJ J J' := by
    intro h'
    obtain ⟨v, h3, r, h4, h5⟩ := fin h'
    refine ⟨hd, v, h3, v, r, s'.hp, s'.ctr, M1, J1, rfl, h4, ?_, h5, i1.oldM, i1.oldJ⟩
    exact ⟨i1.below, i1.mem, fun b o u hu => (i1.newM b o u hu).elim (fun h => inv.newM b o u h) .inr, fun b o u hu => i1.oldM b o u (inv.oldM b o u hu), i1.glob, fun t x h => by simp [get_nil] at h,
      i1.heap, i1.apart, i1.owns, i1.vers, fun r L h => i1.oldJ r L (inv.oldJ r L h)⟩
  cases e with
  | normal => exact out hk
  | ret => exact out hk
  | _ => exact hk.elim
theorem hcall_of {E : Env} {N nm : Nat} {f : FuncId} {args args' : List AV} {hp hp' : List (Nat × Blk)} {ct : Nat} {K : AV → List (Nat × Blk) → Nat → Prop} {R : AV → List (Nat × Blk) → Prop} (hc : HCallW E N f args' hp' R) (ha : args = args') (hs : subs hp hp')
    (h : ∀ r hp1, R r hp1 → ∀ c', ct + 8 ≤ c' → K r hp1 c') : HCallX E nm f args hp ct K := by
  subst ha
  refine ⟨N, fun M0 w0 c M J w vs inv hn hr => ?_⟩
  have inv' : Inv E M0 w0 c M J ⟨[], hp', 0⟩ #[] w := inv.less (s' := ⟨[], hp', 0⟩) (fun t x h => by simp [get_nil] at h) (subs_get hs)
  obtain ⟨a, b⟩ := hc M0 w0 c M J w vs inv' hn hr
  refine ⟨a, b.mono ?_⟩
  rintro e w' ⟨v, r, hp1, c', M', J', x1, x2, x3, x4⟩
  exact ⟨v, r, hp1, c', M', J', x1, h r hp1 x2, x3, x4⟩
theorem hcall_det {E : Env} {N nm : Nat} {f : FuncId} {args args' : List AV} {hp hp' : List (Nat × Blk)} {ct : Nat} {K : AV → List (Nat × Blk) → Nat → Prop} {X : AV} {H : List (Nat × Blk)} (hc : HCallW E N f args' hp' fun r hp1 => r = X ∧ hp1 = H) (ha : args = args') (hs : subs hp hp')
    (h : ∀ c', ct + 8 ≤ c' → K X H c') : HCallX E nm f args hp ct K := hcall_of hc ha hs (fun r hp1 ⟨a, b⟩ => by subst a; subst b; exact h)
/-- What comes of a call, and goes on in the caller. -/
def Go' (ct : Nat) (K : AV → List (Nat × Blk) → Nat → Prop) (r : AV) (hp : List (Nat × Blk)) : Prop := ∀ c', ct + 8 ≤ c' → K r hp c'
theorem go_k {ct : Nat} {K : AV → List (Nat × Blk) → Nat → Prop} {r : AV} {hp : List (Nat × Blk)} (h : ∀ c', K r hp c') : Go' ct K r hp := fun c' _ => h c'
/-- A call, its body reckoned where it stands. -/
theorem inl {E0 : Env} {T : Tab} (hT : TabOK E0.P T) (keep : List Nat) {nm : Nat} {f : FuncId} {fn : Func} {c : Code} {args : List AV} {hp : List (Nat × Blk)} {ct : Nat} {K : AV → List (Nat × Blk) → Nat → Prop} (hf : E0.P.funcs[f]? = some fn) (hb : fn.body = some c)
    (hname : (fn.name == "runtime.NumGoroutine") = false) (hnt : args.length ≤ fn.ntmps) (hok : codeOK fn.ntmps c = true) {cc : CC} (hcc : comp c = cc) {rs : List ResultVar} (hrs : fn.results.toList = rs)
    (h : ∀ ct', Wp { E0 with keep := keep, N := 65536 * (nm + 1) } fn.ntmps cc (EndH T rs (Go' ct K)) ⟨params 0 args, hp, ct'⟩) : HCallX E0 nm f args hp ct K :=
  ⟨_, funcH hT keep (65536 * (nm + 1)) hf hb hname hnt hok hcc hrs h⟩
/-- A loop, round by round. -/
def Unr (E : Env) (nt : Nat) (d : CC) (K : Exit → St → Prop) : Nat → St → Prop
  | 0, _ => False
  | n + 1, s => Wp E nt d (thenK (Unr E nt d K n) K) s
theorem u_step {E : Env} {nt : Nat} {d : CC} {K : Exit → St → Prop} {n : Nat} {s : St} (h : Wp E nt d (thenK (Unr E nt d K n) K) s) : Unr E nt d K (n + 1) s := h
theorem unroll {E : Env} {nt : Nat} {d : CC} {K : Exit → St → Prop} {s : St} (n : Nat) (h : Unr E nt d K n s) : Wp E nt (.loop d) K s := by
  refine loop (fun m s => Unr E nt d K m s) ⟨s, Gh.refl, n, h⟩ (fun m s1 h1 => ?_)
  cases m with
  | zero => exact h1.elim
  | succ m =>
    refine Wp.mono h1 (fun e s2 h2 => ?_)
    cases e <;> simp only [thenK] at h2 ⊢
    case normal => exact ⟨s2, Gh.refl, m, Nat.lt_succ_self m, h2⟩
    all_goals exact h2
end Ev
end Go.Proofs.YthdjbgbfboppcaaDoor.Abs
