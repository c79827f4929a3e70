/- A part of the proof: a calculus over values, and contracts of functions. No condition. -/
import Derived.Test.YtadlnaljicikfaaDoorZM1
set_option linter.unusedVariables false
set_option linter.unusedSimpArgs false
namespace Go.Proofs.YtadlnaljicikfaaDoor.aB
open Go
theorem Yc {E0 E:Env} (hG:E0.G = E.G) {M0:pV} {w0:World} {c:Nat} {M:Mem} {J:bf} {w:World} {hp:List (Nat × au)} {args:List AV} {vs:Array Value} {n:Nat}
   (inv:Inv E0 M0 w0 c M J ⟨[],hp,0⟩ #[] w) (hn:vs.size = args.length) (hr:∀ (i:Nat) (x:AV) (v:Value),args[i]? = some x -> vs[i]? = some v -> Rel M J x v) :
   Inv E ⟨M,J,M0.x,[]⟩ w0 c M J ⟨params 0 args,hp,c⟩ (vs ++ Array.replicate n undef) w:=by
 refine ⟨inv.below,inv.mem,fun _ _ _ h=>.inl h,fun _ _ _ h=>h,fun g cs h=>inv.glob g cs (by rw [hG];exact h),fun t x h=>?_,inv.heap,inv.apart,inv.owns,inv.vers,fun r L h=>h,inv.far⟩
 refine' afc
 exact ⟨vs[t],by rw [Array.getElem?_append_left hlt];simp [hlt],hr t x _ h (by simp [hlt])⟩
namespace Ev
def Uy (T:Tab) (rs:List ResultVar) (s:St) (R:AV -> List (Nat × au) -> Prop):Prop:=wE.yj T s.sl s.hp rs fun xs=>Fin (R (lS xs) s.hp)
def Xm (rs:List ResultVar) (s:St) (T:Tab) (R:AV -> List (Nat × au) -> Prop) (F:Prop -> Prop):Prop:=wE.yj T s.sl s.hp rs fun xs=>F (R (lS xs) s.hp)
def Mc (T:Tab) (rs:List ResultVar) (R:AV -> List (Nat × au) -> Prop):Exit -> St -> Prop
 | .normal,s=>Uy T rs s R
 | .ret,s=>Uy T rs s R
 | _,_=>False
theorem Uz {T:Tab} {rs:List ResultVar} {R:AV -> List (Nat × au) -> Prop} {s:St} (h:∀ F:Prop -> Prop,(∀ p,p -> F p) -> Xm rs s T R F):Mc T rs R .normal s:=h Fin (fun _ h=>h)
theorem Yd {T:Tab} {rs:List ResultVar} {R:AV -> List (Nat × au) -> Prop} {s:St} (h:∀ F:Prop -> Prop,(∀ p,p -> F p) -> Xm rs s T R F):Mc T rs R .ret s:=h Fin (fun _ h=>h)
theorem Xn {E0:Env} {T:Tab} (hT:jB E0.P T) (keep:List Nat) (N:Nat) {f:FuncId} {fn:Func} {c:Code} {args:List AV} {hp:List (Nat × au)} {R:AV -> List (Nat × au) -> Prop} (hf:E0.P.funcs[f]? = some fn) (hb:fn.body = some c)
   (hname:(fn.name == "runtime.NumGoroutine") = false) (hnt:args.length <= fn.ntmps) (hok:bI fn.ntmps c = true) {cc:CC} (hcc:comp c = cc) {rs:List ResultVar} (hrs:fn.results.toList = rs)
   (h:∀ ct,Wp { E0 with keep:=keep,N:=N } fn.ntmps cc (Mc T rs R) ⟨params 0 args,hp,ct⟩):dM E0 N f args hp R:=by
 subst hrs
 intro M0 w0 ct M J w vs inv hn hr
 refine ⟨jR hf hb hname w,?_⟩
 refine calls_of_wp hf hb ?_
 refine wp_mono (h ct c hcc hok ⟨M,J,M0.x,[]⟩ w0 M J (vs ++ Array.replicate (fn.ntmps - vs.size) undef) w (Yc (args:=args) (hp:=hp) (E0:=E0) (E:={ E0 with keep:=keep,N:=N }) rfl inv hn hr) (by simp [hn];omega)) ?_
 rintro e a w' ⟨s',M1,J1,hk,i1,hz,hd⟩
 have fin:Uy T fn.results.toList s' R -> ∃ v,(results fn a.tmps).run E0.P w' = .ok v w' /\ ∃ r,R r s'.hp /\ Rel M1 J1 r v:=by
   intro h'
   obtain ⟨xs,h1,h2⟩:=kS (E:={ E0 with keep:=keep,N:=N }) hT (ct:=s'.ctr) fn.results.toList h'
   obtain ⟨vs',h3,h4,h5⟩:=mM i1 (fn:=fn) h1
   exact ⟨_,h3,_,h2,wB (R:=Rel M1 J1) (fun xs vs a b=>.dD a b) h4 h5⟩
 have out:Uy T fn.results.toList s' R -> a.defers = [] /\ ∃ v,(results fn a.tmps).run E0.P w' = .ok v w' /\ ∃ v' r hp' c' M' J',Ending.returned v = Ending.returned v' /\ R r hp' /\ Inv E0 M0 w0 c' M' J' ⟨[],hp',0⟩ #[] w' /\ Rel M' J' r v' /\ Sub M M' /\ gW J J':=by
   intro h'
   obtain ⟨v,h3,r,h4,h5⟩:=fin h'
   refine ⟨hd,v,h3,v,r,s'.hp,s'.ctr,M1,J1,rfl,h4,?_,h5,i1.kE,i1.jI⟩
   exact ⟨i1.below,i1.mem,fun b o u hu=>(i1.kD b o u hu).elim (fun h=>inv.kD b o u h) .inr,fun b o u hu=>i1.kE b o u (inv.kE b o u hu),i1.glob,fun t x h=>by simp [get_nil] at h,
     i1.heap,i1.apart,i1.owns,i1.vers,fun r L h=>i1.jI r L (inv.jI r L h),i1.far⟩
 cases e with
 | normal=>exact out hk
 | ret=>exact out hk
 | _=>exact hk.elim
def iy (ct:Nat) (K:AV -> List (Nat × au) -> Nat -> Prop) (r:AV) (hp:List (Nat × au)):Prop:=∀ c',ct + 8 <= c' -> K r hp c'
theorem UA {ct:Nat} {K:AV -> List (Nat × au) -> Nat -> Prop} {r:AV} {hp:List (Nat × au)} (h:∀ c',K r hp c'):iy ct K r hp:=fun c' _=>h c'
theorem inl {E0:Env} {T:Tab} (hT:jB E0.P T) (keep:List Nat) {nm:Nat} {f:FuncId} {fn:Func} {c:Code} {args:List AV} {hp:List (Nat × au)} {ct:Nat} {K:AV -> List (Nat × au) -> Nat -> Prop} (hf:E0.P.funcs[f]? = some fn) (hb:fn.body = some c)
   (hname:(fn.name == "runtime.NumGoroutine") = false) (hnt:args.length <= fn.ntmps) (hok:bI fn.ntmps c = true) {cc:CC} (hcc:comp c = cc) {rs:List ResultVar} (hrs:fn.results.toList = rs)
   (h:∀ aN,Wp { E0 with keep:=keep,N:=65536 * (nm + 1) } fn.ntmps cc (Mc T rs (iy ct K)) ⟨params 0 args,hp,aN⟩):dU E0 nm f args hp ct K :=
 ⟨_,Xn hT keep (65536 * (nm + 1)) hf hb hname hnt hok hcc hrs h⟩
def gV (E:Env) (nt:Nat) (d:CC) (K:Exit -> St -> Prop):Nat -> St -> Prop
 | 0,_=>False
 | n + 1,s=>Wp E nt d (kH (gV E nt d K n) K) s
theorem Ye {E:Env} {nt:Nat} {d:CC} {K:Exit -> St -> Prop} {n:Nat} {s:St} (h:Wp E nt d (kH (gV E nt d K n) K) s):gV E nt d K (n + 1) s:=h
theorem wI {E:Env} {nt:Nat} {d:CC} {K:Exit -> St -> Prop} {s:St} (n:Nat) (h:gV E nt d K n s):Wp E nt (.loop d) K s:=by
 refine loop (fun m s=>gV E nt d K m s) ⟨s,Gh.refl,n,h⟩ (fun m s1 h1=>?_)
 cases m with
 | zero=>exact h1.elim
 | succ m =>
   refine Wp.mono h1 (fun e s2 h2=>?_)
   cases e <;> simp only [kH] at h2 ⊢
   case normal=>exact ⟨s2,Gh.refl,m,Nat.lt_succ_self m,h2⟩
   all_goals exact h2
end Ev
end Go.Proofs.YtadlnaljicikfaaDoor.aB
