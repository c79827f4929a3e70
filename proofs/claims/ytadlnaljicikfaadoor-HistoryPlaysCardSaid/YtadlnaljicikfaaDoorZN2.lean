/- A part of the proof: a calculus over values, and contracts of functions. No condition. -/
import Derived.Test.YtadlnaljicikfaaDoorZN1
set_option linter.unusedVariables false
set_option linter.unusedSimpArgs false
namespace Go.Proofs.YtadlnaljicikfaaDoor.aI
open Go
theorem YK {E0 E:Env} (hG:E0.G = E.G) {M0:qV} {w0:World} {c:Nat} {M:Mem} {J:bJ} {w:World} {hp:List (Nat × aG)} {args:List AV} {vs:Array Value} {n:Nat}
   (inv:Inv E0 M0 w0 c M J ⟨[],hp,0⟩ #[] w) (hn:vs.size = args.length) (hr:∀ (i:Nat) (x:AV) (v:Value),args[i]? = some x -> vs[i]? = some v -> Rel M J x v) :
   Inv E ⟨M,J,M0.x,[]⟩ w0 c M J ⟨params 0 args,hp,c⟩ (vs ++ Array.replicate n undef) w:=by
 refine ⟨inv.below,inv.mem,fun _ _ _ h=>.inl h,fun _ _ _ h=>h,fun g cs h=>inv.glob g cs (by rw [hG];exact h),fun t x h=>?_,inv.heap,inv.apart,inv.owns,inv.vers,fun r L h=>h,inv.far⟩
 refine' agu
 exact ⟨vs[t],by rw [Array.getElem?_append_left hlt];simp [hlt],hr t x _ h (by simp [hlt])⟩
namespace Ev
def Qy (T:Tab) (rs:List ResultVar) (s:St) (R:AV -> List (Nat × aG) -> Prop):Prop:=rO.zJ T s.sl s.hp rs fun xs=>Fin (R (mF xs) s.hp)
def XW (rs:List ResultVar) (s:St) (T:Tab) (R:AV -> List (Nat × aG) -> Prop) (F:Prop -> Prop):Prop:=rO.zJ T s.sl s.hp rs fun xs=>F (R (mF xs) s.hp)
def GH (T:Tab) (rs:List ResultVar) (R:AV -> List (Nat × aG) -> Prop):Exit -> St -> Prop
 | .normal,s=>Qy T rs s R
 | .ret,s=>Qy T rs s R
 | _,_=>False
theorem Vb {T:Tab} {rs:List ResultVar} {R:AV -> List (Nat × aG) -> Prop} {s:St} (h:∀ F:Prop -> Prop,(∀ p,p -> F p) -> XW rs s T R F):GH T rs R .normal s:=h Fin (fun _ h=>h)
theorem YL {T:Tab} {rs:List ResultVar} {R:AV -> List (Nat × aG) -> Prop} {s:St} (h:∀ F:Prop -> Prop,(∀ p,p -> F p) -> XW rs s T R F):GH T rs R .ret s:=h Fin (fun _ h=>h)
theorem abz{G:Prop}(h:G:=by
 exact ⟨i1.below,i1.mem,fun b o u hu=>(i1.kH b o u hu).elim (fun h=>inv.kH b o u h) .inr,fun b o u hu=>i1.jV b o u (inv.jV b o u hu),i1.glob,fun t x h=>by simp [get_nil] at h,
   i1.heap,i1.apart,i1.owns,i1.vers,fun r L h=>i1.jF r L (inv.jF r L h),i1.far⟩):G:=h
theorem acz{G:Prop}(h:G:=by
 refine wp_mono (h ct c hcc hok ⟨M,J,M0.x,[]⟩ w0 M J (vs ++ Array.replicate (fn.ntmps - vs.size) undef) w (YK (args:=args) (hp:=hp) (E0:=E0) (E:={ E0 with keep:=keep,N:=N }) rfl inv hn hr) (by simp [hn];omega)) ?_
 rintro e a w' ⟨s',M1,J1,hk,i1,hz,hd⟩
 all_goals(rcases(⟨_⟩:PLift _)with⟨h⟩;exact h)):G:=h
theorem ael{G:Prop}(h:G:=by
 obtain ⟨xs,h1,h2⟩:=kP (E:={ E0 with keep:=keep,N:=N }) hT (ct:=s'.ctr) fn.results.toList h'
 obtain ⟨vs',h3,h4,h5⟩:=kU i1 (fn:=fn) h1
 all_goals(rcases(⟨_⟩:PLift _)with⟨h⟩;exact h)):G:=h
theorem XY {E0:Env} {T:Tab} (hT:jA E0.P T) (keep:List Nat) (N:Nat) {f:FuncId} {fn:Func} {c:Code} {args:List AV} {hp:List (Nat × aG)} {R:AV -> List (Nat × aG) -> Prop} (hf:E0.P.funcs[f]? = some fn) (hb:fn.body = some c)
   (hname:(fn.name == "runtime.NumGoroutine") = false) (hnt:args.length <= fn.ntmps) (hok:bQ fn.ntmps c = true) {cc:CC} (hcc:comp c = cc) {rs:List ResultVar} (hrs:fn.results.toList = rs)
   (h:∀ ct,Wp { E0 with keep:=keep,N:=N } fn.ntmps cc (GH T rs R) ⟨params 0 args,hp,ct⟩):dn E0 N f args hp R:=by
 subst hrs
 intro M0 w0 ct M J w vs inv hn hr
 refine ⟨ji hf hb hname w,?_⟩
 refine calls_of_wp hf hb ?_
 refine' acz
 have fin:Qy T fn.results.toList s' R -> ∃ v,(results fn a.tmps).run E0.P w' = .ok v w' /\ ∃ r,R r s'.hp /\ Rel M1 J1 r v:=by
   intro h'
   refine' ael
   exact ⟨_,h3,_,h2,tq (R:=Rel M1 J1) (fun xs vs a b=>.dM a b) h4 h5⟩
 have out:Qy T fn.results.toList s' R -> a.defers = [] /\ ∃ v,(results fn a.tmps).run E0.P w' = .ok v w' /\ ∃ v' r hp' c' M' J',Ending.returned v = Ending.returned v' /\ R r hp' /\ Inv E0 M0 w0 c' M' J' ⟨[],hp',0⟩ #[] w' /\ Rel M' J' r v' /\ Sub M M' /\ iG J J':=by
   intro h'
   obtain ⟨v,h3,r,h4,h5⟩:=fin h'
   refine ⟨hd,v,h3,v,r,s'.hp,s'.ctr,M1,J1,rfl,h4,?_,h5,i1.jV,i1.jF⟩
   refine' abz
 cases e with
 | normal=>exact out hk
 | ret=>exact out hk
 | _=>exact hk.elim
def iR (ct:Nat) (K:AV -> List (Nat × aG) -> Nat -> Prop) (r:AV) (hp:List (Nat × aG)):Prop:=∀ c',ct + 8 <= c' -> K r hp c'
theorem YM {ct:Nat} {K:AV -> List (Nat × aG) -> Nat -> Prop} {r:AV} {hp:List (Nat × aG)} (h:∀ c',K r hp c'):iR ct K r hp:=fun c' _=>h c'
theorem inl {E0:Env} {T:Tab} (hT:jA E0.P T) (keep:List Nat) {nm:Nat} {f:FuncId} {fn:Func} {c:Code} {args:List AV} {hp:List (Nat × aG)} {ct:Nat} {K:AV -> List (Nat × aG) -> Nat -> Prop} (hf:E0.P.funcs[f]? = some fn) (hb:fn.body = some c)
   (hname:(fn.name == "runtime.NumGoroutine") = false) (hnt:args.length <= fn.ntmps) (hok:bQ fn.ntmps c = true) {cc:CC} (hcc:comp c = cc) {rs:List ResultVar} (hrs:fn.results.toList = rs)
   (h:∀ aW,Wp { E0 with keep:=keep,N:=65536 * (nm + 1) } fn.ntmps cc (GH T rs (iR ct K)) ⟨params 0 args,hp,aW⟩):dK E0 nm f args hp ct K :=
 ⟨_,XY hT keep (65536 * (nm + 1)) hf hb hname hnt hok hcc hrs h⟩
def iH (E:Env) (nt:Nat) (d:CC) (K:Exit -> St -> Prop):Nat -> St -> Prop
 | 0,_=>False
 | n + 1,s=>Wp E nt d (kM (iH E nt d K n) K) s
theorem YN {E:Env} {nt:Nat} {d:CC} {K:Exit -> St -> Prop} {n:Nat} {s:St} (h:Wp E nt d (kM (iH E nt d K n) K) s):iH E nt d K (n + 1) s:=h
theorem qH {E:Env} {nt:Nat} {d:CC} {K:Exit -> St -> Prop} {s:St} (n:Nat) (h:iH E nt d K n s):Wp E nt (.loop d) K s:=by
 refine loop (fun m s=>iH E nt d K m s) ⟨s,Gh.refl,n,h⟩ (fun m s1 h1=>?_)
 cases m with
 | zero=>exact h1.elim
 | succ m =>
   refine Wp.mono h1 (fun e s2 h2=>?_)
   cases e <;> simp only [kM] at h2 ⊢
   case normal=>exact ⟨s2,Gh.refl,m,Nat.lt_succ_self m,h2⟩
   all_goals exact h2
end Ev
end Go.Proofs.YtadlnaljicikfaaDoor.aI
