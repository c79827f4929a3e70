/- A part of the proof: a calculus over values, and contracts of functions. No condition. -/
import Derived.Test.YtadlnaljicikfaaDoorZN4
import Derived.Lib.ValidU
import Derived.Lib.MapLaws
import Derived.Shelf.Unicode.ValidAny
import Derived.WalkKit
import Derived.Laws.RangeString
import Derived.Laws.Strings
import Derived.Laws.RangeAny
import Derived.Test.YtadlnaljicikfaaDoorRows
import Derived.Lib.LaidIn
import Derived.Lib.LaidU8T
import Derived.Lib.SmallJoins
import Derived.LaidHandle
import Derived.ProofKit
import Derived.ChangeArms
import Derived.Deep.Slices
import Derived.OpenShut
import Derived.Carry
import Derived.Test.YtadlnaljicikfaaDoorTie
import Derived.Test.YtadlnaljicikfaaDoorCards
import Derived.Handed
import Derived.SevenTiedAt
import Derived.JoinedOf
set_option linter.unusedVariables false
set_option linter.unusedSimpArgs false
namespace Go.Proofs.YtadlnaljicikfaaDoor.aI
open Go
namespace I
abbrev mv (t:Nat):Op:=.move (.tmp t)
abbrev sa (t:Nat):Op:=.assign (.tmp t)
abbrev si (n:Int):Op:=.assign (.const (Value.int .i64 n))
abbrev sb (b:Bool):Op:=.assign (.const (Value.bool b))
abbrev sn:Op:=.assign (.const (Value.slice none 0 0))
abbrev ld (t x:Nat):Op:=.load t (.tmp x)
abbrev st (t p x:Nat):Op:=.store t (.tmp p) (.tmp x)
abbrev fa (t x f:Nat):Op:=.fieldAddr t (.tmp x) f
abbrev ia (t x i:Nat):Op:=.indexAddr t (.tmp x) (.tmp i)
abbrev ic (t x:Nat) (n:Int):Op:=.indexAddr t (.tmp x) (.const (Value.int .i64 n))
abbrev bo (o:BinOp) (t x y u:Nat):Op:=.binOp o t (.tmp x) (.tmp y) u
abbrev bc (o:BinOp) (t x:Nat) (n:Int) (u:Nat):Op:=.binOp o t (.tmp x) (.const (Value.int .i64 n)) u
abbrev ex (x i:Nat):Op:=.extract (.tmp x) i
abbrev pb (c:Nat) (b:Bool) (y:Nat):Op:=.pick (.tmp c) (.const (Value.bool b)) (.tmp y)
abbrev pc (c x:Nat) (b:Bool):Op:=.pick (.tmp c) (.tmp x) (.const (Value.bool b))
abbrev nc (x:Nat):Op:=.nilCheck (.tmp x)
abbrev cv (s d x:Nat):Op:=.convert s d (.tmp x)
abbrev ln (x t:Nat):Op:=.call { callee:=.builtin .len,args:=#[.tmp x],argTypes:=#[t] }
abbrev ap (x y t u:Nat):Op:=.call { callee:=.builtin .append,args:=#[.tmp x,.tmp y],argTypes:=#[t,u] }
abbrev c0 (f:Nat):Op:=.call { callee:=.value (.func f),args:=#[],argTypes:=#[] }
abbrev c1 (f x t:Nat):Op:=.call { callee:=.value (.func f),args:=#[.tmp x],argTypes:=#[t] }
abbrev c2 (f x y t u:Nat):Op:=.call { callee:=.value (.func f),args:=#[.tmp x,.tmp y],argTypes:=#[t,u] }
abbrev b1 (t x:Nat):Op:=.buildSlice t 1 #[(0,.tmp x)]
abbrev n (i d:Nat) (o:Op):Ins:=⟨i,some d,o,none⟩
abbrev u (i:Nat) (o:Op):Ins:=⟨i,none,o,none⟩
abbrev w (i d:Nat) (o:Op) (g:Nat) (b:Bool):Ins:=⟨i,some d,o,some (g,b)⟩
end I
namespace Ev
theorem bt {b:Bool} (h:b = true:=by first | rfl | (simp only [Ev.adE,Bool.and_true,Bool.true_and,Bool.not_false];done) | ((repeat' (first | exact Ev.adE _ | rfl | refine Bool.and_eq_true_iff.2 ⟨?_,?_⟩));done) | fail):b = true:=h
theorem ahQ {A B:Prop} (h:A):gK true A B:=h
theorem ahR {A B:Prop} (h:B):gK false A B:=h
theorem WC {E:Env} {T:Tab} {hs:List FuncId} {nm:Nat} {op:Op} {sl:List (Nat × AV)} {hp:List (Nat × aG)} {ct:Nat} {K:AV -> List (Nat × aG) -> Nat -> Prop} (h:bP E T hs nm op sl hp ct K):bP E T hs nm op sl hp ct K:=h
theorem aaR {d:Option Tmp} {x:AV} {sl:List (Nat × AV)} {Q:List (Nat × AV) -> Prop} (h:qW d x sl Q):qW d x sl Q:=h
theorem aaS {o:Option AV} {K:AV -> Prop} (h:zH o K):zH o K:=h
theorem sw {G G':Prop} (k:G') (h:G' -> G:=by first | (with_reducible first | exact Ev.WC | exact Ev.aaR | exact Ev.aaS | exact Ev.Yn | exact Ev.U7 | exact Ev.U8 | exact Ev.U9 | exact Ev.KO) | (refine fun k=>?_;with_reducible refine Ev.jB k ?_;exact Ev.bt) | fail):G:=h k
theorem sn {G G':Prop} (k:G') (h:G' -> G:=by with_reducible first | exact Ev.adH | exact Ev.Yr | exact Ev.UU | exact Ev.Yu | exact Ev.adB | exact Ev.Yp | exact Ev.Yv | exact Ev.Yt | exact Ev.adG | exact Ev.adI | exact Ev.adJ | exact Ev.Yo | exact Ev.ahQ | exact Ev.ahR | exact Ev.Yw | exact Ev.UY | exact Ev.YN | exact Ev.UZ | exact Ev.Yy | exact Ev.Yz | exact Ev.YA | exact Ev.YB | exact Ev.YC | exact Ev.adN | exact Ev.YD | exact Ev.YE | exact Ev.adO | exact Ev.YF | exact Ev.Yq rfl | exact Ev.adK rfl | fail):G:=h k
inductive RI:Prop -> Prop
 | Gs {p:Prop} [Decidable p] {A B:Prop} (h:p -> A) (k:¬ p -> B):RI (gK (decide p) A B)
 | UO {b:Bool} {A B:Prop} (h:b = true -> A) (k:b = false -> B):RI (gK b A B)
 | AL {p:Prop} [Decidable p] {A B:Prop} (h:p -> A) (k:¬ p -> B):RI (Gq (decide p) A B)
 | br {b:Bool} {A B:Prop} (h:b = true -> A) (k:b = false -> B):RI (Gq b A B)
theorem RI.run:∀ {P:Prop},RI P -> P
 | _,@RI.Gs _ _ _ _ h k=>Ev.Gs h k
 | _,.UO h k=>Ev.UO h k
 | _,@RI.AL _ _ _ _ h k=>Ev.AL h k
 | _,.br h k=>Ev.br h k
theorem sf {G G':Prop} (k:G') (h:G' -> G:=by with_reducible first | exact Ev.adM | exact Ev.Yx | exact Ev.YL | exact Ev.Vb | fail):G:=h k
theorem brp {p:Prop} [Decidable p] {A B:Prop} (k:A) (h:p:=by decide):Gq (decide p) A B:=Ev.aF h k
theorem brn {p:Prop} [Decidable p] {A B:Prop} (k:B) (h:¬ p:=by decide):Gq (decide p) A B:=Ev.aK h k
theorem cp {p:Prop} [Decidable p] {A B:Prop} (k:A) (h:p:=by decide):gK (decide p) A B:=Ev.aJ h k
theorem cn {p:Prop} [Decidable p] {A B:Prop} (k:B) (h:¬ p:=by decide):gK (decide p) A B:=Ev.aP h k
theorem kr {hs:List FuncId} {keep:List Nat} {N nt:Nat} {K:Exit -> St -> Prop} {sl:List (Nat × AV)} {hp:List (Nat × aG)} {ct:Nat} {id:Nat} {l:List Ins}
 (h:∀ Q:St -> Prop,(∀ s,K .normal s -> Q s) -> rM ⟨env.P,env.G,keep,N⟩ tab hs (N + id * 512) l sl hp ct Q):Wp ⟨env.P,env.G,keep,N⟩ nt (.reg id l) K ⟨sl,hp,ct⟩:=Ev.k_reg (vg _ _) h
theorem ca {E:Env} {f:FuncId} {args args':List AV} {hp:List (Nat × aG)} {nm ct:Nat} {K:AV -> List (Nat × aG) -> Nat -> Prop} {X:AV} (hc:aO E f args' fun r hs=>r = X /\ hs = []) (h:K X hp ct)
 (ha:args = args':=by ((repeat' (first | with_reducible rfl | refine Ev.U6 ?_ ?_)) <;> (first | rfl | (refine Ev.aB (Ev.Bg ?_ rfl);first | omega | (simp;done) | (simp;omega) | fail) | (refine Ev.int_eq ?_;omega) | (simp;done) | fail))) (hX:jW 6 X = true:=by rfl):C9 E f args hp nm ct K:=Ev.aU hc ha hX h
theorem dr {keep:List Nat} {N nt:Nat} {l:List Ins} {deps:List (List Nat)} {K:Exit -> St -> Prop} {sl:List (Nat × AV)} {hp:List (Nat × aG)} {ct:Nat} {pl:List Ins} (id:Nat) (hs:List FuncId) (plan:List Nat)
   (h:∀ Q:St -> Prop,(∀ s,K .normal s -> Q s) -> rM ⟨env.P,env.G,keep,N⟩ tab hs (N + id * 512) pl sl hp ct Q) (hpick:pick l plan = some pl:=by rfl) (hlen:plan.length = deps.length:=by rfl) (mW:yj hs l deps plan [] = true:=by decide):Wp ⟨env.P,env.G,keep,N⟩ nt (.draw id l deps) K ⟨sl,hp,ct⟩ :=
 Ev.YJ (vg _ _) (mixed' _ _) plan mW hlen hpick h
theorem drv {keep:List Nat} {N nt:Nat} {l:List Ins} {deps:List (List Nat)} {K:Exit -> St -> Prop} {sl:List (Nat × AV)} {hp:List (Nat × aG)} {ct:Nat} {pl:List (Ins × Bool)} (id:Nat) (hs:List FuncId) (plan:List (Nat × Bool))
   (h:∀ Q:St -> Prop,(∀ s,K .normal s -> Q s) -> wQ ⟨env.P,env.G,keep,N⟩ tab hs (N + id * 512) pl sl hp ct Q) (hpick:Dx l plan = some pl:=by rfl) (hlen:plan.length = deps.length:=by rfl) (mW:Dw hs l deps plan [] = true:=by decide):Wp ⟨env.P,env.G,keep,N⟩ nt (.draw id l deps) K ⟨sl,hp,ct⟩ :=
 Ev.Wu (vg _ _) (mixed' _ _) plan mW hlen hpick h
theorem Bq {keep:List Nat} {N nt:Nat} {l:List Ins} {deps:List (List Nat)} {K:Exit -> St -> Prop} {sl:List (Nat × AV)} {hp:List (Nat × aG)} {ct:Nat} {pl:RV} (id:Nat) (hs:List FuncId) (plan:Pl)
   (h:∀ Q:St -> Prop,(∀ s,K .normal s -> Q s) -> runT ⟨env.P,env.G,keep,N⟩ tab hs (N + id * 512) pl sl hp ct Q) (hpick:wS l plan = some pl:=by rfl) (hlen:plan.depth = deps.length:=by rfl) (mW:wR hs l deps plan [] = true:=by decide):Wp ⟨env.P,env.G,keep,N⟩ nt (.draw id l deps) K ⟨sl,hp,ct⟩ :=
 Ev.Wv (vg _ _) (mixed' _ _) plan mW hlen hpick h
theorem WE {keep:List Nat} {N nt:Nat} {l:List Ins} {deps:List (List Nat)} {K:Exit -> St -> Prop} {sl:List (Nat × AV)} {hp:List (Nat × aG)} {ct:Nat} {pl:OB} (id:Nat) (hs:List FuncId) (Dy:List (List Nat)) (plan:Tr)
   (h:∀ Q:St -> Prop,(∀ s,K .normal s -> Q s) -> jy ⟨env.P,env.G,keep,N⟩ tab hs (N + id * 512) pl sl hp ct Q) (hpick:rX l plan = some pl:=by rfl) (hlen:plan.depth = deps.length:=by rfl) (htr:qI deps Dy = true:=by decide) (hend:plan.uO = false:=by rfl) (mW:rW hs l Dy plan [] = true:=by decide):Wp ⟨env.P,env.G,keep,N⟩ nt (.draw id l deps) K ⟨sl,hp,ct⟩ :=
 Ev.Wx (vg _ _) (mixed' _ _) Dy plan htr hend mW hlen hpick h
theorem sd {p:Prop} (h:Side p:=by first | (refine Ev.Side.of ?_;exact Nat.le_of_ble_eq_true rfl) | (refine Ev.Side.of ?_;omega) | (refine Ev.Side.of ?_;simp only [Ev.wrap64];omega) | (refine Ev.U5 ?_ rfl ?_ (by decide) <;> (first | omega | (simp;done) | (simp;omega) | fail)) | exact Ev.Qv rfl (by decide) |
 (refine Ev.jG ?_ ?_ ?_ (by decide) <;> (first | omega | exact KJ _ | exact gQ _ | exact Sj _ | (simp;done) | (simp;omega) | fail)) | (refine Ev.Aa ?_ ?_ (by decide) <;> (first | omega | exact KJ _ | exact gQ _ | exact Sj _ | (simp;done) | (simp;omega) | fail)) |
 (refine Ev.Side.of ?_;first | (simp;done) | (simp;omega) | fail) | fail):Side p:=h
theorem sg {G G':Prop} (k:G') (h:G' -> G:=by (refine fun k=>?_;with_reducible refine Ev.sided k ?_;exact Ev.sd)):G:=h k
theorem se {α:Type} {l:List (Nat × α)} {t:Nat} {b:α} (h:get l t = some b:=by (refine Ev.ah rfl ?_;first | with_reducible rfl | (refine Ev.int_eq ?_;first | omega | (simp only [Ev.wrap64,Ev.KH,Ev.wrap32,Int.toNat_natCast] at *;omega)) | ((first | refine Ev.Qs ?_ | refine Ev.Qu ?_);first | with_reducible rfl | omega))):get l t = some b:=h
theorem sr {α:Type} {l:List (Nat × α)} {t:Nat} {b:α} (h:get l t = some b:=by rfl):get l t = some b:=h
theorem fn {args:List AV} (keep:List Nat) (N:Nat) {f:FuncId} {fn:Func} {c:Code} {R:AV -> List aG -> Prop} {cc:CC} (rs:List ResultVar) (hf:env.P.funcs[f]? = some fn) (hcc:comp c = cc) (h:Wp ⟨env.P,env.G,keep,N⟩ fn.ntmps cc (MS tab rs R) ⟨params 0 args,[],0⟩)
 (hb:fn.body = some c:=by rfl) (hname:(fn.name == "runtime.NumGoroutine") = false:=by rfl) (hok:bQ fn.ntmps c = true:=by rfl) (hrs:fn.results.toList = rs:=by rfl) (hnt:args.length <= fn.ntmps:=by exact Nat.le_of_ble_eq_true rfl):aO env f args R:=Ev.func Du keep N hf hb hname hnt hok hcc hrs h
theorem fnO {args:List AV} (keep:List Nat) (N:Nat) {f:FuncId} {fn:Func} {c:Code} {R:AV -> List aG -> Prop} {cc:CC} (rs:List ResultVar) (hf:env.P.funcs[f]? = some fn) (hcc:comp c = cc) (h:Wp ⟨env.P,env.G,keep,N⟩ fn.ntmps cc (UW tab rs R) ⟨params 0 args,[],0⟩)
 (hb:fn.body = some c:=by rfl) (hname:(fn.name == "runtime.NumGoroutine") = false:=by rfl) (hok:bQ fn.ntmps c = true:=by rfl) (hrs:fn.results.toList = rs:=by rfl) (hnt:args.length <= fn.ntmps:=by exact Nat.le_of_ble_eq_true rfl):aO env f args R:=Ev.adL Du keep N hf hb hname hnt hok hcc hrs h
theorem Cj {args:List AV} (keep:List Nat) (N:Nat) {f:FuncId} {fn:Func} {c:Code} {hp:List (Nat × aG)} {R:AV -> List (Nat × aG) -> Prop} {cc:CC} (rs:List ResultVar) (hf:env.P.funcs[f]? = some fn) (hcc:comp c = cc) (h:∀ ct,Wp ⟨env.P,env.G,keep,N⟩ fn.ntmps cc (GH tab rs R) ⟨params 0 args,hp,ct⟩)
 (hb:fn.body = some c:=by rfl) (hname:(fn.name == "runtime.NumGoroutine") = false:=by rfl) (hok:bQ fn.ntmps c = true:=by rfl) (hrs:fn.results.toList = rs:=by rfl) (hnt:args.length <= fn.ntmps:=by exact Nat.le_of_ble_eq_true rfl):dn env N f args hp R:=Ev.XY Du keep N hf hb hname hnt hok hcc hrs h
theorem fnV {args:List AV} (keep:List Nat) (N:Nat) {f:FuncId} {fn:Func} {c:Code} {R:AV -> List aG -> Prop} {cc:CC} (rs:List ResultVar) (hf:env.P.funcs[f]? = some fn) (hcc:comp c = cc) (h:WA ⟨env.P,env.G,keep,N⟩ fn.ntmps cc (MS tab rs R) (aaO env tab rs R) ⟨params 0 args,[],0⟩)
 (hb:fn.body = some c:=by rfl) (hname:(fn.name == "runtime.NumGoroutine") = false:=by rfl) (hok:bQ fn.ntmps c = true:=by rfl) (hrs:fn.results.toList = rs:=by rfl) (hnt:args.length <= fn.ntmps:=by exact Nat.le_of_ble_eq_true rfl):aO env f args R:=Ev.afJ Du keep N hf hb hname hnt hok hcc hrs h
theorem fnD {args:List AV} (keep:List Nat) (N:Nat) {f:FuncId} {fn:Func} {c:Code} {hp:List (Nat × aG)} {R:List (Nat × aG) -> Prop} {cc:CC} (rs:List ResultVar) (hf:env.P.funcs[f]? = some fn) (hcc:comp c = cc) (h:∀ ct,Wp ⟨env.P,env.G,keep,N⟩ fn.ntmps cc (GH tab rs (fun _ hp'=>R hp')) ⟨params 0 args,hp,ct⟩)
 (hb:fn.body = some c:=by rfl) (hname:(fn.name == "runtime.NumGoroutine") = false:=by rfl) (hok:bQ fn.ntmps c = true:=by rfl) (hrs:fn.results.toList = rs:=by rfl) (hnt:args.length <= fn.ntmps:=by exact Nat.le_of_ble_eq_true rfl):Bo env f args hp R:=Ev.afI Du keep N hf hb hname hnt hok hcc hrs h
theorem sd0 {p:Prop} (h:Side p):Side p:=h
theorem br0 {p:Prop} [Decidable p] {A B:Prop} (h:Gq (decide p) A B):Gq (decide p) A B:=h
theorem c0 {p:Prop} [Decidable p] {A B:Prop} (h:gK (decide p) A B):gK (decide p) A B:=h
theorem ca0 {E:Env} {nm ct:Nat} {f:FuncId} {args:List AV} {hp:List (Nat × aG)} {K:AV -> List (Nat × aG) -> Nat -> Prop} (h:C9 E f args hp nm ct K):C9 E f args hp nm ct K:=h
theorem gI {E:Env} {nm ct:Nat} {f:FuncId} {args:List AV} {hp:List (Nat × aG)} {K:AV -> List (Nat × aG) -> Nat -> Prop} (h:dK E nm f args hp ct K):dK E nm f args hp ct K:=h
theorem dG {E:Env} {nt id:Nat} {l:List Ins} {deps:List (List Nat)} {K:Exit -> St -> Prop} {s:St} (h:Wp E nt (.draw id l deps) K s):Wp E nt (.draw id l deps) K s:=h
theorem kZ {E:Env} {nm ct:Nat} (f:FuncId) {args:List AV} {hp:List (Nat × aG)} {K:AV -> List (Nat × aG) -> Nat -> Prop} (h:dK E nm f args hp ct K):dK E nm f args hp ct K:=h
theorem il {afL:List Nat} {N0:Nat} {args:List AV} (f:FuncId) (keep:List Nat) {fn:Func} {c:Code} {nm ct:Nat} {hp:List (Nat × aG)} {K:AV -> List (Nat × aG) -> Nat -> Prop} {cc:CC} (rs:List ResultVar) (hf:env.P.funcs[f]? = some fn) (hcc:comp c = cc)
   (h:∀ aW,Wp ⟨env.P,env.G,keep,65536 * (nm + 1)⟩ fn.ntmps cc (GH tab rs (iR ct K)) ⟨params 0 args,hp,aW⟩)
   (hb:fn.body = some c:=by rfl) (hname:(fn.name == "runtime.NumGoroutine") = false:=by rfl) (hok:bQ fn.ntmps c = true:=by rfl) (hrs:fn.results.toList = rs:=by rfl) (hnt:args.length <= fn.ntmps:=by exact Nat.le_of_ble_eq_true rfl):dK ⟨env.P,env.G,afL,N0⟩ nm f args hp ct K :=
 Ev.inl (vg _ _) keep hf hb hname hnt hok hcc hrs h
theorem zS {G:Prop} (h:G:=by (first | ((refine Ev.sw ?_);conv=>whnf) | refine Ev.sn ?_ | ((with_reducible refine Ev.jB ?_ ?_);rotate_left;exact Ev.bt;conv=>whnf) | ((with_reducible (refine Ev.RI.run ?_;constructor)) <;> intro _) | ((refine Ev.sg ?_);conv=>whnf) | ((with_reducible refine Ev.sided ?_ ?_);conv=>whnf) | (with_reducible refine hQ _ ?_;clear hQ Q) | ((refine Ev.sf ?_);intro F hF;conv=>whnf) | (with_reducible refine hF _ ?_;clear hF F) | ((with_reducible refine Ev.YM (fun c'=>?_));conv=>whnf) | fail);all_goals (rcases (⟨_⟩:PLift _) with ⟨h⟩;exact h)):G:=h
theorem Bv {G:Prop} (h:G:=by (first | ((refine Ev.sw ?_);conv=>whnf) | refine Ev.sn ?_ | ((with_reducible refine Ev.jB ?_ ?_);rotate_left;exact Ev.bt;conv=>whnf) | ((with_reducible (refine Ev.RI.run ?_;constructor)) <;> intro _) | ((with_reducible refine Ev.sided ?_ ?_);conv=>whnf) | (with_reducible refine hQ _ ?_;clear hQ Q) | ((refine Ev.sf ?_);intro F hF;conv=>whnf) | (with_reducible refine hF _ ?_;clear hF F) | ((with_reducible refine Ev.YM (fun c'=>?_));conv=>whnf) | fail);all_goals (rcases (⟨_⟩:PLift _) with ⟨h⟩;exact h)):G:=h
theorem zK {G:Prop} (h:G:=by (with_reducible refine Ev.kr (hs:=[]) (fun Q hQ=>?_));(simp only [Ev.aj,Ev.ak]);(conv=>whnf);all_goals (rcases (⟨_⟩:PLift _) with ⟨h⟩;exact h)):G:=h
theorem zT {G:Prop} (h:G:=by (first | ((first | refine Ev.KN ?_ (fun hi=>?_) | refine Ev.KL ?_ (fun hi=>?_));rotate_left;conv=>whnf) | ((with_reducible refine Ev.sd0 ?_);exact Ev.sd) | fail);all_goals (rcases (⟨_⟩:PLift _) with ⟨h⟩;exact h)):G:=h
theorem zP {G:Prop} (h:G:=by (first | ((with_reducible refine Ev.br0 ?_);(first | refine Ev.brp ?_ | refine Ev.brn ?_ | fail);conv=>whnf) | ((with_reducible refine Ev.c0 ?_);first | refine Ev.cp ?_ | refine Ev.cn ?_ | fail) | fail);all_goals (rcases (⟨_⟩:PLift _) with ⟨h⟩;exact h)):G:=h
theorem zW {G:Prop} (h:G:=by (repeat' (first | ((refine Ev.sw ?_);conv=>whnf) | refine Ev.sn ?_ | ((with_reducible refine Ev.jB ?_ ?_);rotate_left;exact Ev.bt;conv=>whnf) | ((with_reducible (refine Ev.RI.run ?_;constructor)) <;> intro _) | ((refine Ev.sg ?_);conv=>whnf) | ((with_reducible refine Ev.sided ?_ ?_);conv=>whnf) | (with_reducible refine hQ _ ?_;clear hQ Q) | ((refine Ev.sf ?_);intro F hF;conv=>whnf) | (with_reducible refine hF _ ?_;clear hF F) | ((with_reducible refine Ev.YM (fun c'=>?_));conv=>whnf) | ((with_reducible refine Ev.kr (hs:=[]) (fun Q hQ=>?_));(simp only [Ev.aj,Ev.ak]);conv=>whnf) | ((first | refine Ev.KN ?_ (fun hi=>?_) | refine Ev.KL ?_ (fun hi=>?_));rotate_left;conv=>whnf) | ((with_reducible refine Ev.sd0 ?_);exact Ev.sd) | fail));all_goals (rcases (⟨_⟩:PLift _) with ⟨h⟩;exact h)):G:=h
theorem zR {G:Prop} (h:G:=by (simp only [Ev.aj,Ev.ak]);(conv=>whnf);all_goals (rcases (⟨_⟩:PLift _) with ⟨h⟩;exact h)):G:=h
theorem zp {G:Prop} (h:G:=by ((repeat' (first | exact trivial | refine And.intro ?_ ?_)) <;> (first | exact Ev.se | refine Ev.ah rfl ?_ | exact Ev.sr | fail));all_goals (rcases (⟨_⟩:PLift _) with ⟨h⟩;exact h)):G:=h
theorem ze {G:Prop} (h:G:=by (first | refine Ev.int_eq ?_ | refine Ev.Qs ?_ | refine Ev.Qu ?_);all_goals (rcases (⟨_⟩:PLift _) with ⟨h⟩;exact h)):G:=h
theorem zU {G:Prop} (h:G:=by (refine Ev.Side.of ?_;exact Nat.le_of_ble_eq_true rfl)):G:=h
theorem zl {G:Prop} (h:G:=by (refine' Ev.zp <;> first | exact wrap_succ (by omega) | exact hw | (rw [aA];rfl) | (simp;done) | rfl | (simp;omega) | (refine' Ev.ze;first | exact wrap_succ (by omega) | (simp;done) | rfl | (simp;omega) | omega | fail) | fail)):G:=h
theorem zA {E:Env} {I:Nat -> St -> Prop} {n:Nat} {s s2:St} (m:Nat) (hI:I m s2) (hb:subs s.sl s2.sl /\ subs s.hp s2.hp:=by exact Ev.zl) (hc:s.ctr <= s2.ctr:=by exact Nat.le_refl _) (hm:m < n:=by omega):Again E I n s:=Ev.again m s2 hm hb.1 hb.2 hc hI
theorem zB {E:Env} {J:St -> Prop} {s s2:St} (hI:J s2) (hb:subs s.sl s2.sl /\ subs s.hp s2.hp:=by exact Ev.zl) (hc:s.ctr <= s2.ctr:=by exact Nat.le_refl _):To E J s:=Ev.to s2 hb.1 hb.2 hc hI
end Ev
end Go.Proofs.YtadlnaljicikfaaDoor.aI
namespace Go.Proofs.YtadlnaljicikfaaDoor.aI
open Go
set_option maxRecDepth 100000
attribute [local irreducible] Ev.iH Ev.iR Ev.bY Ev.runK Ev.cu Ev.gK Ev.Side Ev.Wp Ev.Again Ev.To Ev.Fin
def jc (n:Int):Int:=if n < 0 ∨ 1114111 < n ∨ (55296 <= n /\ n <= 57343) then 0 else if n < 128 then 1 else if n < 2048 then 2 else if n < 65536 then 3 else 4
theorem WG:∀ c,Tryd.f124.body = some c -> comp c = (.seq (.reg 0 [I.n 0 2 (I.si 0)]) (.seq (.seq (.reg 1 [I.n 0 3 (I.mv 0),I.n 1 4 (I.bc .lss 3 3 0 3),I.n 2 5 (I.mv 4),I.w 3 6 (I.mv 0) 5 false,I.w 4 7 (I.bc .gtr 3 6 1114111 3) 5 false,I.n 5 8 (I.pb 5 true 7),I.n 6 9 (I.mv 8),I.w 7 10 (I.mv 0) 9 false,I.w 8 11 (I.bc .geq 3 10 55296 3) 9 false,I.w 9 12 (I.mv 11) 9 false,I.w 10 13 (I.mv 0) 12 true,I.w 11 14 (I.bc .leq 3 13 57343 3) 12 true,I.w 12 15 (I.pc 12 14 false) 9 false,I.n 13 16 (I.pb 9 true 15)]) (.cond (.tmp 16) (.seq (.reg 2 [I.n 0 2 (I.si 0)]) .ret) .skip)) (.seq (.seq (.reg 3 [I.n 0 17 (I.mv 0),I.n 1 18 (I.bc .lss 3 17 128 3)]) (.cond (.tmp 18) (.seq (.reg 4 [I.n 0 2 (I.si 1)]) .ret) .skip)) (.seq (.seq (.reg 5 [I.n 0 19 (I.mv 0),I.n 1 20 (I.bc .lss 3 19 2048 3)]) (.cond (.tmp 20) (.seq (.reg 6 [I.n 0 2 (I.si 2)]) .ret) .skip)) (.seq (.seq (.reg 7 [I.n 0 21 (I.mv 0),I.n 1 22 (I.bc .lss 3 21 65536 3)]) (.cond (.tmp 22) (.seq (.reg 8 [I.n 0 2 (I.si 3)]) .ret) .skip)) (.seq (.reg 9 [I.n 0 2 (I.si 4)]) .ret)))))):=by
 intro c h
 have:c = Tryd.f124.body.get rfl:=by rw [<- Option.some_inj,<- h];rfl
 rw [this];rfl
theorem X3{G:Prop}(h:G:=by (repeat' (first | refine' Ev.Bv | refine' Ev.zK | refine' Ev.zU | fail));all_goals(rcases(⟨_⟩:PLift _)with⟨h⟩;exact h)):G:=h
theorem DC (n:Int):aO env 124 [.v (.int .i64 n)] (fun r hs=>r = .v (.int .i64 (jc n)) /\ hs = []):=by
 refine Ev.fn [0,2,16,18,20,22] 0 [.tmp 2] Tryd.func124 (WG _ rfl) ?_
 refine' X3
 all_goals (refine ⟨congrArg (fun z=>AV.v (Value.int IntKind.i64 z)) ?_,rfl⟩;unfold jc;omega)
def GL (b m n:Int):Prop:=(240 <= b /\ b < 248 /\ m = 3 /\ n = b - 240) ∨ (224 <= b /\ b < 240 /\ m = 2 /\ n = b - 224) ∨ (192 <= b /\ b < 224 /\ m = 1 /\ n = b - 192) ∨ (b < 128 /\ m = 0 /\ n = b)
def lg (s:ByteArray) (n0:Int):Nat -> Option Int
 | 0=>some n0
 | i + 1=>match lg s n0 i with
   | some n=>if 128 <= Ev.iF s (i + 1) /\ Ev.iF s (i + 1) <= 191 then some (n * 64 + Ev.iF s (i + 1) - 128) else none
   | none=>none
def Sl (t:ByteArray) (n k:Int):Prop :=
 (n = 0 /\ k = 0 /\ (t.size = 0 ∨ (128 <= Ev.iF t 0 /\ (Ev.iF t 0 < 192 ∨ 248 <= Ev.iF t 0)) ∨ ∃ m n0,GL (Ev.iF t 0) m n0 /\ (t.size < m + 1 ∨ (∃ i:Nat,i <= m /\ lg t n0 i = none) ∨ ∃ n',lg t n0 m.toNat = some n' /\ jc n' ≠ m + 1))) ∨
 (0 < t.size /\ ∃ m n0,GL (Ev.iF t 0) m n0 /\ m + 1 <= t.size /\ lg t n0 m.toNat = some n /\ jc n = m + 1 /\ k = m + 1)
theorem WH:∀ c,Tryd.f158.body = some c -> comp c = (.seq (.reg 0 [I.n 0 2 (I.si 0),I.n 1 3 (I.si 0)]) (.seq (.seq (.reg 1 [I.n 0 9 (I.mv 0),I.n 1 10 (I.ln 9 9),I.n 2 11 (I.bc .eql 3 10 0 3)]) (.cond (.tmp 11) (.seq (.reg 2 [I.n 0 2 (I.si 0),I.n 1 3 (I.si 0)]) .ret) .skip)) (.seq (.reg 3 [I.n 0 12 (I.mv 0),I.n 1 13 (.index 9 (.tmp 12) (.const (Value.int .i64 0))),I.n 2 14 (I.cv 5 3 13),I.n 3 4 (I.sa 14)]) (.seq (.reg 4 [I.n 0 5 (I.si 0)]) (.seq (.reg 5 [I.n 0 15 (I.mv 4),I.n 1 6 (I.sa 15)]) (.seq (.seq (.reg 6 [I.n 0 16 (I.mv 4),I.n 1 17 (I.bc .geq 3 16 240 3),I.n 2 18 (I.mv 17),I.w 3 19 (I.mv 4) 18 true,I.w 4 20 (I.bc .lss 3 19 248 3) 18 true,I.n 5 21 (I.pc 18 20 false)]) (.cond (.tmp 21) (.seq (.reg 7 [I.n 0 5 (I.si 3)]) (.reg 8 [I.n 0 22 (I.mv 4),I.n 1 23 (I.bc .sub 3 22 240 3),I.n 2 6 (I.sa 23)])) (.seq (.reg 9 [I.n 0 24 (I.mv 4),I.n 1 25 (I.bc .geq 3 24 224 3),I.n 2 26 (I.mv 25),I.w 3 27 (I.mv 4) 26 true,I.w 4 28 (I.bc .lss 3 27 240 3) 26 true,I.n 5 29 (I.pc 26 28 false)]) (.cond (.tmp 29) (.seq (.reg 10 [I.n 0 5 (I.si 2)]) (.reg 11 [I.n 0 30 (I.mv 4),I.n 1 31 (I.bc .sub 3 30 224 3),I.n 2 6 (I.sa 31)])) (.seq (.reg 12 [I.n 0 32 (I.mv 4),I.n 1 33 (I.bc .geq 3 32 192 3),I.n 2 34 (I.mv 33),I.w 3 35 (I.mv 4) 34 true,I.w 4 36 (I.bc .lss 3 35 224 3) 34 true,I.n 5 37 (I.pc 34 36 false)]) (.cond (.tmp 37) (.seq (.reg 13 [I.n 0 5 (I.si 1)]) (.reg 14 [I.n 0 38 (I.mv 4),I.n 1 39 (I.bc .sub 3 38 192 3),I.n 2 6 (I.sa 39)])) (.seq (.reg 15 [I.n 0 40 (I.mv 4),I.n 1 41 (I.bc .geq 3 40 128 3)]) (.cond (.tmp 41) (.seq (.reg 16 [I.n 0 2 (I.si 0),I.n 1 3 (I.si 0)]) .ret) .skip)))))))) (.seq (.seq (.reg 17 [I.n 0 42 (I.mv 0),I.n 1 43 (I.ln 42 9),I.n 2 44 (I.mv 5),I.n 3 45 (I.bc .add 3 44 1 3),I.n 4 46 (I.bo .lss 3 43 45 3)]) (.cond (.tmp 46) (.seq (.reg 18 [I.n 0 2 (I.si 0),I.n 1 3 (I.si 0)]) .ret) .skip)) (.seq (.seq (.reg 19 [I.n 0 7 (I.si 1)]) (.block 0 (.loop (.seq (.seq (.reg 20 [I.n 0 47 (I.mv 7),I.n 1 48 (I.mv 5),I.n 2 49 (I.bo .leq 3 47 48 3)]) (.cond (.tmp 49) .skip (.exit 0))) (.seq (.block 1 (.seq (.reg 22 [I.n 0 52 (I.mv 0),I.n 1 53 (I.mv 7),I.n 2 54 (.index 9 (.tmp 52) (.tmp 53)),I.n 3 55 (I.cv 5 3 54),I.n 4 8 (I.sa 55)]) (.seq (.seq (.reg 23 [I.n 0 56 (I.mv 8),I.n 1 57 (I.bc .lss 3 56 128 3),I.n 2 58 (I.mv 57),I.w 3 59 (I.mv 8) 58 false,I.w 4 60 (I.bc .gtr 3 59 191 3) 58 false,I.n 5 61 (I.pb 58 true 60)]) (.cond (.tmp 61) (.seq (.reg 24 [I.n 0 2 (I.si 0),I.n 1 3 (I.si 0)]) .ret) .skip)) (.reg 25 [I.n 0 62 (I.mv 6),I.n 1 63 (I.bc .mul 3 62 64 3),I.n 2 64 (I.mv 8),I.n 3 65 (I.bo .add 3 63 64 3),I.n 4 66 (I.bc .sub 3 65 128 3),I.n 5 6 (I.sa 66)])))) (.reg 21 [I.n 0 50 (I.mv 7),I.n 1 51 (I.bc .add 3 50 1 3),I.n 2 7 (I.sa 51)])))))) (.seq (.seq (.reg 26 [I.n 0 67 (I.mv 6),I.n 1 68 (I.c1 124 67 3),I.n 2 69 (I.mv 5),I.n 3 70 (I.bc .add 3 69 1 3),I.n 4 71 (I.bo .neq 3 68 70 3)]) (.cond (.tmp 71) (.seq (.reg 27 [I.n 0 2 (I.si 0),I.n 1 3 (I.si 0)]) .ret) .skip)) (.seq (.reg 28 [I.n 0 72 (I.mv 6),I.n 1 73 (I.mv 5),I.n 2 74 (I.bc .add 3 73 1 3),I.n 3 2 (I.sa 72),I.n 4 3 (I.sa 74)]) .ret)))))))))):=by
 intro c h
 have:c = Tryd.f158.body.get rfl:=by rw [<- Option.some_inj,<- h];rfl
 rw [this];rfl
theorem aa8{G:Prop}(h:G:=by
 have hbi:=Ev.Ey t i
 simp only [Ev.wrap64,Int.toNat_natCast] at hc
 refine ⟨_,_,rfl,Or.inl ⟨rfl,rfl,Or.inr (Or.inr ⟨m,n0,hl,Or.inr (Or.inl ⟨i,by omega,?_⟩)⟩)⟩,rfl⟩
 obtain ⟨j,rfl⟩:∃ j,i = j + 1:=⟨i - 1,by omega⟩
 simp only [Nat.add_sub_cancel] at ha
 simp only [lg,ha];rw [if_neg (by omega)]):G:=h
theorem Sm{G:Prop}(h:G:=by refine Ev.Side.of ?_;omega):G:=h
theorem JI (t:ByteArray):aO env 158 [.v (.string t)] (fun r hs=>∃ n k,r = .dM [.v (.int .i64 n),.v (.int .i64 k)] /\ Sl t n k /\ hs = []):=by
 have hb:=Ev.Ey t 0
 refine Ev.fn [0,2,3,4,5,6,7,8,11,21,29,37,41,46,49,61,71] 0 [.tmp 2,.tmp 3] Tryd.func158 (WH _ rfl) ?_
 repeat' (first | (with_reducible refine Ev.join (a:=.seq (.reg 6 _) _) (fun s=>∃ m n,s = ⟨[(0,.v (.string t)),(2,.v (.int .i64 0)),(3,.v (.int .i64 0)),(5,.v (.int .i64 m)),(6,.v (.int .i64 n))],[],0⟩ /\ GL (Ev.iF t 0) m n) ?_ ?_) | refine' Ev.Bv | refine' Ev.zK | refine' Ev.zU | fail)
 all_goals first
   | (refine Ev.to ⟨[(0,_),(2,_),(3,_),(5,_),(6,_)],[],0⟩ ⟨rfl,rfl,rfl,rfl,rfl,trivial⟩ trivial (Nat.le_refl _) ⟨_,_,rfl,?_⟩;(try simp only [Ev.wrap64,Int.reduceToNat] at *);unfold GL;omega)
   | (refine ⟨_,_,rfl,Or.inl ⟨rfl,rfl,?_⟩,rfl⟩;(try simp only [Ev.wrap64,Int.reduceToNat] at *);first | exact Or.inl (by omega) | exact Or.inr (Or.inl (by omega)))
   | skip
 rintro s ⟨m,n0,rfl,hl⟩
 have hm:0 <= m /\ m <= 3 /\ 0 <= n0 /\ n0 < 256:=by unfold GL at hl;omega
 refine' X3
 · refine ⟨_,_,rfl,Or.inl ⟨rfl,rfl,Or.inr (Or.inr ⟨m,n0,hl,Or.inl ?_⟩)⟩,rfl⟩
   simp only [Ev.wrap64] at *;omega
 rename_i hsz
 simp only [Ev.wrap64] at hsz
 refine Ev.loop (fun k s=>∃ (i:Nat) (n:Int),s = ⟨[(0,.v (.string t)),(2,.v (.int .i64 0)),(3,.v (.int .i64 0)),(5,.v (.int .i64 m)),(6,.v (.int .i64 n)),(7,.v (.int .i64 i))],[],0⟩ /\ (k:Int) + i = m + 1 /\ 1 <= i /\ lg t n0 (i - 1) = some n /\ 0 <= n /\ (i = 1 -> n < 256) /\ (i = 2 -> n < 20000) /\ (i = 3 -> n < 2000000) /\ (i = 4 -> n < 200000000)) ?_ ?_
 · refine Ev.to ⟨[(0,_),(2,_),(3,_),(5,_),(6,_),(7,_)],[],0⟩ ⟨rfl,rfl,rfl,rfl,rfl,rfl,trivial⟩ trivial (Nat.le_refl _) ⟨m.toNat,1,n0,rfl,?_⟩
   exact ⟨by omega,by omega,rfl,by omega,by omega,by omega,by omega,by omega⟩
 rintro k s1 ⟨i,n,rfl,hk,hi,ha,hn,h1,h2,h3,h4⟩
 repeat' (first | refine' Ev.Bv | refine' Ev.zK | ((refine Ev.aU (DC _) rfl rfl ?_);conv=>whnf) | refine' Ev.zU | fail)
 · rename_i _ hc
   refine' aa8
 · rename_i _ _ hc
   refine' aa8
 · rename_i hm1 hc1 hc2
   have hbi:=Ev.Ey t i
   simp only [Ev.wrap64,Int.toNat_natCast] at hc1 hc2
   have hi4:i = 1 ∨ i = 2 ∨ i = 3:=by omega
   refine Ev.again (k - 1) ⟨[(0,_),(2,_),(3,_),(5,_),(6,.v (.int .i64 (n * 64 + Ev.iF t i - 128))),(7,.v (.int .i64 ((i + 1:Nat):Int)))],[],0⟩ (by omega)
     ⟨rfl,rfl,rfl,rfl,Ev.eu rfl (by simp only [Ev.wrap64,Int.toNat_natCast];omega),Ev.eu rfl (by simp only [Ev.wrap64];omega),trivial⟩ trivial (Nat.le_refl _) ⟨i + 1,_,rfl,by omega,by omega,?_,by omega,by omega,by omega,by omega,by omega⟩
   obtain ⟨j,rfl⟩:∃ j,i = j + 1:=⟨i - 1,by omega⟩
   simp only [Nat.add_sub_cancel] at ha
   simp only [Nat.add_sub_cancel,lg,ha];rw [if_pos (by omega)]
 · refine' Sm
 · rename_i hm1 hs
   refine ⟨_,_,rfl,Or.inr ⟨by omega,m,n0,hl,by omega,?_,?_,?_⟩,rfl⟩
   · rw [<- ha,show i - 1 = m.toNat by omega]
   · simp only [Ev.wrap64] at hs;omega
   · simp only [Ev.wrap64];omega
 · rename_i hm1 hs
   refine ⟨_,_,rfl,Or.inl ⟨rfl,rfl,Or.inr (Or.inr ⟨m,n0,hl,Or.inr (Or.inr ⟨n,?_,?_⟩)⟩)⟩,rfl⟩
   · rw [<- ha,show i - 1 = m.toNat by omega]
   · simp only [Ev.wrap64] at hs;omega
 · refine' Sm
end Go.Proofs.YtadlnaljicikfaaDoor.aI
namespace Go.Proofs.YtadlnaljicikfaaDoor.aI
open Go
def yu (t:ByteArray):Int × Int:=if t.size = 0 ∨ Utf8.decode t 0 = (65533,1) then (0,0) else (((Utf8.decode t 0).1:Int),((Utf8.decode t 0).2:Int))
theorem Ac {t:ByteArray} {i:Nat} (h:i < t.size):Ev.iF t i = ((t.get! i).toNat:Int):=by
 rw [Ev.Ql h]
 have:t.get! i = t[i]'h:=by
   show t.data[i]! = t.data[i]
   rw [getElem!_pos t.data i h]
 rw [this]
theorem ahS (t:ByteArray):Utf8.decode t 0 =
   if (t.get! 0).toNat < 128 then ((t.get! 0).toNat,1)
   else if (t.get! 0).toNat / 32 = 6 /\ 1 < t.size /\ (t.get! 1).toNat / 64 = 2 then
     (if (t.get! 0).toNat % 32 * 64 + (t.get! 1).toNat % 64 ≥ 128 then ((t.get! 0).toNat % 32 * 64 + (t.get! 1).toNat % 64,2) else (65533,1))
   else if (t.get! 0).toNat / 16 = 14 /\ (1 < t.size /\ (t.get! 1).toNat / 64 = 2) /\ 2 < t.size /\ (t.get! 2).toNat / 64 = 2 then
     (if (t.get! 0).toNat % 16 * 4096 + (t.get! 1).toNat % 64 * 64 + (t.get! 2).toNat % 64 ≥ 2048 /\ Utf8.valid ((t.get! 0).toNat % 16 * 4096 + (t.get! 1).toNat % 64 * 64 + (t.get! 2).toNat % 64:Nat) = true then ((t.get! 0).toNat % 16 * 4096 + (t.get! 1).toNat % 64 * 64 + (t.get! 2).toNat % 64,3) else (65533,1))
   else if (t.get! 0).toNat / 8 = 30 /\ (1 < t.size /\ (t.get! 1).toNat / 64 = 2) /\ (2 < t.size /\ (t.get! 2).toNat / 64 = 2) /\ 3 < t.size /\ (t.get! 3).toNat / 64 = 2 then
     (if (t.get! 0).toNat % 8 * 262144 + (t.get! 1).toNat % 64 * 4096 + (t.get! 2).toNat % 64 * 64 + (t.get! 3).toNat % 64 ≥ 65536 /\ Utf8.valid ((t.get! 0).toNat % 8 * 262144 + (t.get! 1).toNat % 64 * 4096 + (t.get! 2).toNat % 64 * 64 + (t.get! 3).toNat % 64:Nat) = true then ((t.get! 0).toNat % 8 * 262144 + (t.get! 1).toNat % 64 * 4096 + (t.get! 2).toNat % 64 * 64 + (t.get! 3).toNat % 64,4) else (65533,1))
   else (65533,1):=by
 simp only [Utf8.decode,Utf8.runeError,Nat.zero_add,Bool.and_eq_true,decide_eq_true_eq,beq_iff_eq,and_assoc]
theorem OE (n:Nat):Utf8.valid (n:Int) = true ↔ (n < 55296 ∨ (57344 <= n /\ n <= 1114111)):=by
 simp only [Utf8.valid,Bool.or_eq_true,Bool.and_eq_true,decide_eq_true_eq];omega
theorem yw {t:ByteArray} {n0 n:Int} {i:Nat} (h:lg t n0 i = some n) (h1:128 <= Ev.iF t (i + 1)) (h2:Ev.iF t (i + 1) <= 191):lg t n0 (i + 1) = some (n * 64 + Ev.iF t (i + 1) - 128):=by
 simp only [lg,h];rw [if_pos ⟨h1,h2⟩]
theorem tJ {t:ByteArray} {n0 n:Int} {i:Nat} (h:lg t n0 (i + 1) = some n):∃ n',lg t n0 i = some n' /\ 128 <= Ev.iF t (i + 1) /\ Ev.iF t (i + 1) <= 191 /\ n = n' * 64 + Ev.iF t (i + 1) - 128:=by
 simp only [lg] at h
 split at h
 · rename_i n' hn'
   split at h
   · rename_i hc;exact ⟨n',hn',hc.1,hc.2,(Option.some.inj h).symm⟩
   · cases h
 · cases h
theorem ab8{G:Prop}(h:G:=by
 simp only [lg,Option.some.injEq] at ha0
 subst ha0
 simp only [Nat.zero_add,Nat.reduceAdd] at *
 unfold jc at hn
 split at hn
 all_goals(rcases(⟨_⟩:PLift _)with⟨h⟩;exact h)):G:=h
theorem acw{G:Prop}(h:G:=by
 refine ⟨?_,by omega,by omega,by omega⟩
 simp only [Prod.mk.injEq];omega):G:=h
theorem adf{G:Prop}(h:G:=by
 obtain rfl:=Option.some.inj h
 unfold jc at h'
 split at h' <;> omega):G:=h
theorem OG {t:ByteArray} {n k:Int} (h:Sl t n k):(n,k) = yu t:=by
 unfold yu
 by_cases hz:t.size = 0
 · rw [if_pos (Or.inl hz)]
   rcases h with ⟨rfl,rfl,_⟩ | ⟨h,_⟩
   · rfl
   · omega
 have e0:=Ac (t:=t) (i:=0) (by omega)
 have l0:=(t.get! 0).toNat_lt
 have l1:=(t.get! 1).toNat_lt
 have l2:=(t.get! 2).toNat_lt
 have l3:=(t.get! 3).toNat_lt
 have e1:1 < t.size -> Ev.iF t 1 = ((t.get! 1).toNat:Int):=fun h=>Ac h
 have e2:2 < t.size -> Ev.iF t 2 = ((t.get! 2).toNat:Int):=fun h=>Ac h
 have e3:3 < t.size -> Ev.iF t 3 = ((t.get! 3).toNat:Int):=fun h=>Ac h
 have D:=ahS t
 generalize (t.get! 0).toNat = b0 at *
 generalize (t.get! 1).toNat = b1 at *
 generalize (t.get! 2).toNat = b2 at *
 generalize (t.get! 3).toNat = b3 at *
 simp only [OE] at D
 rcases h with ⟨rfl,rfl,h⟩ | ⟨hs,m,n0,hl,hsz,ha,hn,rfl⟩
 · have goal:Utf8.decode t 0 = (65533,1):=by
     rw [D]
     rcases h with h | h | ⟨m,n0,hl,h⟩
     · exact absurd h hz
     · rw [if_neg (by omega),if_neg (by omega),if_neg (by omega),if_neg (by omega)]
     · rcases hl with ⟨a1,a2,rfl,rfl⟩ | ⟨a1,a2,rfl,rfl⟩ | ⟨a1,a2,rfl,rfl⟩ | ⟨a1,rfl,rfl⟩
       · rw [if_neg (by omega),if_neg (by omega),if_neg (by omega)]
         by_cases hc:b0 / 8 = 30 /\ (1 < t.size /\ b1 / 64 = 2) /\ (2 < t.size /\ b2 / 64 = 2) /\ 3 < t.size /\ b3 / 64 = 2
         · rw [if_pos hc,if_neg]
           obtain ⟨c0,⟨c1,c1'⟩,⟨c2,c2'⟩,c3,c3'⟩:=hc
           have q1:lg t (Ev.iF t 0 - 240) 1 = some ((Ev.iF t 0 - 240) * 64 + Ev.iF t 1 - 128):=yw (i:=0) rfl (by have:=e1 c1;show 128 <= Ev.iF t 1;omega) (by have:=e1 c1;show Ev.iF t 1 <= 191;omega)
           have q2:lg t (Ev.iF t 0 - 240) 2 = some (((Ev.iF t 0 - 240) * 64 + Ev.iF t 1 - 128) * 64 + Ev.iF t 2 - 128):=yw (i:=1) q1 (by have:=e2 c2;show 128 <= Ev.iF t 2;omega) (by have:=e2 c2;show Ev.iF t 2 <= 191;omega)
           have q3:lg t (Ev.iF t 0 - 240) 3 = some ((((Ev.iF t 0 - 240) * 64 + Ev.iF t 1 - 128) * 64 + Ev.iF t 2 - 128) * 64 + Ev.iF t 3 - 128):=yw (i:=2) q2 (by have:=e3 c3;show 128 <= Ev.iF t 3;omega) (by have:=e3 c3;show Ev.iF t 3 <= 191;omega)
           have:=e1 c1;have:=e2 c2;have:=e3 c3
           rcases h with h | ⟨i,hi,h⟩ | ⟨n',h,h'⟩
           · omega
           · have:i = 0 ∨ i = 1 ∨ i = 2 ∨ i = 3:=by omega
             rcases this with rfl | rfl | rfl | rfl
             · simp [lg] at h
             · rw [q1] at h;cases h
             · rw [q2] at h;cases h
             · rw [q3] at h;cases h
           · rw [show (3:Int).toNat = 3 from rfl,q3] at h
             refine' adf
         · rw [if_neg hc]
       · rw [if_neg (by omega),if_neg (by omega)]
         by_cases hc:b0 / 16 = 14 /\ (1 < t.size /\ b1 / 64 = 2) /\ 2 < t.size /\ b2 / 64 = 2
         · rw [if_pos hc,if_neg]
           obtain ⟨c0,⟨c1,c1'⟩,c2,c2'⟩:=hc
           have q1:lg t (Ev.iF t 0 - 224) 1 = some ((Ev.iF t 0 - 224) * 64 + Ev.iF t 1 - 128):=yw (i:=0) rfl (by have:=e1 c1;show 128 <= Ev.iF t 1;omega) (by have:=e1 c1;show Ev.iF t 1 <= 191;omega)
           have q2:lg t (Ev.iF t 0 - 224) 2 = some (((Ev.iF t 0 - 224) * 64 + Ev.iF t 1 - 128) * 64 + Ev.iF t 2 - 128):=yw (i:=1) q1 (by have:=e2 c2;show 128 <= Ev.iF t 2;omega) (by have:=e2 c2;show Ev.iF t 2 <= 191;omega)
           have:=e1 c1;have:=e2 c2
           rcases h with h | ⟨i,hi,h⟩ | ⟨n',h,h'⟩
           · omega
           · have:i = 0 ∨ i = 1 ∨ i = 2:=by omega
             rcases this with rfl | rfl | rfl
             · simp [lg] at h
             · rw [q1] at h;cases h
             · rw [q2] at h;cases h
           · rw [show (2:Int).toNat = 2 from rfl,q2] at h
             refine' adf
         · rw [if_neg hc,if_neg (by omega)]
       · rw [if_neg (by omega)]
         by_cases hc:b0 / 32 = 6 /\ 1 < t.size /\ b1 / 64 = 2
         · rw [if_pos hc,if_neg]
           obtain ⟨c0,c1,c1'⟩:=hc
           have q1:lg t (Ev.iF t 0 - 192) 1 = some ((Ev.iF t 0 - 192) * 64 + Ev.iF t 1 - 128):=yw (i:=0) rfl (by have:=e1 c1;show 128 <= Ev.iF t 1;omega) (by have:=e1 c1;show Ev.iF t 1 <= 191;omega)
           have:=e1 c1
           rcases h with h | ⟨i,hi,h⟩ | ⟨n',h,h'⟩
           · omega
           · have:i = 0 ∨ i = 1:=by omega
             rcases this with rfl | rfl
             · simp [lg] at h
             · rw [q1] at h;cases h
           · rw [show (1:Int).toNat = 1 from rfl,q1] at h
             refine' adf
         · rw [if_neg hc,if_neg (by omega),if_neg (by omega)]
       · exfalso
         rcases h with h | ⟨i,hi,h⟩ | ⟨n',h,h'⟩
         · omega
         · have:i = 0:=by omega
           subst this;simp [lg] at h
         · simp only [Int.toNat_zero,lg,Option.some.injEq] at h
           unfold jc at h'
           split at h' <;> omega
   rw [if_pos (Or.inr goal)]
 · have goal:Utf8.decode t 0 = (n.toNat,(m + 1).toNat) /\ 0 <= n /\ 0 <= m /\ ¬ (n = 65533 /\ m = 0):=by
     rw [D]
     rcases hl with ⟨a1,a2,rfl,rfl⟩ | ⟨a1,a2,rfl,rfl⟩ | ⟨a1,a2,rfl,rfl⟩ | ⟨a1,rfl,rfl⟩
     · have:=e1 (by omega);have:=e2 (by omega);have:=e3 (by omega)
       obtain ⟨n1,ha2,c1,c1',rfl⟩:=tJ (i:=2) ha
       obtain ⟨n2,ha1,c2,c2',rfl⟩:=tJ (i:=1) ha2
       obtain ⟨n3,ha0,c3,c3',rfl⟩:=tJ (i:=0) ha1
       refine' ab8
       · omega
       rw [if_neg (by omega),if_neg (by omega),if_neg (by omega),if_pos (by omega),if_pos (by omega)]
       refine' acw
     · have:=e1 (by omega);have:=e2 (by omega)
       obtain ⟨n2,ha1,c2,c2',rfl⟩:=tJ (i:=1) ha
       obtain ⟨n3,ha0,c3,c3',rfl⟩:=tJ (i:=0) ha1
       refine' ab8
       · omega
       rw [if_neg (by omega),if_neg (by omega),if_pos (by omega),if_pos (by omega)]
       refine' acw
     · have:=e1 (by omega)
       obtain ⟨n3,ha0,c3,c3',rfl⟩:=tJ (i:=0) ha
       refine' ab8
       · omega
       rw [if_neg (by omega),if_pos (by omega),if_pos (by omega)]
       refine' acw
     · simp only [Int.toNat_zero,lg,Option.some.injEq] at ha
       subst ha
       rw [if_pos (by omega)]
       refine' acw
   rw [if_neg]
   · rw [goal.1];simp only [Prod.mk.injEq];omega
   · rw [goal.1];simp only [Prod.mk.injEq];omega
end Go.Proofs.YtadlnaljicikfaaDoor.aI
namespace Go.Proofs.YtadlnaljicikfaaDoor.aI
open Go
set_option maxRecDepth 100000
attribute [local irreducible] Ev.iH Ev.iR Ev.bY Ev.runK Ev.cu Ev.gK Ev.Side Ev.Wp Ev.Again Ev.To Ev.Fin
open Go.Lib
def ints (l:List Int):List (List AV):=l.map fun n=>[.v (.int .i64 n)]
def rY:Nat -> List UInt8 -> Int -> List Int
 | 0,_,_=>[]
 | n + 1,l,at'=>if l = [] then [] else (at' + (decodeL l).2) :: rY n (l.drop (decodeL l).2) (at' + (decodeL l).2)
def nN (l:List UInt8) (at':Int):List Int:=rY l.length l at'
theorem Bz:∀ (n m:Nat) (l:List UInt8) (a:Int),l.length <= n -> l.length <= m -> rY n l a = rY m l a
 | 0,0,l,a,_,_=>rfl
 | 0,m + 1,l,a,h,_=>by
   have:l = []:=List.length_eq_zero_iff.1 (by omega)
   subst this;simp [rY]
 | n + 1,0,l,a,_,h=>by
   have:l = []:=List.length_eq_zero_iff.1 (by omega)
   subst this;simp [rY]
 | n + 1,m + 1,l,a,h1,h2=>by
   simp only [rY]
   by_cases he:l = []
   · rw [if_pos he,if_pos he]
   · rw [if_neg he,if_neg he]
     have:=decodeL_width l
     rw [Bz n m _ _ (by rw [List.length_drop];omega) (by rw [List.length_drop];omega)]
theorem GN (a:Int):nN [] a = []:=rfl
theorem aeb{G:Prop}(h:G:=by (obtain ⟨n,hn⟩:∃ n,l.length = n + 1:=⟨l.length - 1,by have:=List.length_pos_iff.2 h;omega⟩);all_goals(rcases(⟨_⟩:PLift _)with⟨h⟩;exact h)):G:=h
theorem tK {l:List UInt8} (h:l ≠ []) (a:Int):nN l a = (a + (decodeL l).2) :: nN (l.drop (decodeL l).2) (a + (decodeL l).2):=by
 unfold nN
 refine' aeb
 rw [hn,rY,if_neg h]
 have:=decodeL_width l
 rw [Bz n _ _ _ (by rw [List.length_drop];omega) (Nat.le_refl _)]
theorem wU:∀ (n m:Nat) (l:List UInt8),l.length <= n -> l.length <= m -> validGoD n l = validGoD m l
 | 0,0,l,_,_=>rfl
 | 0,m + 1,l,h,_=>by
   have:l = []:=List.length_eq_zero_iff.1 (by omega)
   subst this;simp [validGoD]
 | n + 1,0,l,_,h=>by
   have:l = []:=List.length_eq_zero_iff.1 (by omega)
   subst this;simp [validGoD]
 | n + 1,m + 1,l,h1,h2=>by
   simp only [validGoD]
   by_cases he:l = []
   · rw [if_pos he,if_pos he]
   · rw [if_neg he,if_neg he]
     have:=decodeL_width l
     rw [wU n m _ (by rw [List.length_drop];omega) (by rw [List.length_drop];omega)]
theorem validD_step {l:List UInt8} (h:l ≠ []):validD l = if decodeL l = (65533,1) then false else validD (l.drop (decodeL l).2):=by
 unfold validD
 refine' aeb
 rw [hn,validGoD,if_neg h]
 have:=decodeL_width l
 rw [wU n _ _ (by rw [List.length_drop];omega) (Nat.le_refl _)]
 have e:(decodeL l = (65533,1)) ↔ ((decodeL l).1 = 65533 /\ (decodeL l).2 = 1):=by rw [Prod.ext_iff]
 simp only [e]
theorem EO (t:ByteArray) (i:Nat):(t.extract i t.size).data.toList = t.data.toList.drop i:=by
 simp only [ByteArray.data_extract,Array.toList_extract,List.extract_eq_take_drop]
 apply List.take_of_length_le
 simp
theorem zi (t:ByteArray) (i:Nat) (hi:i < t.size):yu (t.extract i t.size) = if decodeL (t.data.toList.drop i) = (65533,1) then (0,0) else (((decodeL (t.data.toList.drop i)).1:Int),((decodeL (t.data.toList.drop i)).2:Int)):=by
 have e:Utf8.decode (t.extract i t.size) 0 = decodeL (t.data.toList.drop i):=by
   rw [<- decodeL_drop (t.extract i t.size) 0,List.drop_zero,EO]
 unfold yu
 rw [e]
 have:¬ (t.extract i t.size).size = 0:=by rw [ByteArray.size_extract];omega
 by_cases h:decodeL (t.data.toList.drop i) = (65533,1)
 · rw [if_pos (Or.inr h),if_pos h]
 · rw [if_neg (by rintro (h' | h');exact this h';exact h h'),if_neg h]
theorem bD (t:ByteArray):t.data.toList.length = t.size:=Array.length_toList
theorem OH (t:ByteArray):aO env 158 [.v (.string t)] (fun r hs=>r = .dM [.v (.int .i64 (yu t).1),.v (.int .i64 (yu t).2)] /\ hs = []) :=
 (JI t).mono fun r hs ⟨n,k,a,b,c⟩=>by rw [<- OG b];exact ⟨a,c⟩
theorem WI:∀ c,Tryd.f117.body = some c -> comp c = (.seq (.reg 0 [I.n 0 2 I.sn,I.n 1 3 (I.sb false)]) (.seq (.reg 1 [I.n 0 8 (.buildSlice 25 1 #[(0,.const (Value.int .i64 0))]),I.n 1 4 (I.sa 8)]) (.seq (.reg 2 [I.n 0 5 (I.si 0)]) (.seq (.block 0 (.loop (.seq (.seq (.reg 3 [I.n 0 9 (I.mv 5),I.n 1 10 (I.mv 0),I.n 2 11 (I.ln 10 9),I.n 3 12 (I.bo .lss 3 9 11 3)]) (.cond (.tmp 12) .skip (.exit 0))) (.block 1 (.seq (.reg 4 [I.n 0 14 (I.mv 0),I.n 1 15 (I.mv 5),I.n 2 16 (.slice 9 (.tmp 14) (some (.tmp 15)) none none),I.n 3 17 (I.c1 158 16 9),I.n 4 13 (I.mv 17),I.n 5 18 (I.ex 13 0),I.n 6 19 (I.ex 13 1),I.n 7 6 (I.sa 18),I.n 8 7 (I.sa 19)]) (.seq (.seq (.reg 5 [I.n 0 20 (I.mv 7),I.n 1 21 (I.bc .eql 3 20 0 3)]) (.cond (.tmp 21) (.seq (.reg 6 [I.n 0 2 I.sn,I.n 1 3 (I.sb false)]) .ret) .skip)) (.seq (.reg 7 [I.n 0 22 (I.mv 5),I.n 1 23 (I.mv 7),I.n 2 24 (I.bo .add 3 22 23 3),I.n 3 5 (I.sa 24)]) (.reg 8 [I.n 0 25 (I.mv 4),I.n 1 26 (I.mv 5),I.n 2 27 (I.b1 25 26),I.n 3 28 (I.ap 25 27 25 25),I.n 4 4 (I.sa 28)])))))))) (.seq (.reg 9 [I.n 0 29 (I.mv 4),I.n 1 2 (I.sa 29),I.n 2 3 (I.sb true)]) .ret))))):=by
 intro c h
 have:c = Tryd.f117.body.get rfl:=by rw [<- Option.some_inj,<- h];rfl
 rw [this];rfl
def wV (t:ByteArray) (r:AV) (hs:List aG):Prop :=
 if validD t.data.toList then r = .dM [.own 0 0 0 ((nN t.data.toList 0).length + 1),.v (.bool true)] /\ hs = [⟨1,3,0,0,false,ints (0 :: nN t.data.toList 0)⟩] else r = .dM [.v (.slice none 0 0),.v (.bool false)] /\ hs = []
theorem agr{G:Prop}(h:G:=by (have hne:t.data.toList.drop i ≠ []:=by intro e;have:=congrArg List.length e;rw [List.length_drop,bD] at this;simp at this;omega);all_goals(rcases(⟨_⟩:PLift _)with⟨h⟩;exact h)):G:=h
theorem ag7{G:Prop}(h:G:=by
 simp only [Ev.rO.zJ,au,get_nil,Nat.reduceEqDiff,if_false,if_true,handed,wB,ren,idx,and_self,Option.map_some,mF]
 refine hF _ ?_
 all_goals(rcases(⟨_⟩:PLift _)with⟨h⟩;exact h)):G:=h
theorem zk (t:ByteArray) (ht:t.size <= 1000000000):aO env 117 [.v (.string t)] (wV t):=by
 refine Ev.fnO [0,2,3,4,5,7,12,21] 0 [.tmp 2,.tmp 3] Tryd.func117 (WI _ rfl) ?_
 refine' X3
 refine Ev.loop (fun k s=>∃ (i v c:Nat) (out:List Int),s = ⟨[(0,.v (.string t)),(2,.v (.slice none 0 0)),(3,.v (.bool false)),(4,.own 512 v 0 out.length),(5,.v (.int .i64 i))],[(512,⟨1,3,v,0,false,ints out⟩)],c⟩ /\
     k + i = t.size /\ out ++ nN (t.data.toList.drop i) i = 0 :: nN t.data.toList 0 /\ validD (t.data.toList.drop i) = validD t.data.toList /\ out.length <= i + 1) ?_ ?_
 · exact Ev.to ⟨[(0,_),(2,_),(3,_),(4,.own 512 0 0 1),(5,.v (.int .i64 ((0:Nat):Int)))],[(512,⟨1,3,0,0,false,ints [0]⟩)],8⟩ ⟨rfl,rfl,rfl,rfl,rfl,trivial⟩ ⟨rfl,trivial⟩ (Nat.le_refl _) ⟨t.size,0,0,8,[0],rfl,by omega,rfl,rfl,by simp⟩
 rintro k s1 ⟨i,v,c,out,rfl,hk,ho,hv,hl⟩
 repeat' (first | refine' Ev.Bv | refine' Ev.zK | ((refine Ev.aU (OH _) rfl rfl ?_);conv=>whnf) | refine' Ev.zU | fail)
 · rename_i hi hk0
   refine Ev.IY [] (by simp) (fun F hF=>?_)
   conv=>whnf
   refine hF _ ?_
   simp only [Int.toNat_natCast] at hk0
   rw [zi t i (by omega)] at hk0
   unfold wV
   refine' agr
   rw [validD_step hne] at hv
   have hw:=decodeL_width (t.data.toList.drop i)
   split at hk0
   · rename_i hd
     rw [if_pos hd] at hv
     rw [if_neg (by rw [<- hv];decide)];exact ⟨rfl,rfl⟩
   · simp only at hk0;omega
 · rename_i hi hk0
   simp only [Int.toNat_natCast] at hk0
   refine' agr
   have hw:=decodeL_width (t.data.toList.drop i)
   have hw':=decodeL_le (t.data.toList.drop i) hne
   rw [List.length_drop,bD] at hw'
   have hf:=zi t i (by omega)
   have hd:¬ decodeL (t.data.toList.drop i) = (65533,1):=by
     intro e;rw [hf,if_pos e] at hk0;exact hk0 rfl
   rw [if_neg hd] at hf
   rw [validD_step hne,if_neg hd,List.drop_drop] at hv
   rw [tK hne,List.drop_drop] at ho
   refine Ev.again (k - (decodeL (t.data.toList.drop i)).2) ⟨[(0,_),(2,_),(3,_),(4,_),(5,.v (.int .i64 ((i + (decodeL (t.data.toList.drop i)).2:Nat):Int)))],[(512,⟨1,3,c + 8,0,false,ints (out ++ [((i + (decodeL (t.data.toList.drop i)).2:Nat):Int)])⟩)],c + 8 + 8⟩ (by omega)
     ⟨rfl,rfl,rfl,rfl,Ev.eu rfl ?_,trivial⟩ ⟨Ev.ah rfl ?_,trivial⟩ (Nat.le_refl _) ⟨i + (decodeL (t.data.toList.drop i)).2,c + 8,c + 8 + 8,out ++ [((i + (decodeL (t.data.toList.drop i)).2:Nat):Int)],?_,by omega,?_,by rw [Nat.add_comm];rw [Nat.add_comm] at hv;exact hv,by rw [List.length_append];simp only [List.length_cons,List.length_nil];omega⟩
   · rw [Int.toNat_natCast,hf,Ev.wrap64];simp only;omega
   · simp only [aG.mk.injEq,true_and,and_true,List.drop_zero,Int.toNat_natCast,hf]
     simp only [ints,List.map_append,List.map_cons,List.map_nil,List.take_succ_cons,List.take_zero,Ev.wrap64]
     rw [show ((i:Int) + ((decodeL (t.data.toList.drop i)).2:Int) + 9223372036854775808) % 18446744073709551616 - 9223372036854775808 = ((i + (decodeL (t.data.toList.drop i)).2:Nat):Int) by omega]
   · simp only [List.length_append,List.length_cons,List.length_nil];rfl
   · rw [List.append_assoc];rw [<- ho]
     simp only [Int.natCast_add,List.singleton_append]
 · refine Ev.Side.of ?_
   have hm:2000000003 <= maxLen:=by decide
   simp [ints]
   omega
 · refine' Sm
 · rename_i hi
   refine Ev.IY [(512,v)] (by simp) (fun F hF=>?_)
   have e:i = t.size:=by omega
   subst e
   have en:t.data.toList.drop t.size = []:=by apply List.drop_of_length_le;rw [bD];exact Nat.le_refl _
   rw [en] at hv ho
   rw [GN,List.append_nil] at ho
   subst ho
   refine' ag7
   unfold wV
   rw [if_pos (by rw [<- hv];rfl)]
   exact ⟨rfl,rfl⟩
theorem yx {t:ByteArray} (ht:t.size <= 1000000000) (hv:validD t.data.toList = true):aO env 117 [.v (.string t)] (fun r hs=>r = .dM [.own 0 0 0 ((nN t.data.toList 0).length + 1),.v (.bool true)] /\ hs = [⟨1,3,0,0,false,ints (0 :: nN t.data.toList 0)⟩]) :=
 (zk t ht).mono fun r hs h=>by unfold wV at h;rwa [if_pos hv] at h
theorem yA {t:ByteArray} (ht:t.size <= 1000000000) (hv:¬ validD t.data.toList = true):aO env 117 [.v (.string t)] (fun r hs=>r = .dM [.v (.slice none 0 0),.v (.bool false)] /\ hs = []) :=
 (zk t ht).mono fun r hs h=>by unfold wV at h;rwa [if_neg hv] at h
theorem DF:∀ (n:Nat) (l:List UInt8) (a:Int),(rY n l a).length <= n
 | 0,l,a=>by simp [rY]
 | n + 1,l,a=>by
   simp only [rY]
   split
   · simp
   · simp only [List.length_cons];have:=DF n (l.drop (decodeL l).2) (a + (decodeL l).2);omega
theorem GR (l:List UInt8) (a:Int):(nN l a).length <= l.length:=DF _ _ _
theorem Sr:∀ c,Tryd.f99.body = some c -> comp c = (.seq (.reg 0 [I.n 0 2 (I.sb false)]) (.seq (.reg 1 [I.n 0 6 (I.mv 0),I.n 1 7 (I.c1 117 6 9),I.n 2 5 (I.mv 7),I.n 3 8 (I.ex 5 0),I.n 4 9 (I.ex 5 1),I.n 5 3 (I.sa 8),I.n 6 4 (I.sa 9)]) (.seq (.reg 2 [I.n 0 10 (I.mv 4),I.n 1 2 (I.sa 10)]) .ret))):=by
 intro c h
 have:c = Tryd.f99.body.get rfl:=by rw [<- Option.some_inj,<- h];rfl
 rw [this];rfl
theorem Sv:∀ c,Tryd.f70.body = some c -> comp c = (.seq (.reg 0 [I.n 0 2 (I.si 0)]) (.seq (.reg 1 [I.n 0 6 (I.mv 0),I.n 1 7 (I.c1 117 6 9),I.n 2 5 (I.mv 7),I.n 3 8 (I.ex 5 0),I.n 4 9 (I.ex 5 1),I.n 5 3 (I.sa 8),I.n 6 4 (I.sa 9)]) (.seq (.reg 2 [I.n 0 10 (I.mv 3),I.n 1 11 (I.ln 10 25),I.n 2 12 (I.bc .sub 3 11 1 3),I.n 3 2 (I.sa 12)]) .ret))):=by
 intro c h
 have:c = Tryd.f70.body.get rfl:=by rw [<- Option.some_inj,<- h];rfl
 rw [this];rfl
theorem aft{G:Prop}(h:G:=by (repeat' (first | refine' Ev.Bv | refine' Ev.zK | ((refine Ev.mQ (yx ht hv) rfl (by simp) ⟨rfl,trivial⟩ ?_);conv=>whnf) | refine' Ev.zU | fail));all_goals(rcases(⟨_⟩:PLift _)with⟨h⟩;exact h)):G:=h
theorem rZ (t:ByteArray) (ht:t.size <= 1000000000):aO env 99 [.v (.string t)] (fun r hs=>r = .v (.bool (validD t.data.toList)) /\ hs = []):=by
 by_cases hv:validD t.data.toList = true
 · refine Ev.fn [0,2,4] 0 [.tmp 2] Tryd.func99 (Sr _ rfl) ?_
   refine' aft
   rw [hv];exact ⟨rfl,rfl⟩
 · refine Ev.fn [0,2,4] 0 [.tmp 2] Tryd.func99 (Sr _ rfl) ?_
   repeat' (first | refine' Ev.Bv | refine' Ev.zK | ((refine Ev.aU (yA ht hv) rfl rfl ?_);conv=>whnf) | refine' Ev.zU | fail)
   rw [Bool.eq_false_iff.2 hv];exact ⟨rfl,rfl⟩
def bG (l:List UInt8):Int:=if validD l then (nN l 0).length else -1
theorem gU (t:ByteArray) (ht:t.size <= 1000000000):aO env 70 [.v (.string t)] (fun r hs=>r = .v (.int .i64 (bG t.data.toList)) /\ hs = []):=by
 by_cases hv:validD t.data.toList = true
 · refine Ev.fn [0,2,3] 0 [.tmp 2] Tryd.func70 (Sv _ rfl) ?_
   refine' aft
   refine ⟨congrArg (fun z=>AV.v (Value.int IntKind.i64 z)) ?_,rfl⟩
   have:=GR t.data.toList 0
   rw [bD] at this
   unfold bG;rw [if_pos hv,Ev.wrap64];omega
 · refine Ev.fn [0,2,3] 0 [.tmp 2] Tryd.func70 (Sv _ rfl) ?_
   repeat' (first | refine' Ev.Bv | refine' Ev.zK | ((refine Ev.aU (yA ht hv) rfl rfl ?_);conv=>whnf) | refine' Ev.zU | fail)
   refine ⟨congrArg (fun z=>AV.v (Value.int IntKind.i64 z)) ?_,rfl⟩
   unfold bG;rw [if_neg hv,Ev.wrap64];rfl
end Go.Proofs.YtadlnaljicikfaaDoor.aI
namespace Go.Proofs.YtadlnaljicikfaaDoor.aI
open Go
set_option maxRecDepth 100000
attribute [local irreducible] Ev.iH Ev.iR Ev.bY Ev.runK Ev.cu Ev.gK Ev.Side Ev.Wp Ev.Again Ev.To Ev.Fin
open Go.Lib Go.RowKit
theorem WJ {w:World} {b o:Nat} {u:Value} (h:w.cell? ⟨b,o,none⟩ = some u):b < w.heap.size:=by
 unfold World.cell? at h
 rcases Nat.lt_or_ge b w.heap.size with h' | h'
 · exact h'
 · simp [Array.getElem?_eq_none h'] at h
theorem CB {f:FuncId} {x y:Value} (h:∀ w:World,(∀ g cs j z,env.G g = some cs -> cs[j]? = some (.v z) -> w.cell? ⟨g,j,none⟩ = some z) ->
   (callFunc f #[x]).run env.P w = .ok (.enter f #[x]) w /\ Calls env.P f #[x] w fun e w'=>e = .returned y /\ Below w.heap.size w w'):aO env f [.v x] (fun r hs=>r = .v y /\ hs = []):=by
 intro M w vs hm hg hn hr
 have hv:vs = #[x]:=by
   apply Array.ext_getElem?
   intro i
   rcases Nat.lt_or_ge i vs.size with hi | hi
   · have:i = 0:=by simp at hn;omega
     subst this
     have:=hr 0 (.v x) vs[0] rfl (Array.getElem?_eq_getElem hi)
     cases this
     rw [Array.getElem?_eq_getElem hi];rfl
   · rw [Array.getElem?_eq_none hi,Array.getElem?_eq_none (by simp at hn ⊢;omega)]
 subst hv
 obtain ⟨a,b⟩:=h w (fun g cs j z h1 h2=>by
   have hp:=hg g cs h1
   cases hp with
   | fO u hM hc =>
     have hz:=hc j _ h2
     have h3:=hM j _ h2
     rw [Nat.zero_add] at h3
     rw [(hm _ _ _ h3).1]
     cases hz;rfl)
 refine ⟨a,b.mono ?_⟩
 rintro e w' ⟨rfl,hb⟩
 refine ⟨y,_,[],M,fun _=>none,rfl,⟨rfl,rfl⟩,⟨hb,fun b o u hu=>?_,fun _ _ _ h=>.inl h,fun _ _ _ h=>h,hg,fun t x h=>by simp [get_nil] at h,fun r k h=>by simp [eX,get_nil] at h,
   fun r r' k k' L L' h=>by simp [eX,get_nil] at h,fun r k L o u h=>by simp [eX,get_nil] at h,fun r L h=>by simp at h,fun r L h=>h,fun b o h=>by cases h⟩,.pure (.v _)⟩
 obtain ⟨h1,h2⟩:=hm b o u hu
 exact ⟨by rw [hb.cell (WJ h1)];exact h1,h2⟩
end Go.Proofs.YtadlnaljicikfaaDoor.aI
namespace Go.Proofs.YtadlnaljicikfaaDoor.aI
open Go
set_option maxRecDepth 100000
attribute [local irreducible] Ev.iH Ev.iR Ev.bY Ev.runK Ev.cu Ev.gK Ev.Side Ev.Wp Ev.Again Ev.To Ev.Fin
open Go.Lib Go.RowKit Go.Shelf
def EP:Go.Shelf.Ren:=⟨fun | 196=>121 | 259=>159 | n=>n,fun | 9=>9 | 4=>4 | 3=>3 | 5=>5 | 12=>12 | 119=>171 | 0=>0 | 46=>158 | 139=>174 | 138=>173 | 53=>185 | n=>n,fun | 3=>0 | 4=>1 | n=>n⟩
theorem GU:Lays.n196 Tryd.prog EP :=
 { mixed:=by kernel_rfl,
   f196:=Tryd.func121.trans (congrArg some (by kernel_rfl)),
   f259:=Tryd.func159.trans (congrArg some (by kernel_rfl)),
   t0:=Tryd.underlying0,
   a0:=Tryd.isAgg0,
   z0:=Tryd.sizeOf0,
   v0:=Tryd.zeroValue0,
   t3:=Tryd.underlying3,
   a3:=Tryd.isAgg3,
   z3:=Tryd.sizeOf3,
   v3:=Tryd.zeroValue3,
   t4:=Tryd.underlying4,
   a4:=Tryd.isAgg4,
   z4:=Tryd.sizeOf4,
   v4:=Tryd.zeroValue4,
   t5:=Tryd.underlying5,
   a5:=Tryd.isAgg5,
   z5:=Tryd.sizeOf5,
   v5:=Tryd.zeroValue5,
   t9:=Tryd.underlying9,
   a9:=Tryd.isAgg9,
   z9:=Tryd.sizeOf9,
   v9:=Tryd.zeroValue9,
   t12:=Tryd.underlying12,
   a12:=Tryd.isAgg12,
   z12:=Tryd.sizeOf12,
   v12:=Tryd.zeroValue12,
   t46:=Tryd.underlying158,
   a46:=Tryd.isAgg158,
   z46:=Tryd.sizeOf158,
   v46:=Tryd.zeroValue158,
   t53:=Tryd.underlying185,
   a53:=Tryd.isAgg185,
   z53:=Tryd.sizeOf185,
   v53:=Tryd.zeroValue185,
   t119:=Tryd.underlying171,
   a119:=Tryd.isAgg171,
   z119:=Tryd.sizeOf171,
   t138:=Tryd.underlying173,
   a138:=Tryd.isAgg173,
   z138:=Tryd.sizeOf173,
   v138:=Tryd.zeroValue173,
   t139:=Tryd.underlying174,
   a139:=Tryd.isAgg174,
   z139:=Tryd.sizeOf174,
   v139:=Tryd.zeroValue174,
   g3:=by kernel_rfl,
   g4:=by kernel_rfl }
theorem OJ (t:ByteArray) (ht:t.size <= 1000000000):aO env 121 [.v (.string t)] (fun r hs=>r = .v (.bool (validD t.data.toList)) /\ hs = []):=by
 refine CB fun w hw=>⟨?_,?_⟩
 · exact ji Tryd.func121 rfl rfl w
 · have hT:Lib.Utf8Tabs 0 1 w:=by
     refine ⟨fun c hc=>?_,fun i hi=>⟨?_,?_⟩⟩
     · exact hw 0 Dt c _ rfl (by simp [Dt,hc])
     · exact hw 1 Bh (2 * i) _ rfl (by
                                          have:i = 0 ∨ i = 1 ∨ i = 2 ∨ i = 3 ∨ i = 4 ∨ i = 5 ∨ i = 6 ∨ i = 7 ∨ i = 8 ∨ i = 9 ∨ i = 10 ∨ i = 11 ∨ i = 12 ∨ i = 13 ∨ i = 14 ∨ i = 15:=by omega
                                          rcases this with rfl | rfl | rfl | rfl | rfl | rfl | rfl | rfl | rfl | rfl | rfl | rfl | rfl | rfl | rfl | rfl <;> rfl)
     · exact hw 1 Bh (2 * i + 1) _ rfl (by
                                              have:i = 0 ∨ i = 1 ∨ i = 2 ∨ i = 3 ∨ i = 4 ∨ i = 5 ∨ i = 6 ∨ i = 7 ∨ i = 8 ∨ i = 9 ∨ i = 10 ∨ i = 11 ∨ i = 12 ∨ i = 13 ∨ i = 14 ∨ i = 15:=by omega
                                              rcases this with rfl | rfl | rfl | rfl | rfl | rfl | rfl | rfl | rfl | rfl | rfl | rfl | rfl | rfl | rfl | rfl <;> rfl)
   exact Any.utf8_ValidString GU t w (by omega) hT
theorem aaT:∀ c,Tryd.f78.body = some c -> comp c = (.seq (.reg 0 [I.n 0 2 (I.sb false)]) (.seq (.reg 1 [I.n 0 3 (I.mv 0),I.n 1 4 (I.c1 121 3 9),I.n 2 2 (I.sa 4)]) .ret)):=by
 intro c h
 have:c = Tryd.f78.body.get rfl:=by rw [<- Option.some_inj,<- h];rfl
 rw [this];rfl
theorem su (t:ByteArray) (ht:t.size <= 1000000000):aO env 78 [.v (.string t)] (fun r hs=>r = .v (.bool (validD t.data.toList)) /\ hs = []):=by
 refine Ev.fn [0,2] 0 [.tmp 2] Tryd.func78 (aaT _ rfl) ?_
 repeat' (first | refine' Ev.Bv | refine' Ev.zK | ((refine Ev.aU (OJ t ht) rfl rfl ?_);conv=>whnf) | refine' Ev.zU | fail)
 exact ⟨rfl,rfl⟩
theorem aed{G:Prop}(h:G:=by
 refine b.mono ?_
 rintro e w' ⟨v,r,hs,M',J',rfl,⟨rfl,rfl⟩,inv,hr⟩
 have:=hr.bZ
 subst this
 exact ⟨rfl,inv.below⟩):G:=h
theorem aaU {f:FuncId} {x y:Value} (h:aO env f [.v x] (fun r hs=>r = .v y /\ hs = [])) (w:World) (h1:∀ g cs j z,env.G g = some cs -> cs[j]? = some (.v z) -> w.cell? ⟨g,j,none⟩ = some z /\ z.oneCell' = true)
   (h2:∀ g cs c,env.G g = some cs -> c ∈ cs -> ∃ z,c = .v z):Calls env.P f #[x] w fun e w'=>e = .returned y /\ Below w.heap.size w w':=by
 have hA:∀ (b o:Nat) (u:Value),(match env.G b with | some cs=>(match cs[o]? with | some (AV.v z)=>some z | _=>none) | none=>none) = some u -> w.cell? ⟨b,o,none⟩ = some u /\ u.oneCell' = true:=by
   intro b o u hu
   split at hu
   · rename_i cs hcs
     split at hu
     · rename_i z hz
       obtain rfl:=Option.some.inj hu
       exact h1 _ _ _ _ hcs hz
     · cases hu
   · cases hu
 have hB:∀ g cs,env.G g = some cs -> cZ (fun (b o:Nat)=>match env.G b with | some cs=>(match cs[o]? with | some (AV.v z)=>some z | _=>none) | none=>none) (.fO cs) (.pointer (some ⟨g,0,none⟩)):=by
   intro g cs hg
   refine .fO (fun j=>match cs[j]? with | some (.v z)=>z | _=>x) (fun j c hc=>?_) (fun j c hc=>?_)
   · obtain ⟨z,rfl⟩:=h2 g cs c hg (List.mem_of_getElem? hc)
     simp only [hg,Nat.zero_add,hc]
   · obtain ⟨z,rfl⟩:=h2 g cs c hg (List.mem_of_getElem? hc)
     simp only [hc];exact .v _
 have hC:∀ (i:Nat) (a:AV) (v:Value),[AV.v x][i]? = some a -> #[x][i]? = some v -> cZ (fun (b o:Nat)=>match env.G b with | some cs=>(match cs[o]? with | some (AV.v z)=>some z | _=>none) | none=>none) a v:=by
   intro i a v ha hv
   cases i with
   | zero=>simp at ha hv;subst ha;subst hv;exact .v _
   | succ i=>simp at ha
 obtain ⟨_,b⟩:=h _ w #[x] hA hB rfl hC
 refine' aed
theorem ER (g:Nat) (cs:List AV) (c:AV) (h:env.G g = some cs) (hc:c ∈ cs):∃ z,c = .v z /\ z.oneCell' = true:=by
 have h:RQ g = some cs:=h
 unfold RQ at h
 split at h <;> first | (cases h;done) | skip
 all_goals (obtain rfl:=Option.some.inj h)
 · simp [RP] at hc;rcases hc with rfl | rfl | rfl | rfl | rfl <;> exact ⟨_,rfl,rfl⟩
 · simp only [Dt,List.mem_map] at hc;obtain ⟨a,_,rfl⟩:=hc;exact ⟨_,rfl,rfl⟩
 · simp only [Bh,List.mem_flatMap] at hc;obtain ⟨a,_,hc⟩:=hc;simp at hc;rcases hc with rfl | rfl <;> exact ⟨_,rfl,rfl⟩
set_option maxRecDepth 1000000 in
theorem count_walk (t:ByteArray) (ht:t.size <= 1000000000) (w:World) (hw:∀ g cs j z,env.G g = some cs -> cs[j]? = some (.v z) -> w.cell? ⟨g,j,none⟩ = some z) :
    Calls Tryd.prog 32 #[.string t] w fun e w'=>e = .returned (.int .i64 (bG t.data.toList)) /\ Below w.heap.size w w':=by
  have cV:Calls Tryd.prog 78 #[.string t] w fun e w'=>e = .returned (.bool (validD t.data.toList)) /\ Below w.heap.size w w' :=
    aaU (su t ht) w (fun g cs j z a b=>⟨hw g cs j z a b,by obtain ⟨z',e,h⟩:=ER g cs _ a (List.mem_of_getElem? b);cases e;exact h⟩) (fun g cs c a b=>let ⟨z,e,_⟩:=ER g cs c a b;⟨z,e⟩)
  by_cases hv:validD t.data.toList = true
  · rw [hv] at cV
    have hcd:bG t.data.toList = (nN t.data.toList 0).length:=by unfold bG;rw [if_pos hv]
    rw [hcd]
    go_enter Tryd.func32,Tryd.ntmps32
    go_wp2_with (go_at_call 78;refine cV.mono ?_;rintro e w1 ⟨rfl,hb⟩)
    go_loopw [3] (fun n w'=>∃ (pos:Nat) (acc:Nat),w' = w1.iter t pos /\ n = .int .i64 (acc:Int) /\ acc + (nN (t.data.toList.drop pos) pos).length = (nN t.data.toList 0).length /\ acc <= pos) (fun _ w'=>t.size - w'.iterPos w1.heap.size)
    case atStart=>exact ⟨0,0,rfl,rfl,by simp,by omega⟩
    case round =>
      obtain ⟨pos,acc,rfl,rfl,hc,hb'⟩:=hrel
      by_cases hp:pos < t.size
      · have hnx:∀ ty,(Instr.next (.pointer (some ⟨w1.heap.size,0,none⟩)) true ty).run Tryd.prog (w1.iter t pos) = _:=fun ty=>run_next_any w1 t pos ty hp
        go_wp2
        have hne:t.data.toList.drop pos ≠ []:=by intro e;have:=congrArg List.length e;rw [List.length_drop,bD] at this;simp at this;omega
        have hwd:=decodeL_width (t.data.toList.drop pos)
        rw [tK hne,List.drop_drop,decodeL_drop] at hc
        rw [decodeL_drop] at hwd
        refine ⟨⟨pos + (Utf8.decode t pos).2,acc + 1,rfl,rfl,?_,by omega⟩,?_⟩
        · rw [<- hc,List.length_cons]
          simp only [Int.natCast_add]
          omega
        · simp
          omega
      · have hnx:∀ ty,(Instr.next (.pointer (some ⟨w1.heap.size,0,none⟩)) true ty).run Tryd.prog (w1.iter t pos) = _:=fun ty=>run_next_end w1 t pos ty hp
        go_wp2
        go_ret
        have en:t.data.toList.drop pos = []:=by apply List.drop_of_length_le;rw [bD];omega
        rw [en,GN,List.length_nil,Nat.add_zero] at hc
        rw [hc]
        exact ⟨rfl,hb.alloc hb.size _⟩
  · rw [Bool.eq_false_iff.2 hv] at cV
    have hcd:bG t.data.toList = -1:=by unfold bG;rw [if_neg hv]
    rw [hcd]
    go_enter Tryd.func32,Tryd.ntmps32
    go_wp2_with (go_at_call 78;refine cV.mono ?_;rintro e w1 ⟨rfl,hb⟩)
    go_ret
    exact ⟨rfl,hb⟩
theorem jO (t:ByteArray) (ht:t.size <= 1000000000):aO env 32 [.v (.string t)] (fun r hs=>r = .v (.int .i64 (bG t.data.toList)) /\ hs = []) :=
 CB fun w hw=>⟨ji Tryd.func32 rfl rfl w,count_walk t ht w hw⟩
end Go.Proofs.YtadlnaljicikfaaDoor.aI
namespace Go.Proofs.YtadlnaljicikfaaDoor.aI
open Go Go.Lib Go.RowKit Go.Shelf
theorem zL {H:Type} {enc:TypeId × Value -> H} {P:Program} {w:World} {base:Nat} {sp:Nat -> Bool} {held:Bool} {fuel:Nat} {t:TypeId} {fs:Array Field} {cs:List Value} {zs:List Bool} {p:List MemPlace} (ht:P.underlying t = some (.struct fs))
   (hf:∀ (i:Nat) (f:Field),fs[i]? = some f -> P.underlying f.type = some .bool /\ f.offset = i /\ P.cellsOf f.type = 1) (hct:P.cellsOf t = fs.size)
   (h:DataW.trod enc P w base sp held fuel t cs = some (.agg (zs.map fun z=>.lit (.bool z)),p)):cs = zs.map fun z=>Value.bool z:=by
 obtain ⟨xs,n,rfl,hx,hl,hxl,hall⟩:=DataW.trod_struct ht h
 have hxs:xs.map (·.1) = zs.map fun z=>(DataW.lit (.bool z):DataW H):=by
   have:=congrArg Prod.fst hx
   simpa using this.symm
 have hzl:zs.length = fs.size:=by
   have:=congrArg List.length hxs
   simp at this
   omega
 apply List.ext_getElem?
 intro i
 by_cases hi:i < fs.size
 · obtain ⟨hu,ho,hc⟩:=hf i fs[i] (by simp [hi])
   have h1:=hall i fs[i] (by simp [hi])
   obtain ⟨b,hb⟩:∃ b,xs[i]? = some b:=⟨xs[i]'(by omega),List.getElem?_eq_getElem (by omega)⟩
   rw [hb,ho,hc] at h1
   obtain ⟨z,hcz,rfl⟩:=DataW.trod_bool hu h1
   have h2:cs[i]? = some (.bool z):=by
     have:=congrArg (·[0]?) hcz
     simpa [List.getElem?_take,List.getElem?_drop] using this
   have h3:(xs.map (·.1))[i]? = some (DataW.lit (.bool z):DataW H):=by simp [hb]
   rw [hxs] at h3
   simp only [List.getElem?_map,Option.map_eq_some_iff,DataW.lit.injEq,Lit.bool.injEq] at h3
   obtain ⟨z',hz',rfl⟩:=h3
   simp [h2,hz']
 · rw [List.getElem?_eq_none (by omega),List.getElem?_eq_none (by simp;omega)]
def yB:DataW Unit:=.agg ([[false,false],[true,true],[false,false],[true,false]].map fun l=>.agg (l.map fun z=>.lit (.bool z)))
def KR (w:World):Prop:=∀ g cs j z,env.G g = some cs -> cs[j]? = some (.v z) -> w.cell? ⟨g,j,none⟩ = some z
theorem abt{G:Prop}(h:G:=by
 have:i = 0 ∨ i = 1 ∨ i = 2 ∨ i = 3 ∨ i = 4 ∨ i = 5 ∨ i = 6 ∨ i = 7 ∨ i = 8 ∨ i = 9 ∨ i = 10 ∨ i = 11 ∨ i = 12 ∨ i = 13 ∨ i = 14 ∨ i = 15:=by omega
 rcases this with rfl | rfl | rfl | rfl | rfl | rfl | rfl | rfl | rfl | rfl | rfl | rfl | rfl | rfl | rfl | rfl <;> rfl):G:=h
theorem Sz {w:World} (h0:VarReads Tryd.prog w "epitome/span.kinds" yB) (h1:VarReads Tryd.prog w "unicode/utf8.first" firstData) (h2:VarReads Tryd.prog w "unicode/utf8.acceptRanges" acceptData):KR w:=by
 have hT:Lib.Utf8Tabs 0 1 w:=utf8Tabs_of_readsT (U8Types.of196 GU) ⟨by kernel_rfl,by kernel_rfl,by kernel_rfl,by kernel_rfl,by kernel_rfl,by kernel_rfl,by kernel_rfl⟩ h1 h2
 intro g cs j z hg hj
 have hg:RQ g = some cs:=hg
 unfold RQ at hg
 split at hg
 · obtain rfl:=Option.some.inj hg
   obtain ⟨g',t,cs',fuel,p,a1,a2,a3,a4⟩:=h0
   obtain rfl:g' = 2:=Option.some.inj (a1.symm.trans (by kernel_rfl))
   obtain rfl:t = 175:=Option.some.inj (a2.symm.trans (by kernel_rfl))
   have key:∀ i,i < 4 -> ∀ zs,([[false,false],[true,true],[false,false],[true,false]]:List (List Bool))[i]? = some zs -> ∀ m,m < 2 -> w.cell? ⟨2,2 * i + m,none⟩ = (zs[m]?).map Value.bool:=by
     intro i hi zs hzs m hm
     obtain ⟨fuel',d,q,hdi,he⟩:=array_elem (n:=4) (e:=143) Tryd.underlying175 a4 i hi
     simp only [List.getElem?_map,hzs,Option.map_some,Option.some.injEq] at hdi
     subst hdi
     have c49:Tryd.prog.cellsOf 143 = 2:=by kernel_rfl
     rw [c49] at he
     have hcs:=zL Tryd.underlying143 (fun j f hj=>by
       match j,hj with
       | 0,hj=>simp at hj;subst hj;exact ⟨Tryd.underlying4,rfl,by kernel_rfl⟩
       | 1,hj=>simp at hj;subst hj;exact ⟨Tryd.underlying4,rfl,by kernel_rfl⟩
       | j + 2,hj=>simp at hj) (by rw [c49];rfl) he
     have e0:=congrArg (·[m]?) hcs
     simp only [List.getElem?_take,List.getElem?_drop,if_pos hm,List.getElem?_map] at e0
     rw [World.var?_cell a1 a3 (2 * i + m),<- Array.getElem?_toList,Nat.mul_comm 2 i]
     exact e0
   have:j < 8:=(List.getElem?_eq_some_iff.1 hj).1
   have hc:j = 2 * 0 + 0 ∨ j = 2 * 0 + 1 ∨ j = 2 * 1 + 0 ∨ j = 2 * 1 + 1 ∨ j = 2 * 2 + 0 ∨ j = 2 * 2 + 1 ∨ j = 2 * 3 + 0 ∨ j = 2 * 3 + 1:=by omega
   rcases hc with rfl | rfl | rfl | rfl | rfl | rfl | rfl | rfl <;> (rw [key _ (by omega) _ rfl _ (by omega)];simp only [RP] at hj;simp at hj;subst hj;rfl)
 · obtain rfl:=Option.some.inj hg
   have hlt:j < 256:=by have:=(List.getElem?_eq_some_iff.1 hj).1;simpa [Dt] using this
   have:=hT.1 j hlt
   rw [this]
   simp only [Dt,List.getElem?_map,List.getElem?_range hlt,Option.map_some,Option.some.injEq,AV.v.injEq] at hj
   rw [<- hj]
 · obtain rfl:=Option.some.inj hg
   have hlt:j < 32:=by have:=(List.getElem?_eq_some_iff.1 hj).1;simpa [Bh,List.range,List.range.loop] using this
   obtain ⟨b1,b2⟩:=hT.2 (j / 2) (by omega)
   have hc:j = 2 * (j / 2) ∨ j = 2 * (j / 2) + 1:=by omega
   rcases hc with hc | hc
   · rw [hc,b1]
     have:∀ i,i < 16 -> Bh[2 * i]? = some (.v (.int .u8 (Lib.accLo i))):=by
       intro i hi
       refine' abt
     rw [hc,this _ (by omega)] at hj
     cases hj;rfl
   · rw [hc,b2]
     have:∀ i,i < 16 -> Bh[2 * i + 1]? = some (.v (.int .u8 (Lib.accHi i))):=by
       intro i hi
       refine' abt
     rw [hc,this _ (by omega)] at hj
     cases hj;rfl
 · cases hg
end Go.Proofs.YtadlnaljicikfaaDoor.aI
namespace Go.Proofs.YtadlnaljicikfaaDoor.aI
open Go
set_option maxRecDepth 100000
attribute [local irreducible] Ev.iH Ev.iR Ev.bY Ev.runK Ev.cu Ev.gK Ev.Side Ev.Wp Ev.Again Ev.To Ev.Fin
open Go.Lib Go.RowKit
@[reducible] def lH (k n:Int) (t:ByteArray):AV:=.agg [.v (.int .i64 k),.v (.int .i64 n),.v (.string t)]
def yC (k n:Int) (t:ByteArray):Int :=
 if k = 1 ∨ k = 3 then (if n < 0 ∨ 1048576 < n then 2 else if t = ⟨#[]⟩ then 0 else 3)
 else if k = 2 then (if n ≠ 0 then 2 else if validD t.data.toList then 0 else 3) else 1
def kN (k n:Int):Int:=if k = 1 ∨ k = 3 then n else 0
def kQ (k n:Int) (t:ByteArray):Int:=if k = 1 then n else if k = 2 then max (bG t.data.toList) 0 else 0
theorem WL:∀ c,Tryd.f143.body = some c -> comp c = (.seq (.reg 0 [I.n 0 1 (.box 35 (.tmp 0)),I.n 1 2 (I.si 0)]) (.seq (.seq (.reg 1 [I.n 0 3 (I.fa 35 1 0),I.n 1 4 (I.ld 3 3),I.n 2 5 (I.bc .eql 3 4 1 3),I.n 3 6 (I.mv 5),I.w 4 7 (I.fa 35 1 0) 6 false,I.w 5 8 (I.ld 3 7) 6 false,I.w 6 9 (I.bc .eql 3 8 3 3) 6 false,I.n 7 10 (I.pb 6 true 9)]) (.cond (.tmp 10) (.seq (.reg 2 [I.n 0 11 (I.fa 35 1 1),I.n 1 12 (I.ld 3 11),I.n 2 2 (I.sa 12)]) .ret) .skip)) (.seq (.reg 3 [I.n 0 2 (I.si 0)]) .ret))):=by
 intro c h
 have:c = Tryd.f143.body.get rfl:=by rw [<- Option.some_inj,<- h];rfl
 rw [this];rfl
theorem WM:∀ c,Tryd.f144.body = some c -> comp c = (.seq (.reg 0 [I.n 0 1 (.box 35 (.tmp 0)),I.n 1 2 (I.si 0)]) (.seq (.seq (.reg 1 [I.n 0 3 (I.fa 35 1 0),I.n 1 4 (I.ld 3 3),I.n 2 5 (I.bc .eql 3 4 1 3)]) (.cond (.tmp 5) (.seq (.reg 2 [I.n 0 6 (I.fa 35 1 1),I.n 1 7 (I.ld 3 6),I.n 2 2 (I.sa 7)]) .ret) .skip)) (.seq (.seq (.reg 3 [I.n 0 8 (I.fa 35 1 0),I.n 1 9 (I.ld 3 8),I.n 2 10 (I.bc .eql 3 9 2 3)]) (.cond (.tmp 10) (.seq (.reg 4 [I.n 0 11 (I.fa 35 1 2),I.n 1 12 (I.ld 9 11),I.n 2 13 (I.c1 70 12 9),I.n 3 14 (.call { callee:=.builtin .max,args:=#[.tmp 13,.const (Value.int .i64 0)],argTypes:=#[3,3] }),I.n 4 2 (I.sa 14)]) .ret) .skip)) (.seq (.reg 5 [I.n 0 2 (I.si 0)]) .ret)))):=by
 intro c h
 have:c = Tryd.f144.body.get rfl:=by rw [<- Option.some_inj,<- h];rfl
 rw [this];rfl
theorem WO:∀ c,Tryd.f142.body = some c -> comp c = (.seq (.reg 0 [I.n 0 1 (.box 35 (.tmp 0)),I.n 1 2 (I.si 0)]) (.seq (.seq (.reg 1 [I.n 0 3 (I.fa 35 1 0),I.n 1 4 (I.ld 3 3)]) (.block 0 (.seq (.seq (.reg 2 [I.n 0 6 (I.bc .eql 3 4 1 3),I.n 1 5 (I.sa 6)]) (.cond (.tmp 5) .skip (.reg 3 [I.n 0 7 (I.bc .eql 3 4 3 3),I.n 1 5 (I.sa 7)]))) (.cond (.tmp 5) (.seq (.seq (.reg 4 [I.n 0 8 (I.fa 35 1 1),I.n 1 9 (I.ld 3 8),I.n 2 10 (I.bc .lss 3 9 0 3),I.n 3 11 (I.mv 10),I.w 4 12 (I.fa 35 1 1) 11 false,I.w 5 13 (I.ld 3 12) 11 false,I.w 6 14 (I.bc .gtr 3 13 1048576 3) 11 false,I.n 7 15 (I.pb 11 true 14)]) (.cond (.tmp 15) (.seq (.reg 5 [I.n 0 2 (I.si 2)]) .ret) .skip)) (.seq (.seq (.reg 6 [I.n 0 16 (I.fa 35 1 2),I.n 1 17 (I.ld 9 16),I.n 2 18 (.binOp .neq 9 (.tmp 17) (.const (Value.string { data:=#[] })) 9)]) (.cond (.tmp 18) (.seq (.reg 7 [I.n 0 2 (I.si 3)]) .ret) .skip)) (.seq (.reg 8 [I.n 0 2 (I.si 0)]) .ret))) (.seq (.reg 9 [I.n 0 20 (I.bc .eql 3 4 2 3),I.n 1 19 (I.sa 20)]) (.cond (.tmp 19) (.seq (.seq (.reg 10 [I.n 0 21 (I.fa 35 1 1),I.n 1 22 (I.ld 3 21),I.n 2 23 (I.bc .neq 3 22 0 3)]) (.cond (.tmp 23) (.seq (.reg 11 [I.n 0 2 (I.si 2)]) .ret) .skip)) (.seq (.seq (.reg 12 [I.n 0 24 (I.fa 35 1 2),I.n 1 25 (I.ld 9 24),I.n 2 26 (I.c1 99 25 9),I.n 3 27 (.unOp .not 4 (.tmp 26))]) (.cond (.tmp 27) (.seq (.reg 13 [I.n 0 2 (I.si 3)]) .ret) .skip)) (.seq (.reg 14 [I.n 0 2 (I.si 0)]) .ret))) .skip)))))) (.seq (.reg 15 [I.n 0 2 (I.si 1)]) .ret))):=by
 intro c h
 have:c = Tryd.f142.body.get rfl:=by rw [<- Option.some_inj,<- h];rfl
 rw [this];rfl
theorem WQ:∀ c,Tryd.f123.body = some c -> comp c = (.seq (.reg 0 [I.n 0 1 (.box 35 (.tmp 0)),I.n 1 2 (.alloc 143),I.n 2 3 (I.sb false)]) (.seq (.seq (.reg 1 [I.n 0 4 (I.fa 35 1 0),I.n 1 5 (I.ld 3 4),I.n 2 6 (I.bc .lss 3 5 1 3),I.n 3 7 (I.mv 6),I.w 4 8 (I.fa 35 1 0) 7 false,I.w 5 9 (I.ld 3 8) 7 false,I.w 6 10 (I.bc .gtr 3 9 3 3) 7 false,I.n 7 11 (I.pb 7 true 10)]) (.cond (.tmp 11) (.seq (.reg 2 [I.n 0 12 (.build 143 #[]),I.u 1 (I.st 143 2 12),I.n 2 3 (I.sb false)]) .ret) .skip)) (.seq (.reg 3 [I.n 0 13 (I.fa 35 1 0),I.n 1 14 (I.ld 3 13),I.n 2 15 (.indexAddr 175 (.global 2) (.tmp 14)),I.n 3 16 (I.ld 143 15),I.u 4 (I.st 143 2 16),I.n 5 3 (I.sb true)]) .ret))):=by
 intro c h
 have:c = Tryd.f123.body.get rfl:=by rw [<- Option.some_inj,<- h];rfl
 rw [this];rfl
theorem WR:∀ c,Tryd.f120.body = some c -> comp c = (.seq (.reg 0 [I.n 0 1 (.box 35 (.tmp 0)),I.n 1 2 (I.si 0)]) (.seq (.seq (.reg 1 [I.n 0 6 (I.ld 35 1),I.n 1 7 (I.c1 123 6 35),I.n 2 5 (I.mv 7),I.n 3 8 (I.ex 5 0),I.n 4 9 (I.ex 5 1),I.n 5 3 (.alloc 143),I.u 6 (I.st 143 3 8),I.n 7 4 (I.sa 9)]) (.seq (.reg 2 [I.n 0 10 (I.fa 143 3 0),I.n 1 11 (I.ld 4 10)]) (.cond (.tmp 11) (.seq (.reg 3 [I.n 0 12 (I.fa 35 1 1),I.n 1 13 (I.ld 3 12),I.n 2 2 (I.sa 13)]) .ret) .skip))) (.seq (.reg 4 [I.n 0 2 (I.si 0)]) .ret))):=by
 intro c h
 have:c = Tryd.f120.body.get rfl:=by rw [<- Option.some_inj,<- h];rfl
 rw [this];rfl
theorem aaV:∀ c,Tryd.f82.body = some c -> comp c = (.seq (.reg 0 [I.n 0 1 (.box 35 (.tmp 0)),I.n 1 2 (I.si 0)]) (.seq (.reg 1 [I.n 0 6 (I.ld 35 1),I.n 1 7 (I.c1 123 6 35),I.n 2 5 (I.mv 7),I.n 3 8 (I.ex 5 0),I.n 4 9 (I.ex 5 1),I.n 5 3 (.alloc 143),I.u 6 (I.st 143 3 8),I.n 7 4 (I.sa 9)]) (.seq (.block 0 (.seq (.reg 2 [I.n 0 11 (I.fa 143 3 1),I.n 1 12 (I.ld 4 11),I.n 2 10 (I.sa 12)]) (.cond (.tmp 10) (.seq (.reg 3 [I.n 0 13 (I.fa 35 1 1),I.n 1 14 (I.ld 3 13),I.n 2 2 (I.sa 14)]) .ret) (.seq (.reg 4 [I.n 0 16 (I.fa 35 1 0),I.n 1 17 (I.ld 3 16),I.n 2 18 (I.bc .eql 3 17 2 3),I.n 3 15 (I.sa 18)]) (.cond (.tmp 15) (.seq (.reg 5 [I.n 0 19 (I.fa 35 1 2),I.n 1 20 (I.ld 9 19),I.n 2 21 (I.c1 32 20 9),I.n 3 22 (.call { callee:=.builtin .max,args:=#[.tmp 21,.const (Value.int .i64 0)],argTypes:=#[3,3] }),I.n 4 2 (I.sa 22)]) .ret) .skip))))) (.seq (.reg 6 [I.n 0 2 (I.si 0)]) .ret)))):=by
 intro c h
 have:c = Tryd.f82.body.get rfl:=by rw [<- Option.some_inj,<- h];rfl
 rw [this];rfl
theorem WS:∀ c,Tryd.f118.body = some c -> comp c = (.seq (.reg 0 [I.n 0 1 (.box 35 (.tmp 0)),I.n 1 2 (I.si 0)]) (.seq (.reg 1 [I.n 0 6 (I.ld 35 1),I.n 1 7 (I.c1 123 6 35),I.n 2 5 (I.mv 7),I.n 3 8 (I.ex 5 0),I.n 4 9 (I.ex 5 1),I.n 5 3 (.alloc 143),I.u 6 (I.st 143 3 8),I.n 7 4 (I.sa 9)]) (.seq (.block 0 (.seq (.reg 2 [I.n 0 11 (I.mv 4),I.n 1 12 (.unOp .not 4 (.tmp 11)),I.n 2 10 (I.sa 12)]) (.cond (.tmp 10) (.seq (.reg 3 [I.n 0 2 (I.si 1)]) .ret) (.seq (.seq (.reg 4 [I.n 0 14 (I.fa 143 3 0),I.n 1 15 (I.ld 4 14),I.n 2 16 (I.mv 15),I.w 3 17 (I.fa 35 1 1) 16 true,I.w 4 18 (I.ld 3 17) 16 true,I.w 5 19 (I.bc .lss 3 18 0 3) 16 true,I.w 6 20 (I.mv 19) 16 true,I.w 7 21 (I.fa 35 1 1) 20 false,I.w 8 22 (I.ld 3 21) 20 false,I.w 9 23 (I.bc .gtr 3 22 1048576 3) 20 false,I.w 10 24 (I.pb 20 true 23) 16 true,I.n 11 25 (I.pc 16 24 false),I.n 12 13 (I.sa 25)]) (.cond (.tmp 13) .skip (.reg 5 [I.n 0 26 (I.fa 143 3 0),I.n 1 27 (I.ld 4 26),I.n 2 28 (.unOp .not 4 (.tmp 27)),I.n 3 29 (I.mv 28),I.w 4 30 (I.fa 35 1 1) 29 true,I.w 5 31 (I.ld 3 30) 29 true,I.w 6 32 (I.bc .neq 3 31 0 3) 29 true,I.n 7 33 (I.pc 29 32 false),I.n 8 13 (I.sa 33)]))) (.cond (.tmp 13) (.seq (.reg 6 [I.n 0 2 (I.si 2)]) .ret) (.seq (.seq (.reg 7 [I.n 0 35 (I.fa 143 3 0),I.n 1 36 (I.ld 4 35),I.n 2 37 (I.mv 36),I.w 3 38 (I.fa 35 1 2) 37 true,I.w 4 39 (I.ld 9 38) 37 true,I.w 5 40 (.binOp .neq 9 (.tmp 39) (.const (Value.string { data:=#[] })) 9) 37 true,I.n 6 41 (I.pc 37 40 false),I.n 7 34 (I.sa 41)]) (.cond (.tmp 34) .skip (.reg 8 [I.n 0 42 (I.fa 35 1 2),I.n 1 43 (I.ld 9 42),I.n 2 44 (I.c1 78 43 9),I.n 3 45 (.unOp .not 4 (.tmp 44)),I.n 4 34 (I.sa 45)]))) (.cond (.tmp 34) (.seq (.reg 9 [I.n 0 2 (I.si 3)]) .ret) .skip))))))) (.seq (.reg 10 [I.n 0 2 (I.si 0)]) .ret)))):=by
 intro c h
 have:c = Tryd.f118.body.get rfl:=by rw [<- Option.some_inj,<- h];rfl
 rw [this];rfl
theorem BA (k n:Int) (t:ByteArray):aO env 143 [lH k n t] (fun r hs=>r = .v (.int .i64 (kN k n)) /\ hs = []):=by
 refine Ev.fn [0,1,2,10] 0 [.tmp 2] Tryd.func143 (WL _ rfl) ?_
 refine' X3
 all_goals (refine ⟨congrArg (fun z=>AV.v (Value.int IntKind.i64 z)) ?_,rfl⟩;unfold kN;split <;> omega)
theorem yD (k n:Int) (t:ByteArray) (ht:t.size <= 1000000000):aO env 144 [lH k n t] (fun r hs=>r = .v (.int .i64 (kQ k n t)) /\ hs = []):=by
 refine Ev.fn [0,1,2,5,10] 0 [.tmp 2] Tryd.func144 (WM _ rfl) ?_
 repeat' (first | refine' Ev.Bv | refine' Ev.zK | ((refine Ev.aU (gU t ht) rfl rfl ?_);conv=>whnf) | refine' Ev.zU | fail)
 all_goals (refine ⟨congrArg (fun z=>AV.v (Value.int IntKind.i64 z)) ?_,rfl⟩;unfold kQ;simp only [*,if_true,if_false,reduceIte,Int.reduceEq])
theorem OL (k n:Int) (t:ByteArray) (ht:t.size <= 1000000000):aO env 142 [lH k n t] (fun r hs=>r = .v (.int .i64 (yC k n t)) /\ hs = []):=by
 refine Ev.fn [0,1,2,4,5,15,18,19,23,27] 0 [.tmp 2] Tryd.func142 (WO _ rfl) ?_
 repeat' (first | refine' Ev.Bv | refine' Ev.zK | ((refine Ev.aU (rZ t ht) rfl rfl ?_);conv=>whnf) | refine' Ev.zU | fail)
 all_goals first
   | (exfalso;omega)
   | (refine ⟨congrArg (fun z=>AV.v (Value.int IntKind.i64 z)) ?_,rfl⟩;unfold yC;simp [*])
theorem ac3{G:Prop}(h:G:=by
 refine Ev.fn [0,1,2,3,11] 0 [.cell 2 143,.tmp 3] Tryd.func123 (WQ _ rfl) ?_
 refine' X3
 all_goals(rcases(⟨_⟩:PLift _)with⟨h⟩;exact h)):G:=h
theorem ES (k n:Int) (t:ByteArray):aO env 123 [lH k n t] (fun r hs=>r = .dM [.agg [.v (.bool (decide (k = 1 ∨ k = 3))),.v (.bool (decide (k = 1)))],.v (.bool (decide (1 <= k /\ k <= 3)))] /\ hs = []):=by
 have hk:k = 1 ∨ k = 2 ∨ k = 3 ∨ k < 1 ∨ 3 < k:=by omega
 rcases hk with rfl | rfl | rfl | hk
 · refine' ac3
   all_goals first | (exfalso;omega) | exact ⟨rfl,rfl⟩ | (refine Ev.Side.of ?_;decide)
 · refine' ac3
   all_goals first | (exfalso;omega) | exact ⟨rfl,rfl⟩ | (refine Ev.Side.of ?_;decide)
 · refine' ac3
   all_goals first | (exfalso;omega) | exact ⟨rfl,rfl⟩ | (refine Ev.Side.of ?_;decide)
 · rw [decide_eq_false (p:=k = 1 ∨ k = 3) (by omega),decide_eq_false (p:=k = 1) (by omega),decide_eq_false (p:=1 <= k /\ k <= 3) (by omega)]
   refine' ac3
   all_goals first | exact ⟨rfl,rfl⟩ | (exfalso;omega)
theorem WT (k n:Int) (t:ByteArray):aO env 120 [lH k n t] (fun r hs=>r = .v (.int .i64 (kN k n)) /\ hs = []):=by
 refine Ev.fn [0,1,2,3,11] 0 [.tmp 2] Tryd.func120 (WR _ rfl) ?_
 repeat' (first | refine' Ev.Bv | refine' Ev.zK | ((refine Ev.aU (ES k n t) rfl rfl ?_);conv=>whnf) | refine' Ev.zU | fail)
 all_goals first
   | (exfalso;omega)
   | (refine ⟨congrArg (fun z=>AV.v (Value.int IntKind.i64 z)) ?_,rfl⟩;unfold kN;simp [*])
theorem sD (k n:Int) (t:ByteArray) (ht:t.size <= 1000000000):aO env 82 [lH k n t] (fun r hs=>r = .v (.int .i64 (kQ k n t)) /\ hs = []):=by
 refine Ev.fn [0,1,2,3,10,15] 0 [.tmp 2] Tryd.func82 (aaV _ rfl) ?_
 repeat' (first | refine' Ev.Bv | refine' Ev.zK | ((refine Ev.aU (ES k n t) rfl rfl ?_);conv=>whnf) | ((refine Ev.aU (jO t ht) rfl rfl ?_);conv=>whnf) | refine' Ev.zU | fail)
 all_goals first
   | (exfalso;omega)
   | (refine ⟨congrArg (fun z=>AV.v (Value.int IntKind.i64 z)) ?_,rfl⟩;unfold kQ;simp [*])
theorem SA (k n:Int) (t:ByteArray) (ht:t.size <= 1000000000):aO env 118 [lH k n t] (fun r hs=>r = .v (.int .i64 (yC k n t)) /\ hs = []):=by
 refine Ev.fn [0,1,2,3,4,10,13,34] 0 [.tmp 2] Tryd.func118 (WS _ rfl) ?_
 repeat' (first | refine' Ev.Bv | refine' Ev.zK | ((refine Ev.aU (ES k n t) rfl rfl ?_);conv=>whnf) | ((refine Ev.aU (su t ht) rfl rfl ?_);conv=>whnf) | refine' Ev.zU | fail)
 all_goals first
   | (exfalso;omega)
   | (refine ⟨congrArg (fun z=>AV.v (Value.int IntKind.i64 z)) ?_,rfl⟩;unfold yC;simp [*];done)
   | (obtain rfl:k = 2:=by omega
      refine ⟨congrArg (fun z=>AV.v (Value.int IntKind.i64 z)) ?_,rfl⟩;unfold yC;simp [*];done)
   | (refine ⟨congrArg (fun z=>AV.v (Value.int IntKind.i64 z)) ?_,rfl⟩;unfold yC;rw [if_neg (by omega),if_neg (by omega)];done)
   | (rename_i ht' hv;subst ht';exact absurd hv (by decide))
def FT (l:List Int):List (List AV):=l.map fun n=>[.v (.int .i32 n)]
def UE (l:List Int):List (List AV):=l.map fun n=>[.v (.int .u8 n)]
def encI (n:Int):List Int :=
 if jc n = 1 then [n] else if jc n = 2 then [192 + n / 64,128 + n % 64] else if jc n = 3 then [224 + n / 4096,128 + n / 64 % 64,128 + n % 64]
 else if jc n = 4 then [240 + n / 262144,128 + n / 4096 % 64,128 + n / 64 % 64,128 + n % 64] else []
def WU (l:List Int):ByteArray:=⟨(l.map fun n=>UInt8.ofNat n.toNat).toArray⟩
theorem KT:∀ l:List Int,(UE l).mapM toByte = some (l.map fun n=>UInt8.ofNat n.toNat)
 | []=>rfl
 | n :: l=>by
   have:=KT l
   simp only [UE] at this ⊢
   simp only [List.map_cons,List.mapM_cons,this,toByte];rfl
theorem w1 {n:Int} (h:0 <= n /\ n < 128):IntKind.u8.wrap n = n:=by rw [Ev.KH];omega
theorem wa {n c b:Int} (hn:0 <= n) (hb:0 <= c /\ c + n / b < 256 /\ 0 <= n / b):IntKind.u8.wrap (IntKind.i64.wrap (c + IntKind.i64.wrap (n.tdiv b))) = c + n / b:=by
 rw [Int.tdiv_eq_ediv_of_nonneg hn,Ev.wrap64,Ev.wrap64,Ev.KH];omega
theorem wb {n:Int} (hn:0 <= n):IntKind.u8.wrap (IntKind.i64.wrap (128 + n.tmod 64)) = 128 + n % 64:=by
 rw [Int.tmod_eq_emod_of_nonneg hn,Ev.wrap64,Ev.KH];omega
theorem wc {n b:Int} (hn:0 <= n) (hb:0 <= n / b /\ n / b < 1114112):IntKind.u8.wrap (IntKind.i64.wrap (128 + (IntKind.i64.wrap (n.tdiv b)).tmod 64)) = 128 + n / b % 64:=by
 have e:IntKind.i64.wrap (n.tdiv b) = n / b:=by rw [Int.tdiv_eq_ediv_of_nonneg hn,Ev.wrap64];omega
 rw [e,wb hb.1]
theorem WV {n m:Int} (h:jc n = m) (hm:0 < m):0 <= n /\ n < 1114112 /\ (m = 1 -> n < 128) /\ (m = 2 -> n < 2048) /\ (m = 3 -> n < 65536):=by
 unfold jc at h;omega
theorem aaW:∀ c,Tryd.f84.body = some c -> comp c = (.seq (.reg 0 [I.n 0 2 (.assign (.const (Value.string { data:=#[] })))]) (.seq (.reg 1 [I.n 0 6 (.buildSlice 56 0 #[]),I.n 1 3 (I.sa 6)]) (.seq (.seq (.reg 2 [I.n 0 4 (I.si 0)]) (.block 0 (.loop (.seq (.seq (.reg 3 [I.n 0 7 (I.mv 4),I.n 1 8 (I.mv 0),I.n 2 9 (I.ln 8 115),I.n 3 10 (I.bo .lss 3 7 9 3)]) (.cond (.tmp 10) .skip (.exit 0))) (.seq (.block 1 (.seq (.reg 5 [I.n 0 13 (I.mv 0),I.n 1 14 (I.mv 4),I.n 2 15 (I.ia 115 13 14),I.n 3 16 (I.ld 21 15),I.n 4 17 (I.cv 21 3 16),I.n 5 5 (I.sa 17)]) (.seq (.reg 6 [I.n 0 18 (I.mv 5),I.n 1 19 (I.c1 124 18 3)]) (.block 2 (.seq (.reg 7 [I.n 0 21 (I.bc .eql 3 19 1 3),I.n 1 20 (I.sa 21)]) (.cond (.tmp 20) (.reg 8 [I.n 0 22 (I.mv 3),I.n 1 23 (I.mv 5),I.n 2 24 (I.cv 3 5 23),I.n 3 25 (I.b1 56 24),I.n 4 26 (I.ap 22 25 56 56),I.n 5 3 (I.sa 26)]) (.seq (.reg 9 [I.n 0 28 (I.bc .eql 3 19 2 3),I.n 1 27 (I.sa 28)]) (.cond (.tmp 27) (.reg 10 [I.n 0 29 (I.mv 3),I.n 1 30 (I.mv 5),I.n 2 31 (I.bc .quo 3 30 64 3),I.n 3 32 (.binOp .add 3 (.const (Value.int .i64 192)) (.tmp 31) 3),I.n 4 33 (I.cv 3 5 32),I.n 5 34 (I.mv 5),I.n 6 35 (I.bc .rem 3 34 64 3),I.n 7 36 (.binOp .add 3 (.const (Value.int .i64 128)) (.tmp 35) 3),I.n 8 37 (I.cv 3 5 36),I.n 9 38 (.buildSlice 56 2 #[(0,.tmp 33),(1,.tmp 37)]),I.n 10 39 (I.ap 29 38 56 56),I.n 11 3 (I.sa 39)]) (.seq (.reg 11 [I.n 0 41 (I.bc .eql 3 19 3 3),I.n 1 40 (I.sa 41)]) (.cond (.tmp 40) (.reg 12 [I.n 0 42 (I.mv 3),I.n 1 43 (I.mv 5),I.n 2 44 (I.bc .quo 3 43 4096 3),I.n 3 45 (.binOp .add 3 (.const (Value.int .i64 224)) (.tmp 44) 3),I.n 4 46 (I.cv 3 5 45),I.n 5 47 (I.mv 5),I.n 6 48 (I.bc .quo 3 47 64 3),I.n 7 49 (I.bc .rem 3 48 64 3),I.n 8 50 (.binOp .add 3 (.const (Value.int .i64 128)) (.tmp 49) 3),I.n 9 51 (I.cv 3 5 50),I.n 10 52 (I.mv 5),I.n 11 53 (I.bc .rem 3 52 64 3),I.n 12 54 (.binOp .add 3 (.const (Value.int .i64 128)) (.tmp 53) 3),I.n 13 55 (I.cv 3 5 54),I.n 14 56 (.buildSlice 56 3 #[(0,.tmp 46),(1,.tmp 51),(2,.tmp 55)]),I.n 15 57 (I.ap 42 56 56 56),I.n 16 3 (I.sa 57)]) (.seq (.reg 13 [I.n 0 59 (I.bc .eql 3 19 4 3),I.n 1 58 (I.sa 59)]) (.cond (.tmp 58) (.reg 14 [I.n 0 60 (I.mv 3),I.n 1 61 (I.mv 5),I.n 2 62 (I.bc .quo 3 61 262144 3),I.n 3 63 (.binOp .add 3 (.const (Value.int .i64 240)) (.tmp 62) 3),I.n 4 64 (I.cv 3 5 63),I.n 5 65 (I.mv 5),I.n 6 66 (I.bc .quo 3 65 4096 3),I.n 7 67 (I.bc .rem 3 66 64 3),I.n 8 68 (.binOp .add 3 (.const (Value.int .i64 128)) (.tmp 67) 3),I.n 9 69 (I.cv 3 5 68),I.n 10 70 (I.mv 5),I.n 11 71 (I.bc .quo 3 70 64 3),I.n 12 72 (I.bc .rem 3 71 64 3),I.n 13 73 (.binOp .add 3 (.const (Value.int .i64 128)) (.tmp 72) 3),I.n 14 74 (I.cv 3 5 73),I.n 15 75 (I.mv 5),I.n 16 76 (I.bc .rem 3 75 64 3),I.n 17 77 (.binOp .add 3 (.const (Value.int .i64 128)) (.tmp 76) 3),I.n 18 78 (I.cv 3 5 77),I.n 19 79 (.buildSlice 56 4 #[(0,.tmp 64),(1,.tmp 69),(2,.tmp 74),(3,.tmp 78)]),I.n 20 80 (I.ap 60 79 56 56),I.n 21 3 (I.sa 80)]) .skip)))))))))))) (.reg 4 [I.n 0 11 (I.mv 4),I.n 1 12 (I.bc .add 3 11 1 3),I.n 2 4 (I.sa 12)])))))) (.seq (.reg 15 [I.n 0 81 (I.mv 3),I.n 1 82 (I.cv 56 9 81),I.n 2 2 (I.sa 82)]) .ret)))):=by
 intro c h
 have:c = Tryd.f84.body.get rfl:=by rw [<- Option.some_inj,<- h];rfl
 rw [this];rfl
theorem aai{G:Prop}(h:G:=by (refine Ev.again (k - 1) ⟨[(0,_),(2,_),(3,.own 512 (c + 8) 0 (out ++ encI l[i]).length),(4,.v (.int .i64 ((i + 1:Nat):Int)))],[(512,⟨1,5,c + 8,0,false,UE (out ++ encI l[i])⟩)],c + 8 + 8⟩ (by omega) ⟨rfl,rfl,Ev.ah rfl ?_,Ev.eu rfl (by rw [Ev.wrap64];omega),trivial⟩ ⟨Ev.ah rfl ?_,trivial⟩ (Nat.le_refl _) ⟨i + 1,c + 8,c + 8 + 8,out ++ encI l[i],rfl,by omega,?_,?_⟩);all_goals(rcases(⟨_⟩:PLift _)with⟨h⟩;exact h)):G:=h
theorem aay{G:Prop}(h:G:=by
 have hi':i < l.length:=by simpa using hi
 have hn:IntKind.i64.wrap (l[(↑i:Int).toNat]'hi) = l[i]:=by
   simp only [Int.toNat_natCast];rw [Ev.wrap64];have:=h32 _ (List.getElem_mem hi');omega
 all_goals(rcases(⟨_⟩:PLift _)with⟨h⟩;exact h)):G:=h
theorem PY{G:Prop}(h:G:=by exact Ev.Side.of (by decide)):G:=h
theorem abo{G:Prop}(h:G:=by
 rw [he]
 simp only [aG.mk.injEq,true_and,and_true,List.drop_zero,UE,List.map_append,List.map_cons,List.map_nil,List.take_succ_cons,List.take_zero,hn]
 all_goals(rcases(⟨_⟩:PLift _)with⟨h⟩;exact h)):G:=h
theorem abw{G:Prop}(h:G:=by
 refine Ev.Side.of ?_
 have hm:2000000003 <= maxLen:=by decide
 have hi':i < l.length:=by simpa using hi
 simp [UE]
 omega):G:=h
theorem adi{G:Prop}(h:G:=by rw [ho,List.take_succ_eq_append_getElem hi',List.flatMap_append];simp):G:=h
theorem agb{G:Prop}(h:G:=by rw [he,List.length_append];simp;omega):G:=h
theorem agn{G:Prop}(h:G:=by (obtain ⟨b0,b1,b2,b3,b4⟩:=WV hz (by decide));all_goals(rcases(⟨_⟩:PLift _)with⟨h⟩;exact h)):G:=h
theorem WW (l:List Int) (hl:l.length <= 1000000) (h32:∀ n ∈ l,-2147483648 <= n /\ n < 2147483648):aO env 84 [.lst 1 (FT l)] (fun r hs=>r = .v (.string (WU (l.flatMap encI))) /\ hs = []):=by
 refine Ev.fn [0,2,3,4,5,10,19,20,27,40,58] 0 [.tmp 2] Tryd.func84 (aaW _ rfl) ?_
 repeat' (first | refine' Ev.Bv | refine' Ev.zK | refine' Ev.zU | fail)
 refine Ev.loop (fun k s=>∃ (i v c:Nat) (out:List Int),s = ⟨[(0,.lst 1 (FT l)),(2,.v (.string ⟨#[]⟩)),(3,.own 512 v 0 out.length),(4,.v (.int .i64 i))],[(512,⟨1,5,v,0,false,UE out⟩)],c⟩ /\
     k + i = l.length /\ out = (l.take i).flatMap encI /\ out.length <= 4 * i) ?_ ?_
 · exact Ev.to ⟨[(0,_),(2,_),(3,.own 512 0 0 0),(4,.v (.int .i64 ((0:Nat):Int)))],[(512,⟨1,5,0,0,false,UE []⟩)],8⟩ ⟨rfl,rfl,rfl,rfl,trivial⟩ ⟨rfl,trivial⟩ (Nat.le_refl _) ⟨l.length,0,0,8,[],rfl,by omega,rfl,by simp⟩
 rintro k s1 ⟨i,v,c,out,rfl,hk,ho,hb⟩
 repeat' (first | refine' Ev.Bv | refine' Ev.zK | ((refine Ev.aU (DC _) rfl rfl ?_);conv=>whnf) | ((refine Ev.x9 ?_ (fun hi=>?_);rotate_left);conv=>whnf) | refine' Ev.zU | fail)
 · refine' aay
   have hz:jc l[i] = 1:=by rw [<- hn];assumption
   refine' agn
   have he:encI l[i] = [l[i]]:=by unfold encI;simp [hz]
   refine' aai
   · rw [he];simp
   · refine' abo
     simp only [w1 (n:=l[i]) ⟨b0,by omega⟩,wb b0,wc (n:=l[i]) (b:=64) b0 (by omega),wc (n:=l[i]) (b:=4096) b0 (by omega)]
   · refine' adi
   · refine' agb
 · refine' abw
 · refine' aay
   have hz:jc l[i] = 2:=by rw [<- hn];assumption
   refine' agn
   have he:encI l[i] = [192 + l[i] / 64,128 + l[i] % 64]:=by unfold encI;simp [hz]
   refine' aai
   · rw [he];simp
   · refine' abo
     simp only [wa (n:=l[i]) (c:=192) (b:=64) b0 (by omega),wa (n:=l[i]) (c:=224) (b:=4096) b0 (by omega),wa (n:=l[i]) (c:=240) (b:=262144) b0 (by omega),wb b0,wc (n:=l[i]) (b:=64) b0 (by omega),wc (n:=l[i]) (b:=4096) b0 (by omega)]
   · refine' adi
   · refine' agb
 · refine' abw
 · refine' PY
 · refine' PY
 · refine' aay
   have hz:jc l[i] = 3:=by rw [<- hn];assumption
   refine' agn
   have he:encI l[i] = [224 + l[i] / 4096,128 + l[i] / 64 % 64,128 + l[i] % 64]:=by unfold encI;simp [hz]
   refine' aai
   · rw [he];simp
   · refine' abo
     simp only [wa (n:=l[i]) (c:=224) (b:=4096) b0 (by omega),wa (n:=l[i]) (c:=240) (b:=262144) b0 (by omega),wb b0,wc (n:=l[i]) (b:=64) b0 (by omega),wc (n:=l[i]) (b:=4096) b0 (by omega)]
   · refine' adi
   · refine' agb
 · refine' abw
 · refine' PY
 · refine' PY
 · refine' PY
 · refine' PY
 · refine' aay
   have hz:jc l[i] = 4:=by rw [<- hn];assumption
   refine' agn
   have he:encI l[i] = [240 + l[i] / 262144,128 + l[i] / 4096 % 64,128 + l[i] / 64 % 64,128 + l[i] % 64]:=by unfold encI;simp [hz]
   refine' aai
   · rw [he];simp
   · refine' abo
     simp only [wa (n:=l[i]) (c:=240) (b:=262144) b0 (by omega),wb b0,wc (n:=l[i]) (b:=64) b0 (by omega),wc (n:=l[i]) (b:=4096) b0 (by omega)]
   · refine' adi
   · refine' agb
 · refine' abw
 · refine' PY
 · refine' PY
 · refine' PY
 · refine' PY
 · refine' PY
 · refine' PY
 · refine' aay
   rename_i z1 z2 z3 z4
   simp only [hn] at z1 z2 z3 z4
   have he:encI l[i] = []:=by unfold encI;simp [z1,z2,z3,z4]
   refine Ev.again (k - 1) ⟨[(0,_),(2,_),(3,_),(4,.v (.int .i64 ((i + 1:Nat):Int)))],[(512,_)],_⟩ (by omega) ⟨rfl,rfl,rfl,Ev.eu rfl (by rw [Ev.wrap64];omega),trivial⟩ ⟨rfl,trivial⟩ (Nat.le_refl _) ⟨i + 1,v,c,out,rfl,by omega,?_,by omega⟩
   rw [ho,List.take_succ_eq_append_getElem hi',List.flatMap_append];simp [he]
 · refine Ev.Side.of ?_
   rename_i hlt
   simp only [FT,List.length_map] at hlt;omega
 · refine Ev.Side.of ?_
   rename_i hlt
   omega
 · rename_i hlt
   have ei:i = l.length:=by simp only [FT,List.length_map] at hlt;omega
   have e:List.mapM toByte (List.take out.length (List.drop 0 (UE out))) = some (out.map fun n=>UInt8.ofNat n.toNat):=by
     rw [List.drop_zero,List.take_of_length_le (by simp [UE])];exact KT out
   refine Ev.CY _ e ?_
   conv=>whnf
   repeat' (first | refine' Ev.Bv | refine' Ev.zK | refine' Ev.zU | fail)
   subst ho;subst ei
   rw [List.take_of_length_le (Nat.le_refl _)]
   exact ⟨rfl,rfl⟩
 · refine Ev.Side.of ?_;simp [UE]
def eight (r:Int):Int:=([97,98,99,120,121,233,8364,128512]:List Int).getD r.toNat 0
def jI (t:ByteArray) (k:Nat):List Int:=(List.range k).map fun i=>eight (Ev.iF t i % 8)
theorem jP (t:ByteArray) (k:Nat):jI t (k + 1) = jI t k ++ [eight (Ev.iF t k % 8)]:=by simp [jI,List.range_succ]
theorem wW (t:ByteArray) (k:Nat):(jI t k).length = k:=by simp [jI]
theorem GV {t:ByteArray} {k:Nat} {n:Int} (h:n ∈ jI t k):n = 97 ∨ n = 98 ∨ n = 99 ∨ n = 120 ∨ n = 121 ∨ n = 233 ∨ n = 8364 ∨ n = 128512:=by
 simp only [jI,List.mem_map] at h
 obtain ⟨i,_,rfl⟩:=h
 have:Ev.iF t i % 8 = 0 ∨ Ev.iF t i % 8 = 1 ∨ Ev.iF t i % 8 = 2 ∨ Ev.iF t i % 8 = 3 ∨ Ev.iF t i % 8 = 4 ∨ Ev.iF t i % 8 = 5 ∨ Ev.iF t i % 8 = 6 ∨ Ev.iF t i % 8 = 7:=by omega
 rcases this with h | h | h | h | h | h | h | h <;> rw [h] <;> simp [eight]
def BD (t:ByteArray):ByteArray:=WU ((jI t t.size).flatMap encI)
theorem aaX:∀ c,Tryd.f37.body = some c -> comp c = (.seq (.reg 0 [I.n 0 2 (.assign (.const (Value.string { data:=#[] })))]) (.seq (.reg 1 [I.n 0 6 (.build 114 #[(0,.const (Value.int .i32 97)),(1,.const (Value.int .i32 98)),(2,.const (Value.int .i32 99)),(3,.const (Value.int .i32 120)),(4,.const (Value.int .i32 121)),(5,.const (Value.int .i32 233)),(6,.const (Value.int .i32 8364)),(7,.const (Value.int .i32 128512))]),I.n 1 3 (.alloc 114),I.u 2 (I.st 114 3 6)]) (.seq (.reg 2 [I.n 0 7 (.buildSlice 115 0 #[]),I.n 1 4 (I.sa 7)]) (.seq (.seq (.reg 3 [I.n 0 5 (I.si 0)]) (.block 0 (.loop (.seq (.seq (.reg 4 [I.n 0 8 (I.mv 5),I.n 1 9 (I.mv 0),I.n 2 10 (I.ln 9 9),I.n 3 11 (I.bo .lss 3 8 10 3)]) (.cond (.tmp 11) .skip (.exit 0))) (.seq (.block 1 (.reg 6 [I.n 0 14 (I.mv 4),I.n 1 15 (I.mv 0),I.n 2 16 (I.mv 5),I.n 3 17 (.index 9 (.tmp 15) (.tmp 16)),I.n 4 18 (.binOp .rem 5 (.tmp 17) (.const (Value.int .u8 8)) 5),I.n 5 19 (I.ia 114 3 18),I.n 6 20 (I.ld 21 19),I.n 7 21 (I.b1 115 20),I.n 8 22 (I.ap 14 21 115 115),I.n 9 4 (I.sa 22)])) (.reg 5 [I.n 0 12 (I.mv 5),I.n 1 13 (I.bc .add 3 12 1 3),I.n 2 5 (I.sa 13)])))))) (.seq (.reg 7 [I.n 0 23 (I.mv 4),I.n 1 24 (I.c1 84 23 115),I.n 2 2 (I.sa 24)]) .ret))))):=by
 intro c h
 have:c = Tryd.f37.body.get rfl:=by rw [<- Option.some_inj,<- h];rfl
 rw [this];rfl
theorem X4{G:Prop}(h:G:=by (refine Ev.again (k - 1) ⟨[(0,_),(2,_),(3,_),(4,.own 1024 (c + 8) 0 (jI t (i + 1)).length),(5,.v (.int .i64 ((i + 1:Nat):Int)))],[(1024,⟨1,21,c + 8,0,false,FT (jI t (i + 1))⟩),(520,⟨8,114,0,0,true,[[.v (.int .i32 97),.v (.int .i32 98),.v (.int .i32 99),.v (.int .i32 120),.v (.int .i32 121),.v (.int .i32 233),.v (.int .i32 8364),.v (.int .i32 128512)]]⟩)],c + 8 + 8⟩ (by omega) ⟨rfl,rfl,rfl,Ev.ah rfl ?_,Ev.eu rfl (by rw [Ev.wrap64];omega),trivial⟩ ⟨Ev.ah rfl ?_,rfl,trivial⟩ (Nat.le_refl _) ⟨i + 1,c + 8,c + 8 + 8,rfl,by omega⟩);all_goals(rcases(⟨_⟩:PLift _)with⟨h⟩;exact h)):G:=h
theorem X5{G:Prop}(h:G:=by (repeat' (first | (simp only [hr0]) | refine' Ev.Bv | refine' Ev.zK | ((refine Ev.aU (WW (jI t i) (by rw [wW];omega) (fun n hn=>by have:=GV hn;omega)) ?_ rfl ?_;rotate_left);conv=>whnf) | refine' Ev.zU | fail));all_goals(rcases(⟨_⟩:PLift _)with⟨h⟩;exact h)):G:=h
theorem X6{G:Prop}(h:G:=by
 refine Ev.Side.of ?_
 have hm:2000000003 <= maxLen:=by decide
 simp [FT,hlen]
 omega):G:=h
theorem X7{G:Prop}(h:G:=by
 rename_i hx
 have ei:i = t.size:=by omega
 subst ei
 exact ⟨rfl,trivial⟩):G:=h
theorem X8{G:Prop}(h:G:=by rw [List.drop_zero,List.take_of_length_le (by simp [FT])]):G:=h
theorem Ip{G:Prop}(h:G:=by exact Ev.Side.of (by decide)):G:=h
theorem X9{G:Prop}(h:G:=by refine Ev.Side.of ?_;simp [FT]):G:=h
theorem GX (t:ByteArray) (ht:t.size <= 1000000):aO env 37 [.v (.string t)] (fun r hs=>r = .v (.string (BD t)) /\ hs = []):=by
 refine Ev.fn [0,2,3,4,5,11] 0 [.tmp 2] Tryd.func37 (aaX _ rfl) ?_
 repeat' (first | refine' Ev.Bv | refine' Ev.zK | refine' Ev.zU | fail)
 · refine Ev.loop (fun k s=>∃ (i v c:Nat),s = ⟨[(0,.v (.string t)),(2,.v (.string ⟨#[]⟩)),(3,.ptr 520 0 0 0),(4,.own 1024 v 0 (jI t i).length),(5,.v (.int .i64 i))],[(1024,⟨1,21,v,0,false,FT (jI t i)⟩),(520,⟨8,114,0,0,true,[[.v (.int .i32 97),.v (.int .i32 98),.v (.int .i32 99),.v (.int .i32 120),.v (.int .i32 121),.v (.int .i32 233),.v (.int .i32 8364),.v (.int .i32 128512)]]⟩)],c⟩ /\ k + i = t.size) ?_ ?_
   · exact Ev.to ⟨[(0,_),(2,_),(3,.ptr 520 0 0 0),(4,.own 1024 8 0 0),(5,.v (.int .i64 ((0:Nat):Int)))],[(1024,⟨1,21,8,0,false,FT []⟩),(520,⟨8,114,0,0,true,[[.v (.int .i32 97),.v (.int .i32 98),.v (.int .i32 99),.v (.int .i32 120),.v (.int .i32 121),.v (.int .i32 233),.v (.int .i32 8364),.v (.int .i32 128512)]]⟩)],16⟩ ⟨rfl,rfl,rfl,rfl,rfl,trivial⟩ ⟨rfl,rfl,trivial⟩ (Nat.le_refl _) ⟨t.size,0,8,16,rfl,by omega⟩
   rintro k s1 ⟨i,v,c,rfl,hk⟩
   have hb:=Ev.Ey t i
   have hr0:(Ev.iF t (↑i:Int).toNat).tmod 8 = Ev.iF t i % 8:=by rw [Int.toNat_natCast,Int.tmod_eq_emod_of_nonneg hb.1]
   have hlen:=wW t i
   have this:Ev.iF t i % 8 = 0 ∨ Ev.iF t i % 8 = 1 ∨ Ev.iF t i % 8 = 2 ∨ Ev.iF t i % 8 = 3 ∨ Ev.iF t i % 8 = 4 ∨ Ev.iF t i % 8 = 5 ∨ Ev.iF t i % 8 = 6 ∨ Ev.iF t i % 8 = 7:=by omega
   rcases this with h8 | h8 | h8 | h8 | h8 | h8 | h8 | h8
   all_goals rw [h8] at hr0
   · refine' X5
     · have he:jI t (i + 1) = jI t i ++ [97]:=by rw [jP,h8];rfl
       refine' X4
       · rw [he];simp
       · rw [he];simp [FT]
     · refine' X6
     · refine' Ip
     · refine' Ip
     · refine' Sm
     · refine' X7
     · refine' X8
     · refine' X9
   · refine' X5
     · have he:jI t (i + 1) = jI t i ++ [98]:=by rw [jP,h8];rfl
       refine' X4
       · rw [he];simp
       · rw [he];simp [FT]
     · refine' X6
     · refine' Ip
     · refine' Ip
     · refine' Sm
     · refine' X7
     · refine' X8
     · refine' X9
   · refine' X5
     · have he:jI t (i + 1) = jI t i ++ [99]:=by rw [jP,h8];rfl
       refine' X4
       · rw [he];simp
       · rw [he];simp [FT]
     · refine' X6
     · refine' Ip
     · refine' Ip
     · refine' Sm
     · refine' X7
     · refine' X8
     · refine' X9
   · refine' X5
     · have he:jI t (i + 1) = jI t i ++ [120]:=by rw [jP,h8];rfl
       refine' X4
       · rw [he];simp
       · rw [he];simp [FT]
     · refine' X6
     · refine' Ip
     · refine' Ip
     · refine' Sm
     · refine' X7
     · refine' X8
     · refine' X9
   · refine' X5
     · have he:jI t (i + 1) = jI t i ++ [121]:=by rw [jP,h8];rfl
       refine' X4
       · rw [he];simp
       · rw [he];simp [FT]
     · refine' X6
     · refine' Ip
     · refine' Ip
     · refine' Sm
     · refine' X7
     · refine' X8
     · refine' X9
   · refine' X5
     · have he:jI t (i + 1) = jI t i ++ [233]:=by rw [jP,h8];rfl
       refine' X4
       · rw [he];simp
       · rw [he];simp [FT]
     · refine' X6
     · refine' Ip
     · refine' Ip
     · refine' Sm
     · refine' X7
     · refine' X8
     · refine' X9
   · refine' X5
     · have he:jI t (i + 1) = jI t i ++ [8364]:=by rw [jP,h8];rfl
       refine' X4
       · rw [he];simp
       · rw [he];simp [FT]
     · refine' X6
     · refine' Ip
     · refine' Ip
     · refine' Sm
     · refine' X7
     · refine' X8
     · refine' X9
   · refine' X5
     · have he:jI t (i + 1) = jI t i ++ [128512]:=by rw [jP,h8];rfl
       refine' X4
       · rw [he];simp
       · rw [he];simp [FT]
     · refine' X6
     · refine' Ip
     · refine' Ip
     · refine' Sm
     · refine' X7
     · refine' X8
     · refine' X9
 all_goals (refine Ev.Side.of ?_;exact Nat.le_refl _)
end Go.Proofs.YtadlnaljicikfaaDoor.aI
namespace Go.Proofs.YtadlnaljicikfaaDoor.aI
open Go Go.Lib
def zM (l:List Int):List UInt8:=(l.flatMap encI).map fun n=>UInt8.ofNat n.toNat
def KU (l:List Int):Prop:=∀ n ∈ l,n = 97 ∨ n = 98 ∨ n = 99 ∨ n = 120 ∨ n = 121 ∨ n = 233 ∨ n = 8364 ∨ n = 128512
theorem Ya{G:Prop}(h:G:=by rw [decodeL_N];simp [decodeN]):G:=h
theorem afl{G:Prop}(h:G:=by (refine ⟨1,?_,by simp [encI,jc],by decide⟩);all_goals(rcases(⟨_⟩:PLift _)with⟨h⟩;exact h)):G:=h
theorem WX {n:Int} (h:n = 97 ∨ n = 98 ∨ n = 99 ∨ n = 120 ∨ n = 121 ∨ n = 233 ∨ n = 8364 ∨ n = 128512) (rest:List UInt8) :
   ∃ w,decodeL ((encI n).map (fun n=>UInt8.ofNat n.toNat) ++ rest) = (n.toNat,w) /\ w = (encI n).length /\ n.toNat ≠ 65533:=by
 rcases h with rfl | rfl | rfl | rfl | rfl | rfl | rfl | rfl
 · refine' afl
   show decodeL ((97:UInt8) :: rest) = (97,1)
   refine' Ya
 · refine' afl
   show decodeL ((98:UInt8) :: rest) = (98,1)
   refine' Ya
 · refine' afl
   show decodeL ((99:UInt8) :: rest) = (99,1)
   refine' Ya
 · refine' afl
   show decodeL ((120:UInt8) :: rest) = (120,1)
   refine' Ya
 · refine' afl
   show decodeL ((121:UInt8) :: rest) = (121,1)
   refine' Ya
 · refine ⟨2,?_,by simp [encI,jc],by decide⟩
   show decodeL ((195:UInt8) :: (169:UInt8) :: rest) = (233,2)
   refine' Ya
 · refine ⟨3,?_,by simp [encI,jc],by decide⟩
   show decodeL ((226:UInt8) :: (130:UInt8) :: (172:UInt8) :: rest) = (8364,3)
   refine' Ya
 · refine ⟨4,?_,by simp [encI,jc],by decide⟩
   show decodeL ((240:UInt8) :: (159:UInt8) :: (152:UInt8) :: (128:UInt8) :: rest) = (128512,4)
   refine' Ya
theorem DI (n:Int) (l:List Int):zM (n :: l) = (encI n).map (fun n=>UInt8.ofNat n.toNat) ++ zM l:=by simp [zM]
theorem aaY {n:Int} (h:n = 97 ∨ n = 98 ∨ n = 99 ∨ n = 120 ∨ n = 121 ∨ n = 233 ∨ n = 8364 ∨ n = 128512) (rest:List UInt8):(encI n).map (fun n=>UInt8.ofNat n.toNat) ++ rest ≠ []:=by
 rcases h with rfl | rfl | rfl | rfl | rfl | rfl | rfl | rfl <;> simp [encI,jc]
theorem DJ:∀ {l:List Int},KU l -> ∀ rest,validD (zM l ++ rest) = validD rest
 | [],_,rest=>rfl
 | n :: l,h,rest=>by
   have hn:=h n (by simp)
   have ih:=DJ (l:=l) (fun m hm=>h m (by simp [hm])) rest
   rw [DI,List.append_assoc]
   obtain ⟨w,hd,hw,hne⟩:=WX hn (zM l ++ rest)
   rw [validD_step (aaY hn _),hd,if_neg (by simp [hne]),hw]
   rw [show (encI n).length = ((encI n).map (fun n=>UInt8.ofNat n.toNat)).length by simp,List.drop_left]
   exact ih
theorem OM {l:List Int} (h:KU l):validD (zM l) = true:=by
 have:=DJ h []
 rw [List.append_nil] at this;rw [this];rfl
theorem yE (l:List Int):(WU (l.flatMap encI)).data.toList = zM l:=by simp [WU,zM]
theorem yF (t:ByteArray) (k:Nat):KU (jI t k):=fun n hn=>GV hn
theorem KW {l:List Int} (h:KU l):l.length <= (zM l).length /\ (zM l).length <= 4 * l.length:=by
 induction l with
 | nil=>simp [zM]
 | cons n l ih =>
   obtain ⟨i1,i2⟩:=ih (fun m hm=>h m (by simp [hm]))
   have hn:=h n (by simp)
   rw [DI,List.length_append,List.length_map,List.length_cons]
   have:1 <= (encI n).length /\ (encI n).length <= 4:=by
     rcases hn with rfl | rfl | rfl | rfl | rfl | rfl | rfl | rfl <;> simp [encI,jc]
   omega
theorem SB (t:ByteArray) (ht:t.size <= 1000):(BD t).size <= 4000:=by
 have h:=(KW (yF t t.size)).2
 rw [wW,<- yE,bD] at h
 unfold BD;omega
theorem SC (t:ByteArray):(BD t).data.toList = zM (jI t t.size):=yE _
theorem OO (t:ByteArray):validD (BD t).data.toList = true:=by rw [SC];exact OM (yF _ _)
theorem SE (a b:ByteArray):(a ++ b).data.toList = a.data.toList ++ b.data.toList:=by simp
end Go.Proofs.YtadlnaljicikfaaDoor.aI
namespace Go.Proofs.YtadlnaljicikfaaDoor.aI
open Go
set_option maxRecDepth 100000
attribute [local irreducible] Ev.iH Ev.iR Ev.bY Ev.runK Ev.cu Ev.gK Ev.Side Ev.Wp Ev.Again Ev.To Ev.Fin
open Go.Lib Go.RowKit
structure Sp where
 k:Int
 n:Int
 t:ByteArray
def qR (s:Sp):List AV:=[.v (.int .i64 s.k),.v (.int .i64 s.n),.v (.string s.t)]
def aT (l:List Sp):List (List AV):=l.map qR
@[simp] theorem aV (l:List Sp):(aT l).length = l.length:=by simp [aT]
def sumW (f:Sp -> Int) (l:List Sp):Int:=l.foldl (fun a s=>IntKind.i64.wrap (a + f s)) 0
theorem yG (f:Sp -> Int) (l:List Sp) {i:Nat} (h:i < l.length):sumW f (l.take (i + 1)) = IntKind.i64.wrap (sumW f (l.take i) + f l[i]):=by
 unfold sumW;rw [List.take_succ_eq_append_getElem h,List.foldl_append];rfl
def Small (l:List Sp):Prop:=∀ s ∈ l,s.t.size <= 1000000000
theorem JJ {l:List Sp} {i:Nat} (h:(↑i:Int).toNat < l.length) (h':i < l.length):l[(↑i:Int).toNat]'h = l[i]:=by simp only [Int.toNat_natCast]
theorem WY:∀ c,Tryd.f101.body = some c -> comp c = (.seq (.reg 0 [I.n 0 2 (I.si 0)]) (.seq (.reg 1 [I.n 0 3 (I.si 0)]) (.seq (.seq (.reg 2 [I.n 0 4 (I.si 0)]) (.block 0 (.loop (.seq (.seq (.reg 3 [I.n 0 5 (I.mv 4),I.n 1 6 (I.mv 0),I.n 2 7 (I.ln 6 23),I.n 3 8 (I.bo .lss 3 5 7 3)]) (.cond (.tmp 8) .skip (.exit 0))) (.seq (.block 1 (.reg 5 [I.n 0 11 (I.mv 3),I.n 1 12 (I.mv 0),I.n 2 13 (I.mv 4),I.n 3 14 (I.ia 23 12 13),I.n 4 15 (I.ld 35 14),I.n 5 16 (I.c1 143 15 35),I.n 6 17 (I.bo .add 3 11 16 3),I.n 7 3 (I.sa 17)])) (.reg 4 [I.n 0 9 (I.mv 4),I.n 1 10 (I.bc .add 3 9 1 3),I.n 2 4 (I.sa 10)])))))) (.seq (.reg 6 [I.n 0 18 (I.mv 3),I.n 1 2 (I.sa 18)]) .ret)))):=by
 intro c h
 have:c = Tryd.f101.body.get rfl:=by rw [<- Option.some_inj,<- h];rfl
 rw [this];rfl
theorem WZ:∀ c,Tryd.f102.body = some c -> comp c = (.seq (.reg 0 [I.n 0 2 (I.si 0)]) (.seq (.reg 1 [I.n 0 3 (I.si 0)]) (.seq (.seq (.reg 2 [I.n 0 4 (I.si 0)]) (.block 0 (.loop (.seq (.seq (.reg 3 [I.n 0 5 (I.mv 4),I.n 1 6 (I.mv 0),I.n 2 7 (I.ln 6 23),I.n 3 8 (I.bo .lss 3 5 7 3)]) (.cond (.tmp 8) .skip (.exit 0))) (.seq (.block 1 (.reg 5 [I.n 0 11 (I.mv 3),I.n 1 12 (I.mv 0),I.n 2 13 (I.mv 4),I.n 3 14 (I.ia 23 12 13),I.n 4 15 (I.ld 35 14),I.n 5 16 (I.c1 144 15 35),I.n 6 17 (I.bo .add 3 11 16 3),I.n 7 3 (I.sa 17)])) (.reg 4 [I.n 0 9 (I.mv 4),I.n 1 10 (I.bc .add 3 9 1 3),I.n 2 4 (I.sa 10)])))))) (.seq (.reg 6 [I.n 0 18 (I.mv 3),I.n 1 2 (I.sa 18)]) .ret)))):=by
 intro c h
 have:c = Tryd.f102.body.get rfl:=by rw [<- Option.some_inj,<- h];rfl
 rw [this];rfl
theorem adg{G:Prop}(h:G:=by exact Ev.to ⟨[(0,_),(2,_),(3,.v (.int .i64 0)),(4,.v (.int .i64 ((0:Nat):Int)))],[],0⟩ ⟨rfl,rfl,rfl,rfl,trivial⟩ trivial (Nat.le_refl _) ⟨l.length,0,rfl,by omega⟩):G:=h
theorem adt{G:Prop}(h:G:=by
 rename_i h
 have ei:i = l.length:=by simp only [aT,List.length_map] at h;omega
 subst ei
 rw [List.take_of_length_le (Nat.le_refl _)]
 exact ⟨rfl,rfl⟩):G:=h
theorem ag3{G:Prop}(h:G:=by refine Ev.Side.of ?_;rename_i h;simp only [aT,List.length_map] at h;omega):G:=h
theorem iO (l:List Sp) (hl:l.length <= 1000000000):aO env 101 [.lst 3 (aT l)] (fun r hs=>r = .v (.int .i64 (sumW (fun s=>kN s.k s.n) l)) /\ hs = []):=by
 refine Ev.fn [0,2,3,4,8] 0 [.tmp 2] Tryd.func101 (WY _ rfl) ?_
 refine' X3
 refine Ev.loop (fun k s=>∃ i:Nat,s = ⟨[(0,.lst 3 (aT l)),(2,.v (.int .i64 0)),(3,.v (.int .i64 (sumW (fun s=>kN s.k s.n) (l.take i)))),(4,.v (.int .i64 i))],[],0⟩ /\ k + i = l.length) ?_ ?_
 · refine' adg
 rintro k s1 ⟨i,rfl,hk⟩
 repeat' (first | refine' Ev.Bv | refine' Ev.zK | ((refine Ev.x9 ?_ (fun hi=>?_);rotate_left);conv=>whnf) | ((refine Ev.aU (BA _ _ _) rfl rfl ?_);conv=>whnf) | refine' Ev.zU | fail)
 · have hi':i < l.length:=by simpa using hi
   rw [JJ hi hi']
   refine Ev.again (k - 1) ⟨[(0,_),(2,_),(3,.v (.int .i64 (sumW (fun s=>kN s.k s.n) (l.take (i + 1))))),(4,.v (.int .i64 ((i + 1:Nat):Int)))],[],0⟩ (by omega) ⟨rfl,rfl,Ev.eu rfl (by rw [yG _ _ hi']),Ev.eu rfl (by rw [Ev.wrap64];omega),trivial⟩ trivial (Nat.le_refl _) ⟨i + 1,rfl,by omega⟩
 · refine' ag3
 · refine Ev.Side.of ?_;rename_i h;omega
 · refine' adt
theorem qJ (l:List Sp) (hl:l.length <= 1000000000) (hs:Small l):aO env 102 [.lst 3 (aT l)] (fun r hs=>r = .v (.int .i64 (sumW (fun s=>kQ s.k s.n s.t) l)) /\ hs = []):=by
 refine Ev.fn [0,2,3,4,8] 0 [.tmp 2] Tryd.func102 (WZ _ rfl) ?_
 refine' X3
 refine Ev.loop (fun k s=>∃ i:Nat,s = ⟨[(0,.lst 3 (aT l)),(2,.v (.int .i64 0)),(3,.v (.int .i64 (sumW (fun s=>kQ s.k s.n s.t) (l.take i)))),(4,.v (.int .i64 i))],[],0⟩ /\ k + i = l.length) ?_ ?_
 · refine' adg
 rintro k s1 ⟨i,rfl,hk⟩
 repeat' (first | refine' Ev.Bv | refine' Ev.zK | ((refine Ev.x9 ?_ (fun hi=>?_);rotate_left);conv=>whnf) | ((refine Ev.aU (yD _ _ _ (hs _ (List.getElem_mem hi))) rfl rfl ?_);conv=>whnf) | refine' Ev.zU | fail)
 · have hi':i < l.length:=by simpa using hi
   rw [JJ hi hi']
   refine Ev.again (k - 1) ⟨[(0,_),(2,_),(3,.v (.int .i64 (sumW (fun s=>kQ s.k s.n s.t) (l.take (i + 1))))),(4,.v (.int .i64 ((i + 1:Nat):Int)))],[],0⟩ (by omega) ⟨rfl,rfl,Ev.eu rfl (by rw [yG _ _ hi']),Ev.eu rfl (by rw [Ev.wrap64];omega),trivial⟩ trivial (Nat.le_refl _) ⟨i + 1,rfl,by omega⟩
 · refine' ag3
 · refine Ev.Side.of ?_;rename_i h;omega
 · refine' adt
end Go.Proofs.YtadlnaljicikfaaDoor.aI
namespace Go.Proofs.YtadlnaljicikfaaDoor.aI
open Go Go.Lib Go.RowKit Go.ChangeShapes
noncomputable def oh (w:World):Mem:=fun b o=>match w.cell? ⟨b,o,none⟩ with | some u=>(if u.oneCell' = true then some u else none) | none=>none
theorem SG (w:World):∀ b o u,oh w b o = some u -> w.cell? ⟨b,o,none⟩ = some u /\ u.oneCell' = true:=by
 intro b o u h
 unfold oh at h
 split at h
 · rename_i u' hu'
   split at h
   · rename_i h1;obtain rfl:=Option.some.inj h;exact ⟨hu',h1⟩
   · cases h
 · cases h
theorem GY {w:World} {b o:Nat} {u:Value} (h:w.cell? ⟨b,o,none⟩ = some u) (h1:u.oneCell' = true):oh w b o = some u:=by
 unfold oh;rw [h];simp [h1]
theorem JK {w:World} (hw:KR w):∀ g cs,env.G g = some cs -> cZ (oh w) (.fO cs) (.pointer (some ⟨g,0,none⟩)):=by
 intro g cs hg
 refine .fO (fun j=>match cs[j]? with | some (.v z)=>z | _=>undef) (fun j c hc=>?_) (fun j c hc=>?_)
 · obtain ⟨z,rfl,h1⟩:=ER g cs c hg (List.mem_of_getElem? hc)
   rw [Nat.zero_add]
   simp only [hc]
   exact GY (hw g cs j z hg hc) h1
 · obtain ⟨z,rfl,_⟩:=ER g cs c hg (List.mem_of_getElem? hc)
   simp only [hc];exact .v _
theorem SH {f:FuncId} {args:List AV} {vs:Array Value} {y:Value} (h:aO env f args (fun r hs=>r = .v y /\ hs = [])) {w:World} (hw:KR w) (hn:vs.size = args.length)
   (hr:∀ (i:Nat) (x:AV) (v:Value),args[i]? = some x -> vs[i]? = some v -> cZ (oh w) x v):Calls Tryd.prog f vs w fun e w'=>e = .returned y /\ Below w.heap.size w w':=by
 obtain ⟨_,b⟩:=h (oh w) w vs (SG w) (JK hw) hn hr
 refine' aed
def Opn (P:Program) (W:World) (e:TypeId) {α:Type} (f:α -> List AV) (good:α -> Prop):Prop :=
 ∀ (H:Type) (enc:TypeId × Value -> H) (fuel:Nat) (cs:List Value) (x:DataW H × List MemPlace),DataW.trod enc P W 0 (fun _=>true) true fuel e cs = some x ->
   ∃ a:α,good a /\ cs.length = (f a).length /\ ∀ (j:Nat) (c:AV) (u:Value),(f a)[j]? = some c -> cs[j]? = some u -> cZ (oh W) c u /\ u.oneCell' = true
theorem Opn.int {P:Program} {W:World} {e:TypeId} {k:IntKind} (ht:P.underlying e = some (.int k)):Opn P W e (fun n:Int=>[AV.v (.int k n)]) (fun n=>(Lit.int k n).wf = true):=by
 intro H enc fuel cs x h
 obtain ⟨n,rfl,rfl,hw⟩:=DataW.trod_int ht h
 refine ⟨n,hw,rfl,fun j c u hc hu=>?_⟩
 cases j with
 | zero=>simp at hc hu;subst hc;subst hu;exact ⟨.v _,rfl⟩
 | succ j=>simp at hc
theorem Opn.str {P:Program} {W:World} {e:TypeId} (ht:P.underlying e = some .string):Opn P W e (fun t:ByteArray=>[AV.v (.string t)]) (fun t=>t.size <= maxLen):=by
 intro H enc fuel cs x h
 obtain ⟨t,rfl,rfl,hw⟩:=DataW.trod_string ht h
 refine ⟨t,hw,rfl,fun j c u hc hu=>?_⟩
 cases j with
 | zero=>simp at hc hu;subst hc;subst hu;exact ⟨.v _,rfl⟩
 | succ j=>simp at hc
theorem add_add (b o m j:Nat):(Addr.add ⟨b,o,none⟩ m).add j = ⟨b,o + m + j,none⟩:=by
 unfold Addr.add
 split <;> split <;> simp_all
theorem ags{G:Prop}(h:G:=by
 obtain ⟨i,hi,rfl⟩:=List.mem_map.1 hy
 exact (hA i (List.mem_range.1 hi)).1):G:=h
theorem Opn.slice {P:Program} {W:World} {t e:TypeId} {sz:Nat} {α:Type} [Inhabited α] {f:α -> List AV} {good:α -> Prop} (ht:P.underlying t = some (.slice e)) (hsz:P.cellsOf e = sz) (h0:0 < sz) (hf:∀ a,(f a).length = sz) (h:Opn P W e f good) :
   Opn P W t (fun l:List α=>[AV.lst sz (l.map f)]) (fun l=>(∀ a ∈ l,good a) /\ l.length <= maxLen):=by
 intro H enc fuel cs x hx
 rcases DataW.trod_slice ht hx with ⟨rfl,rfl⟩ | ⟨a,len,cap,elems,rest,n,_,rfl,rfl,hb,hl,hm,hlen,hel,_,_⟩
 · refine ⟨[],⟨fun a ha=>by simp at ha,by simp⟩,rfl,fun j c u hc hu=>?_⟩
   cases j with
   | zero=>simp at hc hu;subst hc;subst hu;exact ⟨cZ.EL _ _,rfl⟩
   | succ j=>simp at hc
 · rw [hsz] at hel
   obtain ⟨A,hA⟩:=Go.Deep.choose_lt (α:=α × List Value) (n:=len) (p:=fun i y=>good y.1 /\ W.cells? 0 (a.add (i * sz)) sz = some y.2 /\ y.2.length = sz /\ ∀ (j:Nat) (c:AV) (u:Value),(f y.1)[j]? = some c -> y.2[j]? = some u -> cZ (oh W) c u /\ u.oneCell' = true) (fun i hi=>by
     have h1:=hel i hi
     rw [List.getElem?_eq_getElem (by omega),Option.bind_eq_some_iff] at h1
     obtain ⟨cs',hc,hd⟩:=h1
     obtain ⟨y,g1,g2,g3⟩:=h H enc _ _ _ hd
     exact ⟨(y,cs'),g1,hc,by rw [g2,hf],g3⟩)
   have hget:∀ (i:Nat) (e':List AV),(((List.range len).map fun i=>(A i).1).map f)[i]? = some e' -> i < len /\ e' = f (A i).1:=by
     intro i e' he
     have hi:i < len:=by have:=(List.getElem?_eq_some_iff.1 he).1;simpa using this
     refine ⟨hi,?_⟩
     simp [List.getElem?_range hi] at he;exact he.symm
   refine ⟨(List.range len).map fun i=>(A i).1,⟨fun y hy=>?_,by simp;omega⟩,rfl,fun j c u hc hu=>?_⟩
   · refine' ags
   cases j with
   | succ j=>simp at hc
   | zero =>
     simp only [List.getElem?_cons_zero,Option.some.injEq] at hc hu
     subst hc;subst hu
     refine ⟨.lst (fun i j=>((A i).2)[j]?.getD undef) (by simp) (by simpa using hl) (fun i e' he=>by rw [(hget i e' he).2,hf]) (fun hne=>?_) (fun b o i e' j c hab he hc=>?_) (fun i e' j c he hc=>?_),rfl⟩
     · have hp:0 < len:=by
         rcases Nat.eq_zero_or_pos len with h | h
         · subst h;simp at hne
         · exact h
       obtain ⟨_,hc,_,_⟩:=hA 0 hp
       obtain ⟨_,_,h3⟩:=World.cells?_some hc
       have h4:=h3 0 h0
       obtain ⟨b,o,spot⟩:=a
       have hl2:=(hA 0 hp).2.2.1
       rw [List.getElem?_eq_getElem (by omega)] at h4
       have hspot:spot = none:=by simpa [Addr.add] using World.cell?_spot h4
       subst hspot;exact ⟨b,o,rfl⟩
     · obtain ⟨hi,rfl⟩:=hget i e' he
       obtain rfl:=Option.some.inj hab
       obtain ⟨_,hcc,hcl,hcr⟩:=hA i hi
       obtain ⟨_,_,h3⟩:=World.cells?_some hcc
       have hj:j < sz:=by have:=(List.getElem?_eq_some_iff.1 hc).1;rw [hf] at this;exact this
       have h4:=h3 j hj
       rw [add_add,List.getElem?_eq_getElem (by omega)] at h4
       have h5:=hcr j c _ hc (List.getElem?_eq_getElem (by omega))
       rw [List.getElem?_eq_getElem (by omega)]
       exact GY h4 h5.2
     · obtain ⟨hi,rfl⟩:=hget i e' he
       obtain ⟨_,hcc,hcl,hcr⟩:=hA i hi
       have hj:j < sz:=by have:=(List.getElem?_eq_some_iff.1 hc).1;rw [hf] at this;exact this
       rw [List.getElem?_eq_getElem (by omega)]
       exact (hcr j c _ hc (List.getElem?_eq_getElem (by omega))).1
theorem Opn.field {P:Program} {W:World} {e:TypeId} {α:Type} {f:α -> AV} {good:α -> Prop} (h:Opn P W e (fun a=>[f a]) good) {H:Type} {enc:TypeId × Value -> H} {fuel o:Nat} {cs:List Value} {x:DataW H × List MemPlace}
   (hx:DataW.trod enc P W 0 (fun _=>true) true fuel e ((cs.drop o).take 1) = some x) (ho:o < cs.length):∃ a,good a /\ cZ (oh W) (f a) cs[o] /\ cs[o].oneCell' = true:=by
 obtain ⟨a,h1,h2,h3⟩:=h H enc fuel _ x hx
 refine ⟨a,h1,h3 0 (f a) cs[o] rfl ?_⟩
 rw [List.getElem?_take_of_lt (by decide),List.getElem?_drop,Nat.add_zero,List.getElem?_eq_getElem ho]
theorem Opn.st3 {P:Program} {W:World} {t:TypeId} {f0 f1 f2:Field} {α β γ:Type} {f:α -> AV} {g:β -> AV} {k:γ -> AV} {p:α -> Prop} {q:β -> Prop} {r:γ -> Prop} (ht:P.underlying t = some (.struct #[f0,f1,f2])) (hc:P.cellsOf t = 3) (ho:f0.offset = 0 /\ f1.offset = 1 /\ f2.offset = 2)
   (hz:P.cellsOf f0.type = 1 /\ P.cellsOf f1.type = 1 /\ P.cellsOf f2.type = 1) (h0:Opn P W f0.type (fun a=>[f a]) p) (h1:Opn P W f1.type (fun a=>[g a]) q) (h2:Opn P W f2.type (fun a=>[k a]) r):Opn P W t (fun x:α × β × γ=>[f x.1,g x.2.1,k x.2.2]) (fun x=>p x.1 /\ q x.2.1 /\ r x.2.2):=by
 intro H enc fuel cs x hx
 obtain ⟨xs,n,rfl,rfl,hl,hxl,hall⟩:=DataW.trod_struct ht hx
 have hxl:xs.length = 3:=hxl
 rw [hc] at hl
 have a0:=hall 0 f0 rfl
 have a1:=hall 1 f1 rfl
 have a2:=hall 2 f2 rfl
 rw [ho.1,hz.1,List.getElem?_eq_getElem (by omega)] at a0
 rw [ho.2.1,hz.2.1,List.getElem?_eq_getElem (by omega)] at a1
 rw [ho.2.2,hz.2.2,List.getElem?_eq_getElem (by omega)] at a2
 obtain ⟨b0,g0,r0⟩:=h0.field a0 (by omega)
 obtain ⟨b1,g1,r1⟩:=h1.field a1 (by omega)
 obtain ⟨b2,g2,r2⟩:=h2.field a2 (by omega)
 refine ⟨(b0,b1,b2),⟨g0,g1,g2⟩,hl,fun j c u hc hu=>?_⟩
 rcases j with _ | _ | _ | j
 · simp at hc;subst hc;rw [List.getElem?_eq_getElem (by omega)] at hu;obtain rfl:=Option.some.inj hu;exact r0
 · simp at hc;subst hc;rw [List.getElem?_eq_getElem (by omega)] at hu;obtain rfl:=Option.some.inj hu;exact r1
 · simp at hc;subst hc;rw [List.getElem?_eq_getElem (by omega)] at hu;obtain rfl:=Option.some.inj hu;exact r2
 · simp at hc
theorem Opn.arr {P:Program} {W:World} {t e:TypeId} {n:Nat} {α:Type} [Inhabited α] {f:α -> AV} {good:α -> Prop} (ht:P.underlying t = some (.array n e)) (hc:P.cellsOf t = n) (hz:P.cellsOf e = 1) (h:Opn P W e (fun a=>[f a]) good) :
   Opn P W t (fun l:List α=>l.map f) (fun l=>l.length = n /\ ∀ a ∈ l,good a):=by
 intro H enc fuel cs x hx
 obtain ⟨xs,m,rfl,rfl,hl,hxl,hall⟩:=DataW.trod_array ht hx
 rw [hc] at hl
 obtain ⟨A,hA⟩:=Go.Deep.choose_lt (α:=α) (n:=n) (p:=fun i y=>good y /\ ∀ u,cs[i]? = some u -> cZ (oh W) (f y) u /\ u.oneCell' = true) (fun i hi=>by
   have a0:=hall i hi
   rw [hz,Nat.mul_one,List.getElem?_eq_getElem (by omega)] at a0
   obtain ⟨b0,g0,r0⟩:=h.field a0 (by omega)
   refine ⟨b0,g0,fun u hu=>?_⟩
   rw [List.getElem?_eq_getElem (by omega)] at hu;obtain rfl:=Option.some.inj hu;exact r0)
 refine ⟨(List.range n).map A,⟨by simp,fun y hy=>?_⟩,by simpa using hl,fun j c u hc hu=>?_⟩
 · refine' ags
 · have hj:j < n:=by have:=(List.getElem?_eq_some_iff.1 hu).1;omega
   simp [List.getElem?_range hj] at hc
   subst hc
   exact (hA j hj).2 u hu
theorem Opn.one {P:Program} {W:World} {t:TypeId} {α:Type} {f:α -> AV} {good:α -> Prop} (h:Opn P W t (fun a=>[f a]) good) {H:Type} {enc:TypeId × Value -> H} {v:Value} {d:DataW H} {p:List MemPlace} (hd:DataW.Trod enc P W 0 (fun _=>true) true t v d p)
   (hv:∀ cs,v ≠ .agg cs):∃ a,good a /\ cZ (oh W) (f a) v:=by
 obtain ⟨fuel,hf⟩:=hd
 obtain ⟨a,h1,h2,h3⟩:=h H enc fuel _ _ hf
 refine ⟨a,h1,(h3 0 (f a) v rfl ?_).1⟩
 cases v <;> first | rfl | exact absurd rfl (hv _)
theorem Opn.agg {P:Program} {W:World} {t:TypeId} {α:Type} {f:α -> List AV} {good:α -> Prop} (h:Opn P W t f good) {H:Type} {enc:TypeId × Value -> H} {v:Value} {d:DataW H} {p:List MemPlace} (hd:DataW.Trod enc P W 0 (fun _=>true) true t v d p)
   (hv:∃ cs,v = .agg cs):∃ a,good a /\ cZ (oh W) (.agg (f a)) v:=by
 obtain ⟨cs,rfl⟩:=hv
 obtain ⟨fuel,hf⟩:=hd
 obtain ⟨a,h1,h2,h3⟩:=h H enc fuel _ _ hf
 have e:cs.size = (f a).length:=by simpa [Value.cells] using h2
 refine ⟨a,h1,.agg e (fun i v hv=>?_) (fun i c v hc hv=>?_)⟩
 · have hi:i < (f a).length:=by have:=(Array.getElem?_eq_some_iff.1 hv).1;omega
   exact (h3 i (f a)[i] v (List.getElem?_eq_getElem hi) (by rw [Array.getElem?_toList];exact hv)).2
 · exact (h3 i c v hc (by rw [Array.getElem?_toList];exact hv)).1
theorem GZ {P:Program} {W:World} {t e:TypeId} {base:Nat} {v:Value} (ht:P.underlying t = some (.slice e)) (h:Value.okWide P W .any base t v):∀ cs,v ≠ .agg cs:=by
 rintro cs rfl
 unfold Value.okWide at h
 rw [ht] at h
 simp only [Cell.okWide,Cell.ok,ht] at h
theorem JL {P:Program} {W:World} {t:TypeId} {fs:Array Field} {base:Nat} {v:Value} (ht:P.underlying t = some (.struct fs)) (h:Value.okWide P W .any base t v):∃ cs,v = .agg cs:=by
 unfold Value.okWide at h
 rw [ht] at h
 obtain ⟨cs,h,_⟩:=h;exact ⟨cs,h⟩
theorem Opn.conv {P:Program} {W:World} {e:TypeId} {α β:Type} {f:α -> List AV} {good:α -> Prop} (h:Opn P W e f good) (g:α -> β) (f':β -> List AV) (good':β -> Prop) (hf:∀ a,good a -> f a = f' (g a) /\ good' (g a)):Opn P W e f' good':=by
 intro H enc fuel cs x hx
 obtain ⟨a,h1,h2,h3⟩:=h H enc fuel cs x hx
 obtain ⟨e1,e2⟩:=hf a h1
 exact ⟨g a,e2,by rw [<- e1];exact h2,by rw [<- e1];exact h3⟩
def afO (s:Sp):Prop:=(-9223372036854775808 <= s.k /\ s.k <= 9223372036854775807) /\ (-9223372036854775808 <= s.n /\ s.n <= 9223372036854775807) /\ s.t.size <= maxLen
instance:Inhabited Sp:=⟨⟨0,0,⟨#[]⟩⟩⟩
theorem Opn.span {P:Program} {W:World} {e:TypeId} (h:Opn P W e (fun x:Int × Int × ByteArray=>[AV.v (.int .i64 x.1),AV.v (.int .i64 x.2.1),AV.v (.string x.2.2)]) (fun x=>(Lit.int .i64 x.1).wf = true /\ (Lit.int .i64 x.2.1).wf = true /\ x.2.2.size <= maxLen)) :
 Opn P W e qR afO:=h.conv (fun x=>⟨x.1,x.2.1,x.2.2⟩) qR afO (fun a g=>⟨rfl,bounds_i64 g.1,bounds_i64 g.2.1,g.2.2⟩)
end Go.Proofs.YtadlnaljicikfaaDoor.aI
namespace Go.Proofs.YtadlnaljicikfaaDoor
open Go Go.ChangeShapes Go.WideShapes Go.ChangeAt Go.RowKit
open Go.ChangeMaps (open_string shut_string)
theorem own:ownKnob Tryd.prog.godebug = none:=by kernel_rfl
noncomputable def laidWorld (os:Os):World :=
 let w0:=World.holding Tryd.prog os ⟨#[],#[],[]⟩
 let put (h:Array Obj) (g:Nat) (cs:Array Value):Array Obj:=h.modify g fun
   | .cells _ t frozen=>.cells cs t frozen
   | o=>o
 let h1:=put w0.heap 2 #[.bool false,.bool false,.bool true,.bool true,.bool false,.bool false,.bool true,.bool false]
 let h2:=put h1 0 (Lib.firstTab.map fun z=>Value.int .u8 z).toArray
 let h3:=put h2 1 ((List.range 16).flatMap fun i=>[Value.int .u8 (Lib.accLo i),Value.int .u8 (Lib.accHi i)]).toArray
 { w0 with heap:=h3 }
theorem DK:Rows.historyKeepsRow.laid = [("unicode/utf8.acceptRanges",Lib.acceptData),("epitome/span.kinds",aI.yB),("unicode/utf8.first",Lib.firstData)]:=by kernel_rfl
theorem laid_met (os:Os) (args:Array Value):laidMet Tryd.prog Rows.historyKeepsRow.laid ((laidWorld os).forCall (fun _ _=>0) ⟨#[],args,[]⟩).memory:=by
 rw [DK]
 exact (LaidIn.of_run (l:=[("unicode/utf8.acceptRanges",Lib.acceptData),("epitome/span.kinds",aI.yB),("unicode/utf8.first",Lib.firstData)]) [0,1,2] 8 (by kernel_rfl) (by kernel_rfl) (by kernel_rfl) (by kernel_rfl)).met
theorem ahX {P:Program} {l:List (String × DataW Unit)} {w:World} (h:(l.filter fun x=>x.2.handleName?.isSome) = []) (hm:laidMet P l w):laidMetH P l w:=by
 unfold laidMetH;rw [h];exact hm
theorem afP {P:Program} {l:List (String × DataW Unit)} {w:World} (h:(l.filter fun x=>x.2.handleName?.isSome) = []) (hm:laidMetH P l w):laidMet P l w:=by
 unfold laidMetH at hm;rw [h] at hm;exact hm
theorem OQ (os:Os) (args:Array Value):laidMetH Tryd.prog Rows.historyKeepsRow.laid ((laidWorld os).forCall (fun _ _=>0) ⟨#[],args,[]⟩).memory:=ahX (by kernel_rfl) (laid_met os args)
theorem CQ {w:World} (h:laidMetH Tryd.prog Rows.historyKeepsRow.laid w):aI.KR w:=by
 have h0:laidMet Tryd.prog Rows.historyKeepsRow.laid w:=afP (by kernel_rfl) h
 rw [DK] at h0
 have h':=h0
 exact aI.Sz (Lib.laidMet.reads h' (.tail _ (.head _))) (Lib.laidMet.reads h' (.tail _ (.tail _ (.head _)))) (Lib.laidMet.reads h' (.head _))
end Go.Proofs.YtadlnaljicikfaaDoor
