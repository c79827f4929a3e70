/- A part of the proof: a calculus over values, and contracts of functions. No condition. -/
import Derived.Test.YtadlnaljicikfaaDoorZC4
import Derived.Lib.ValidU
import Derived.Lib.MapLaws
import Derived.Shelf.Unicode.ValidAny
import Derived.WalkKit
import Derived.Laws.RangeString
import Derived.Laws.Strings
import Derived.Laws.RangeAny
import Derived.Test.YtadlnaljicikfaaDoorRows
import Derived.Lib.LaidIn
import Derived.Lib.LaidU8T
import Derived.Lib.SmallJoins
import Derived.LaidHandle
import Derived.ProofKit
import Derived.ChangeArms
import Derived.Deep.Slices
import Derived.OpenShut
import Derived.Carry
import Derived.Test.YtadlnaljicikfaaDoorTie
import Derived.Test.YtadlnaljicikfaaDoorCards
import Derived.Handed
import Derived.SevenTiedAt
import Derived.JoinedOf
import Derived.Lib.TrimUEq
import Derived.Lib.QuoteLoop
set_option linter.unusedVariables false
set_option linter.unusedSimpArgs false
namespace Go.Proofs.YtadlnaljicikfaaDoor.aB
open Go
namespace I
abbrev mv (t:Nat):Op:=.move (.tmp t)
abbrev sa (t:Nat):Op:=.assign (.tmp t)
abbrev si (n:Int):Op:=.assign (.const (Value.int .i64 n))
abbrev sb (b:Bool):Op:=.assign (.const (Value.bool b))
abbrev sn:Op:=.assign (.const (Value.slice none 0 0))
abbrev ld (t x:Nat):Op:=.load t (.tmp x)
abbrev st (t p x:Nat):Op:=.store t (.tmp p) (.tmp x)
abbrev fa (t x f:Nat):Op:=.fieldAddr t (.tmp x) f
abbrev ia (t x i:Nat):Op:=.indexAddr t (.tmp x) (.tmp i)
abbrev ic (t x:Nat) (n:Int):Op:=.indexAddr t (.tmp x) (.const (Value.int .i64 n))
abbrev bo (o:BinOp) (t x y u:Nat):Op:=.binOp o t (.tmp x) (.tmp y) u
abbrev bc (o:BinOp) (t x:Nat) (n:Int) (u:Nat):Op:=.binOp o t (.tmp x) (.const (Value.int .i64 n)) u
abbrev ex (x i:Nat):Op:=.extract (.tmp x) i
abbrev pb (c:Nat) (b:Bool) (y:Nat):Op:=.pick (.tmp c) (.const (Value.bool b)) (.tmp y)
abbrev pc (c x:Nat) (b:Bool):Op:=.pick (.tmp c) (.tmp x) (.const (Value.bool b))
abbrev nc (x:Nat):Op:=.nilCheck (.tmp x)
abbrev cv (s d x:Nat):Op:=.convert s d (.tmp x)
abbrev ln (x t:Nat):Op:=.call { callee:=.builtin .len,args:=#[.tmp x],argTypes:=#[t] }
abbrev ap (x y t u:Nat):Op:=.call { callee:=.builtin .append,args:=#[.tmp x,.tmp y],argTypes:=#[t,u] }
abbrev c0 (f:Nat):Op:=.call { callee:=.value (.func f),args:=#[],argTypes:=#[] }
abbrev c1 (f x t:Nat):Op:=.call { callee:=.value (.func f),args:=#[.tmp x],argTypes:=#[t] }
abbrev c2 (f x y t u:Nat):Op:=.call { callee:=.value (.func f),args:=#[.tmp x,.tmp y],argTypes:=#[t,u] }
abbrev b1 (t x:Nat):Op:=.buildSlice t 1 #[(0,.tmp x)]
abbrev n (i d:Nat) (o:Op):Ins:=⟨i,some d,o,none⟩
abbrev u (i:Nat) (o:Op):Ins:=⟨i,none,o,none⟩
abbrev w (i d:Nat) (o:Op) (g:Nat) (b:Bool):Ins:=⟨i,some d,o,some (g,b)⟩
end I
namespace Ev
theorem bt {b:Bool} (h:b = true:=by first | rfl | (simp only [Ev.akj,Bool.and_true,Bool.true_and,Bool.not_false];done) | ((repeat' (first | exact Ev.akj _ | rfl | refine Bool.and_eq_true_iff.2 ⟨?_,?_⟩));done) | fail):b = true:=h
theorem amT {A B:Prop} (h:A):gq true A B:=h
theorem amU {A B:Prop} (h:B):gq false A B:=h
theorem abQ {E:Env} {T:Tab} {hs:List FuncId} {nm:Nat} {op:Op} {sl:List (Nat × AV)} {hp:List (Nat × aG)} {ct:Nat} {K:AV -> List (Nat × aG) -> Nat -> Prop} (h:bK E T hs nm op sl hp ct K):bK E T hs nm op sl hp ct K:=h
theorem aiX {d:Option Tmp} {x:AV} {sl:List (Nat × AV)} {Q:List (Nat × AV) -> Prop} (h:uM d x sl Q):uM d x sl Q:=h
theorem aiY {o:Option AV} {K:AV -> Prop} (h:DI o K):DI o K:=h
theorem sw {G G':Prop} (k:G') (h:G' -> G:=by first | (with_reducible first | exact Ev.abQ | exact Ev.aiX | exact Ev.aiY | exact Ev.agG | exact Ev.ZC | exact Ev.ZE | exact Ev.ZF | exact Ev.Qs) | (refine fun k=>?_;with_reducible refine Ev.jS k ?_;exact Ev.bt) | fail):G:=h k
theorem sn {G G':Prop} (k:G') (h:G' -> G:=by with_reducible first | exact Ev.akm | exact Ev.agK | exact Ev.Zr | exact Ev.agM | exact Ev.akg | exact Ev.agI | exact Ev.agN | exact Ev.agL | exact Ev.akl | exact Ev.akn | exact Ev.ako | exact Ev.agH | exact Ev.amT | exact Ev.amU | exact Ev.agO | exact Ev.Zu | exact Ev.ahp | exact Ev.Zv | exact Ev.agQ | exact Ev.agR | exact Ev.agS | exact Ev.agT | exact Ev.agU | exact Ev.aks | exact Ev.agV | exact Ev.agW | exact Ev.akt | exact Ev.agX | exact Ev.agJ rfl | exact Ev.akp rfl | fail):G:=h k
inductive RI:Prop -> Prop
 | Lu {p:Prop} [Decidable p] {A B:Prop} (h:p -> A) (k:¬ p -> B):RI (gq (decide p) A B)
 | Zo {b:Bool} {A B:Prop} (h:b = true -> A) (k:b = false -> B):RI (gq b A B)
 | EJ {p:Prop} [Decidable p] {A B:Prop} (h:p -> A) (k:¬ p -> B):RI (Lr (decide p) A B)
 | br {b:Bool} {A B:Prop} (h:b = true -> A) (k:b = false -> B):RI (Lr b A B)
theorem RI.run:∀ {P:Prop},RI P -> P
 | _,@RI.Lu _ _ _ _ h k=>Ev.Lu h k
 | _,.Zo h k=>Ev.Zo h k
 | _,@RI.EJ _ _ _ _ h k=>Ev.EJ h k
 | _,.br h k=>Ev.br h k
theorem sf {G G':Prop} (k:G') (h:G' -> G:=by with_reducible first | exact Ev.akr | exact Ev.agP | exact Ev.aho | exact Ev.ZH | fail):G:=h k
theorem brp {p:Prop} [Decidable p] {A B:Prop} (k:A) (h:p:=by decide):Lr (decide p) A B:=Ev.aJ h k
theorem brn {p:Prop} [Decidable p] {A B:Prop} (k:B) (h:¬ p:=by decide):Lr (decide p) A B:=Ev.aP h k
theorem cp {p:Prop} [Decidable p] {A B:Prop} (k:A) (h:p:=by decide):gq (decide p) A B:=Ev.aK h k
theorem cn {p:Prop} [Decidable p] {A B:Prop} (k:B) (h:¬ p:=by decide):gq (decide p) A B:=Ev.aV h k
theorem kr {hs:List FuncId} {keep:List Nat} {N nt:Nat} {K:Exit -> St -> Prop} {sl:List (Nat × AV)} {hp:List (Nat × aG)} {ct:Nat} {id:Nat} {l:List Ins}
 (h:∀ Q:St -> Prop,(∀ s,K .normal s -> Q s) -> uX ⟨env.P,env.G,keep,N⟩ tab hs (N + id * 512) l sl hp ct Q):Wp ⟨env.P,env.G,keep,N⟩ nt (.reg id l) K ⟨sl,hp,ct⟩:=Ev.k_reg (yD _ _) h
theorem ca {E:Env} {f:FuncId} {args args':List AV} {hp:List (Nat × aG)} {nm ct:Nat} {K:AV -> List (Nat × aG) -> Nat -> Prop} {X:AV} (hc:aA E f args' fun r hs=>r = X /\ hs = []) (h:K X hp ct)
 (ha:args = args':=by ((repeat' (first | with_reducible rfl | refine Ev.ZB ?_ ?_)) <;> (first | rfl | (refine Ev.aZ (Ev.oJ ?_ rfl);first | omega | (simp;done) | (simp;omega) | fail) | (refine Ev.int_eq ?_;omega) | (simp;done) | fail))) (hX:kV 6 X = true:=by rfl):GZ E f args hp nm ct K:=Ev.aT hc ha hX h
theorem dr {keep:List Nat} {N nt:Nat} {l:List Ins} {deps:List (List Nat)} {K:Exit -> St -> Prop} {sl:List (Nat × AV)} {hp:List (Nat × aG)} {ct:Nat} {pl:List Ins} (id:Nat) (hs:List FuncId) (plan:List Nat)
   (h:∀ Q:St -> Prop,(∀ s,K .normal s -> Q s) -> uX ⟨env.P,env.G,keep,N⟩ tab hs (N + id * 512) pl sl hp ct Q) (hpick:pick l plan = some pl:=by rfl) (hlen:plan.length = deps.length:=by rfl) (oI:BI hs l deps plan [] = true:=by decide):Wp ⟨env.P,env.G,keep,N⟩ nt (.draw id l deps) K ⟨sl,hp,ct⟩ :=
 Ev.ahm (yD _ _) (mixed' _ _) plan oI hlen hpick h
theorem drv {keep:List Nat} {N nt:Nat} {l:List Ins} {deps:List (List Nat)} {K:Exit -> St -> Prop} {sl:List (Nat × AV)} {hp:List (Nat × aG)} {ct:Nat} {pl:List (Ins × Bool)} (id:Nat) (hs:List FuncId) (plan:List (Nat × Bool))
   (h:∀ Q:St -> Prop,(∀ s,K .normal s -> Q s) -> zY ⟨env.P,env.G,keep,N⟩ tab hs (N + id * 512) pl sl hp ct Q) (hpick:Hy l plan = some pl:=by rfl) (hlen:plan.length = deps.length:=by rfl) (oI:Hw hs l deps plan [] = true:=by decide):Wp ⟨env.P,env.G,keep,N⟩ nt (.draw id l deps) K ⟨sl,hp,ct⟩ :=
 Ev.abK (yD _ _) (mixed' _ _) plan oI hlen hpick h
theorem H7 {keep:List Nat} {N nt:Nat} {l:List Ins} {deps:List (List Nat)} {K:Exit -> St -> Prop} {sl:List (Nat × AV)} {hp:List (Nat × aG)} {ct:Nat} {pl:XA} (id:Nat) (hs:List FuncId) (plan:Pl)
   (h:∀ Q:St -> Prop,(∀ s,K .normal s -> Q s) -> runT ⟨env.P,env.G,keep,N⟩ tab hs (N + id * 512) pl sl hp ct Q) (hpick:Aa l plan = some pl:=by rfl) (hlen:plan.depth = deps.length:=by rfl) (oI:zZ hs l deps plan [] = true:=by decide):Wp ⟨env.P,env.G,keep,N⟩ nt (.draw id l deps) K ⟨sl,hp,ct⟩ :=
 Ev.abL (yD _ _) (mixed' _ _) plan oI hlen hpick h
theorem dru {keep:List Nat} {N nt:Nat} {l:List Ins} {deps:List (List Nat)} {K:Exit -> St -> Prop} {sl:List (Nat × AV)} {hp:List (Nat × aG)} {ct:Nat} {pl:UD} (id:Nat) (hs:List FuncId) (Hz:List (List Nat)) (plan:Tr)
   (h:∀ Q:St -> Prop,(∀ s,K .normal s -> Q s) -> jQ ⟨env.P,env.G,keep,N⟩ tab hs (N + id * 512) pl sl hp ct Q) (hpick:vF l plan = some pl:=by rfl) (hlen:plan.depth = deps.length:=by rfl) (htr:ug deps Hz = true:=by decide) (hend:plan.xZ = false:=by rfl) (oI:vC hs l Hz plan [] = true:=by decide):Wp ⟨env.P,env.G,keep,N⟩ nt (.draw id l deps) K ⟨sl,hp,ct⟩ :=
 Ev.abM (yD _ _) (mixed' _ _) Hz plan htr hend oI hlen hpick h
theorem sd {p:Prop} (h:Side p:=by first | (refine Ev.Side.of ?_;exact Nat.le_of_ble_eq_true rfl) | (refine Ev.Side.of ?_;omega) | (refine Ev.Side.of ?_;simp only [Ev.wrap64];omega) | (refine Ev.ZA ?_ rfl ?_ (by decide) <;> (first | omega | (simp;done) | (simp;omega) | fail)) | exact Ev.Wj rfl (by decide) |
 (refine Ev.mW ?_ ?_ ?_ (by decide) <;> (first | omega | exact D8 _ | exact jU _ | exact XE _ | (simp;done) | (simp;omega) | fail)) | (refine Ev.Eb ?_ ?_ (by decide) <;> (first | omega | exact D8 _ | exact jU _ | exact XE _ | (simp;done) | (simp;omega) | fail)) |
 (refine Ev.Side.of ?_;first | (simp;done) | (simp;omega) | fail) | fail):Side p:=h
theorem sg {G G':Prop} (k:G') (h:G' -> G:=by (refine fun k=>?_;with_reducible refine Ev.sided k ?_;exact Ev.sd)):G:=h k
theorem se {α:Type} {l:List (Nat × α)} {t:Nat} {b:α} (h:get l t = some b:=by (refine Ev.aj rfl ?_;first | with_reducible rfl | (refine Ev.int_eq ?_;first | omega | (simp only [Ev.wrap64,Ev.G8,Ev.wrap32,Int.toNat_natCast] at *;omega)) | ((first | refine Ev.Wh ?_ | refine Ev.Wi ?_);first | with_reducible rfl | omega))):get l t = some b:=h
theorem sr {α:Type} {l:List (Nat × α)} {t:Nat} {b:α} (h:get l t = some b:=by rfl):get l t = some b:=h
theorem fn {args:List AV} (keep:List Nat) (N:Nat) {f:FuncId} {fn:Func} {c:Code} {R:AV -> List aG -> Prop} {cc:CC} (rs:List ResultVar) (hf:env.P.funcs[f]? = some fn) (hcc:comp c = cc) (h:Wp ⟨env.P,env.G,keep,N⟩ fn.ntmps cc (SN tab rs R) ⟨params 0 args,[],0⟩)
 (hb:fn.body = some c:=by rfl) (hname:(fn.name == "runtime.NumGoroutine") = false:=by rfl) (hok:bQ fn.ntmps c = true:=by rfl) (hrs:fn.results.toList = rs:=by rfl) (hnt:args.length <= fn.ntmps:=by exact Nat.le_of_ble_eq_true rfl):aA env f args R:=Ev.func E5 keep N hf hb hname hnt hok hcc hrs h
theorem fnO {args:List AV} (keep:List Nat) (N:Nat) {f:FuncId} {fn:Func} {c:Code} {R:AV -> List aG -> Prop} {cc:CC} (rs:List ResultVar) (hf:env.P.funcs[f]? = some fn) (hcc:comp c = cc) (h:Wp ⟨env.P,env.G,keep,N⟩ fn.ntmps cc (Zt tab rs R) ⟨params 0 args,[],0⟩)
 (hb:fn.body = some c:=by rfl) (hname:(fn.name == "runtime.NumGoroutine") = false:=by rfl) (hok:bQ fn.ntmps c = true:=by rfl) (hrs:fn.results.toList = rs:=by rfl) (hnt:args.length <= fn.ntmps:=by exact Nat.le_of_ble_eq_true rfl):aA env f args R:=Ev.akq E5 keep N hf hb hname hnt hok hcc hrs h
theorem fnH {args:List AV} (keep:List Nat) (N:Nat) {f:FuncId} {fn:Func} {c:Code} {hp:List (Nat × aG)} {R:AV -> List (Nat × aG) -> Prop} {cc:CC} (rs:List ResultVar) (hf:env.P.funcs[f]? = some fn) (hcc:comp c = cc) (h:∀ ct,Wp ⟨env.P,env.G,keep,N⟩ fn.ntmps cc (LK tab rs R) ⟨params 0 args,hp,ct⟩)
 (hb:fn.body = some c:=by rfl) (hname:(fn.name == "runtime.NumGoroutine") = false:=by rfl) (hok:bQ fn.ntmps c = true:=by rfl) (hrs:fn.results.toList = rs:=by rfl) (hnt:args.length <= fn.ntmps:=by exact Nat.le_of_ble_eq_true rfl):iM env N f args hp R:=Ev.afH E5 keep N hf hb hname hnt hok hcc hrs h
theorem fnV {args:List AV} (keep:List Nat) (N:Nat) {f:FuncId} {fn:Func} {c:Code} {R:AV -> List aG -> Prop} {cc:CC} (rs:List ResultVar) (hf:env.P.funcs[f]? = some fn) (hcc:comp c = cc) (h:DWp ⟨env.P,env.G,keep,N⟩ fn.ntmps cc (SN tab rs R) (aiU env tab rs R) ⟨params 0 args,[],0⟩)
 (hb:fn.body = some c:=by rfl) (hname:(fn.name == "runtime.NumGoroutine") = false:=by rfl) (hok:bQ fn.ntmps c = true:=by rfl) (hrs:fn.results.toList = rs:=by rfl) (hnt:args.length <= fn.ntmps:=by exact Nat.le_of_ble_eq_true rfl):aA env f args R:=Ev.ald E5 keep N hf hb hname hnt hok hcc hrs h
theorem fnD {args:List AV} (keep:List Nat) (N:Nat) {f:FuncId} {fn:Func} {c:Code} {hp:List (Nat × aG)} {R:List (Nat × aG) -> Prop} {cc:CC} (rs:List ResultVar) (hf:env.P.funcs[f]? = some fn) (hcc:comp c = cc) (h:∀ ct,Wp ⟨env.P,env.G,keep,N⟩ fn.ntmps cc (LK tab rs (fun _ hp'=>R hp')) ⟨params 0 args,hp,ct⟩)
 (hb:fn.body = some c:=by rfl) (hname:(fn.name == "runtime.NumGoroutine") = false:=by rfl) (hok:bQ fn.ntmps c = true:=by rfl) (hrs:fn.results.toList = rs:=by rfl) (hnt:args.length <= fn.ntmps:=by exact Nat.le_of_ble_eq_true rfl):Fb env f args hp R:=Ev.alc E5 keep N hf hb hname hnt hok hcc hrs h
theorem sd0 {p:Prop} (h:Side p):Side p:=h
theorem br0 {p:Prop} [Decidable p] {A B:Prop} (h:Lr (decide p) A B):Lr (decide p) A B:=h
theorem c0 {p:Prop} [Decidable p] {A B:Prop} (h:gq (decide p) A B):gq (decide p) A B:=h
theorem ca0 {E:Env} {nm ct:Nat} {f:FuncId} {args:List AV} {hp:List (Nat × aG)} {K:AV -> List (Nat × aG) -> Nat -> Prop} (h:GZ E f args hp nm ct K):GZ E f args hp nm ct K:=h
theorem lC {E:Env} {nm ct:Nat} {f:FuncId} {args:List AV} {hp:List (Nat × aG)} {K:AV -> List (Nat × aG) -> Nat -> Prop} (h:lG E nm f args hp ct K):lG E nm f args hp ct K:=h
theorem dG {E:Env} {nt id:Nat} {l:List Ins} {deps:List (List Nat)} {K:Exit -> St -> Prop} {s:St} (h:Wp E nt (.draw id l deps) K s):Wp E nt (.draw id l deps) K s:=h
theorem Ac {E:Env} {nm ct:Nat} (f:FuncId) {args:List AV} {hp:List (Nat × aG)} {K:AV -> List (Nat × aG) -> Nat -> Prop} (h:lG E nm f args hp ct K):lG E nm f args hp ct K:=h
theorem il {ale:List Nat} {N0:Nat} {args:List AV} (f:FuncId) (keep:List Nat) {fn:Func} {c:Code} {nm ct:Nat} {hp:List (Nat × aG)} {K:AV -> List (Nat × aG) -> Nat -> Prop} {cc:CC} (rs:List ResultVar) (hf:env.P.funcs[f]? = some fn) (hcc:comp c = cc)
   (h:∀ bF,Wp ⟨env.P,env.G,keep,65536 * (nm + 1)⟩ fn.ntmps cc (LK tab rs (iG ct K)) ⟨params 0 args,hp,bF⟩)
   (hb:fn.body = some c:=by rfl) (hname:(fn.name == "runtime.NumGoroutine") = false:=by rfl) (hok:bQ fn.ntmps c = true:=by rfl) (hrs:fn.results.toList = rs:=by rfl) (hnt:args.length <= fn.ntmps:=by exact Nat.le_of_ble_eq_true rfl):lG ⟨env.P,env.G,ale,N0⟩ nm f args hp ct K :=
 Ev.inl (yD _ _) keep hf hb hname hnt hok hcc hrs h
theorem zS {G:Prop} (h:G:=by (first | ((refine Ev.sw ?_);conv=>whnf) | refine Ev.sn ?_ | ((with_reducible refine Ev.jS ?_ ?_);rotate_left;exact Ev.bt;conv=>whnf) | ((with_reducible (refine Ev.RI.run ?_;constructor)) <;> intro _) | ((refine Ev.sg ?_);conv=>whnf) | ((with_reducible refine Ev.sided ?_ ?_);conv=>whnf) | (with_reducible refine hQ _ ?_;clear hQ Q) | ((refine Ev.sf ?_);intro F hF;conv=>whnf) | (with_reducible refine hF _ ?_;clear hF F) | ((with_reducible refine Ev.ZI (fun c'=>?_));conv=>whnf) | fail);all_goals (rcases (⟨_⟩:PLift _) with ⟨h⟩;exact h)):G:=h
theorem Fg {G:Prop} (h:G:=by (first | ((refine Ev.sw ?_);conv=>whnf) | refine Ev.sn ?_ | ((with_reducible refine Ev.jS ?_ ?_);rotate_left;exact Ev.bt;conv=>whnf) | ((with_reducible (refine Ev.RI.run ?_;constructor)) <;> intro _) | ((with_reducible refine Ev.sided ?_ ?_);conv=>whnf) | (with_reducible refine hQ _ ?_;clear hQ Q) | ((refine Ev.sf ?_);intro F hF;conv=>whnf) | (with_reducible refine hF _ ?_;clear hF F) | ((with_reducible refine Ev.ZI (fun c'=>?_));conv=>whnf) | fail);all_goals (rcases (⟨_⟩:PLift _) with ⟨h⟩;exact h)):G:=h
theorem zK {G:Prop} (h:G:=by (with_reducible refine Ev.kr (hs:=[]) (fun Q hQ=>?_));(simp only [Ev.ak,Ev.au]);(conv=>whnf);all_goals (rcases (⟨_⟩:PLift _) with ⟨h⟩;exact h)):G:=h
theorem zT {G:Prop} (h:G:=by (first | ((first | refine Ev.Jz ?_ (fun hi=>?_) | refine Ev.Jy ?_ (fun hi=>?_));rotate_left;conv=>whnf) | ((with_reducible refine Ev.sd0 ?_);exact Ev.sd) | fail);all_goals (rcases (⟨_⟩:PLift _) with ⟨h⟩;exact h)):G:=h
theorem zP {G:Prop} (h:G:=by (first | ((with_reducible refine Ev.br0 ?_);(first | refine Ev.brp ?_ | refine Ev.brn ?_ | fail);conv=>whnf) | ((with_reducible refine Ev.c0 ?_);first | refine Ev.cp ?_ | refine Ev.cn ?_ | fail) | fail);all_goals (rcases (⟨_⟩:PLift _) with ⟨h⟩;exact h)):G:=h
theorem zW {G:Prop} (h:G:=by (repeat' (first | ((refine Ev.sw ?_);conv=>whnf) | refine Ev.sn ?_ | ((with_reducible refine Ev.jS ?_ ?_);rotate_left;exact Ev.bt;conv=>whnf) | ((with_reducible (refine Ev.RI.run ?_;constructor)) <;> intro _) | ((refine Ev.sg ?_);conv=>whnf) | ((with_reducible refine Ev.sided ?_ ?_);conv=>whnf) | (with_reducible refine hQ _ ?_;clear hQ Q) | ((refine Ev.sf ?_);intro F hF;conv=>whnf) | (with_reducible refine hF _ ?_;clear hF F) | ((with_reducible refine Ev.ZI (fun c'=>?_));conv=>whnf) | ((with_reducible refine Ev.kr (hs:=[]) (fun Q hQ=>?_));(simp only [Ev.ak,Ev.au]);conv=>whnf) | ((first | refine Ev.Jz ?_ (fun hi=>?_) | refine Ev.Jy ?_ (fun hi=>?_));rotate_left;conv=>whnf) | ((with_reducible refine Ev.sd0 ?_);exact Ev.sd) | fail));all_goals (rcases (⟨_⟩:PLift _) with ⟨h⟩;exact h)):G:=h
theorem zV {G:Prop} (h:G:=by (repeat' (first | ((with_reducible refine Ev.br0 ?_);(first | refine Ev.brp ?_ | refine Ev.brn ?_ | fail);conv=>whnf) | ((with_reducible refine Ev.c0 ?_);first | refine Ev.cp ?_ | refine Ev.cn ?_ | fail) | ((refine Ev.sw ?_);conv=>whnf) | refine Ev.sn ?_ | ((with_reducible refine Ev.jS ?_ ?_);rotate_left;exact Ev.bt;conv=>whnf) | ((with_reducible (refine Ev.RI.run ?_;constructor)) <;> intro _) | ((refine Ev.sg ?_);conv=>whnf) | ((with_reducible refine Ev.sided ?_ ?_);conv=>whnf) | (with_reducible refine hQ _ ?_;clear hQ Q) | ((refine Ev.sf ?_);intro F hF;conv=>whnf) | (with_reducible refine hF _ ?_;clear hF F) | ((with_reducible refine Ev.ZI (fun c'=>?_));conv=>whnf) | ((with_reducible refine Ev.kr (hs:=[]) (fun Q hQ=>?_));(simp only [Ev.ak,Ev.au]);conv=>whnf) | ((first | refine Ev.Jz ?_ (fun hi=>?_) | refine Ev.Jy ?_ (fun hi=>?_));rotate_left;conv=>whnf) | ((with_reducible refine Ev.sd0 ?_);exact Ev.sd) | fail));all_goals (rcases (⟨_⟩:PLift _) with ⟨h⟩;exact h)):G:=h
theorem zR {G:Prop} (h:G:=by (simp only [Ev.ak,Ev.au]);(conv=>whnf);all_goals (rcases (⟨_⟩:PLift _) with ⟨h⟩;exact h)):G:=h
theorem zp {G:Prop} (h:G:=by ((repeat' (first | exact trivial | refine And.intro ?_ ?_)) <;> (first | exact Ev.se | refine Ev.aj rfl ?_ | exact Ev.sr | fail));all_goals (rcases (⟨_⟩:PLift _) with ⟨h⟩;exact h)):G:=h
theorem ze {G:Prop} (h:G:=by (first | refine Ev.int_eq ?_ | refine Ev.Wh ?_ | refine Ev.Wi ?_);all_goals (rcases (⟨_⟩:PLift _) with ⟨h⟩;exact h)):G:=h
theorem zU {G:Prop} (h:G:=by (refine Ev.Side.of ?_;exact Nat.le_of_ble_eq_true rfl)):G:=h
theorem zl {G:Prop} (h:G:=by (refine' Ev.zp <;> first | exact wrap_succ (by omega) | exact hw | (rw [aO];rfl) | (simp;done) | rfl | (simp;omega) | (refine' Ev.ze;first | exact wrap_succ (by omega) | (simp;done) | rfl | (simp;omega) | omega | fail) | fail)):G:=h
theorem zA {E:Env} {I:Nat -> St -> Prop} {n:Nat} {s s2:St} (m:Nat) (hI:I m s2) (hb:subs s.sl s2.sl /\ subs s.hp s2.hp:=by exact Ev.zl) (hc:s.ctr <= s2.ctr:=by exact Nat.le_refl _) (hm:m < n:=by omega):Again E I n s:=Ev.again m s2 hm hb.1 hb.2 hc hI
theorem zB {E:Env} {J:St -> Prop} {s s2:St} (hI:J s2) (hb:subs s.sl s2.sl /\ subs s.hp s2.hp:=by exact Ev.zl) (hc:s.ctr <= s2.ctr:=by exact Nat.le_refl _):To E J s:=Ev.to s2 hb.1 hb.2 hc hI
end Ev
end Go.Proofs.YtadlnaljicikfaaDoor.aB
namespace Go.Proofs.YtadlnaljicikfaaDoor.aB
open Go
set_option maxRecDepth 100000
attribute [local irreducible] Ev.iE Ev.iG Ev.bW Ev.runK Ev.bY Ev.gq Ev.Side Ev.Wp Ev.Again Ev.To Ev.Fin
def jo (n:Int):Int:=if n < 0 ∨ 1114111 < n ∨ (55296 <= n /\ n <= 57343) then 0 else if n < 128 then 1 else if n < 2048 then 2 else if n < 65536 then 3 else 4
theorem abR:∀ c,Tryd.f124.body = some c -> comp c = (.seq (.reg 0 [I.n 0 2 (I.si 0)]) (.seq (.seq (.reg 1 [I.n 0 3 (I.mv 0),I.n 1 4 (I.bc .lss 3 3 0 3),I.n 2 5 (I.mv 4),I.w 3 6 (I.mv 0) 5 false,I.w 4 7 (I.bc .gtr 3 6 1114111 3) 5 false,I.n 5 8 (I.pb 5 true 7),I.n 6 9 (I.mv 8),I.w 7 10 (I.mv 0) 9 false,I.w 8 11 (I.bc .geq 3 10 55296 3) 9 false,I.w 9 12 (I.mv 11) 9 false,I.w 10 13 (I.mv 0) 12 true,I.w 11 14 (I.bc .leq 3 13 57343 3) 12 true,I.w 12 15 (I.pc 12 14 false) 9 false,I.n 13 16 (I.pb 9 true 15)]) (.cond (.tmp 16) (.seq (.reg 2 [I.n 0 2 (I.si 0)]) .ret) .skip)) (.seq (.seq (.reg 3 [I.n 0 17 (I.mv 0),I.n 1 18 (I.bc .lss 3 17 128 3)]) (.cond (.tmp 18) (.seq (.reg 4 [I.n 0 2 (I.si 1)]) .ret) .skip)) (.seq (.seq (.reg 5 [I.n 0 19 (I.mv 0),I.n 1 20 (I.bc .lss 3 19 2048 3)]) (.cond (.tmp 20) (.seq (.reg 6 [I.n 0 2 (I.si 2)]) .ret) .skip)) (.seq (.seq (.reg 7 [I.n 0 21 (I.mv 0),I.n 1 22 (I.bc .lss 3 21 65536 3)]) (.cond (.tmp 22) (.seq (.reg 8 [I.n 0 2 (I.si 3)]) .ret) .skip)) (.seq (.reg 9 [I.n 0 2 (I.si 4)]) .ret)))))):=by
 intro c h
 have:c = Tryd.f124.body.get rfl:=by rw [<- Option.some_inj,<- h];rfl
 rw [this];rfl
theorem aau{G:Prop}(h:G:=by (repeat' (first | refine' Ev.Fg | refine' Ev.zK | refine' Ev.zU | fail));all_goals(rcases(⟨_⟩:PLift _)with⟨h⟩;exact h)):G:=h
theorem H8 (n:Int):aA env 124 [.v (.int .i64 n)] (fun r hs=>r = .v (.int .i64 (jo n)) /\ hs = []):=by
 refine Ev.fn [0,2,16,18,20,22] 0 [.tmp 2] Tryd.func124 (abR _ rfl) ?_
 refine' aau
 all_goals (refine ⟨congrArg (fun z=>AV.v (Value.int IntKind.i64 z)) ?_,rfl⟩;unfold jo;omega)
def LQ (b m n:Int):Prop:=(240 <= b /\ b < 248 /\ m = 3 /\ n = b - 240) ∨ (224 <= b /\ b < 240 /\ m = 2 /\ n = b - 224) ∨ (192 <= b /\ b < 224 /\ m = 1 /\ n = b - 192) ∨ (b < 128 /\ m = 0 /\ n = b)
def mJ (s:ByteArray) (n0:Int):Nat -> Option Int
 | 0=>some n0
 | i + 1=>match mJ s n0 i with
   | some n=>if 128 <= Ev.iL s (i + 1) /\ Ev.iL s (i + 1) <= 191 then some (n * 64 + Ev.iL s (i + 1) - 128) else none
   | none=>none
def XF (t:ByteArray) (n k:Int):Prop :=
 (n = 0 /\ k = 0 /\ (t.size = 0 ∨ (128 <= Ev.iL t 0 /\ (Ev.iL t 0 < 192 ∨ 248 <= Ev.iL t 0)) ∨ ∃ m n0,LQ (Ev.iL t 0) m n0 /\ (t.size < m + 1 ∨ (∃ i:Nat,i <= m /\ mJ t n0 i = none) ∨ ∃ n',mJ t n0 m.toNat = some n' /\ jo n' ≠ m + 1))) ∨
 (0 < t.size /\ ∃ m n0,LQ (Ev.iL t 0) m n0 /\ m + 1 <= t.size /\ mJ t n0 m.toNat = some n /\ jo n = m + 1 /\ k = m + 1)
theorem abS:∀ c,Tryd.f158.body = some c -> comp c = (.seq (.reg 0 [I.n 0 2 (I.si 0),I.n 1 3 (I.si 0)]) (.seq (.seq (.reg 1 [I.n 0 9 (I.mv 0),I.n 1 10 (I.ln 9 9),I.n 2 11 (I.bc .eql 3 10 0 3)]) (.cond (.tmp 11) (.seq (.reg 2 [I.n 0 2 (I.si 0),I.n 1 3 (I.si 0)]) .ret) .skip)) (.seq (.reg 3 [I.n 0 12 (I.mv 0),I.n 1 13 (.index 9 (.tmp 12) (.const (Value.int .i64 0))),I.n 2 14 (I.cv 5 3 13),I.n 3 4 (I.sa 14)]) (.seq (.reg 4 [I.n 0 5 (I.si 0)]) (.seq (.reg 5 [I.n 0 15 (I.mv 4),I.n 1 6 (I.sa 15)]) (.seq (.seq (.reg 6 [I.n 0 16 (I.mv 4),I.n 1 17 (I.bc .geq 3 16 240 3),I.n 2 18 (I.mv 17),I.w 3 19 (I.mv 4) 18 true,I.w 4 20 (I.bc .lss 3 19 248 3) 18 true,I.n 5 21 (I.pc 18 20 false)]) (.cond (.tmp 21) (.seq (.reg 7 [I.n 0 5 (I.si 3)]) (.reg 8 [I.n 0 22 (I.mv 4),I.n 1 23 (I.bc .sub 3 22 240 3),I.n 2 6 (I.sa 23)])) (.seq (.reg 9 [I.n 0 24 (I.mv 4),I.n 1 25 (I.bc .geq 3 24 224 3),I.n 2 26 (I.mv 25),I.w 3 27 (I.mv 4) 26 true,I.w 4 28 (I.bc .lss 3 27 240 3) 26 true,I.n 5 29 (I.pc 26 28 false)]) (.cond (.tmp 29) (.seq (.reg 10 [I.n 0 5 (I.si 2)]) (.reg 11 [I.n 0 30 (I.mv 4),I.n 1 31 (I.bc .sub 3 30 224 3),I.n 2 6 (I.sa 31)])) (.seq (.reg 12 [I.n 0 32 (I.mv 4),I.n 1 33 (I.bc .geq 3 32 192 3),I.n 2 34 (I.mv 33),I.w 3 35 (I.mv 4) 34 true,I.w 4 36 (I.bc .lss 3 35 224 3) 34 true,I.n 5 37 (I.pc 34 36 false)]) (.cond (.tmp 37) (.seq (.reg 13 [I.n 0 5 (I.si 1)]) (.reg 14 [I.n 0 38 (I.mv 4),I.n 1 39 (I.bc .sub 3 38 192 3),I.n 2 6 (I.sa 39)])) (.seq (.reg 15 [I.n 0 40 (I.mv 4),I.n 1 41 (I.bc .geq 3 40 128 3)]) (.cond (.tmp 41) (.seq (.reg 16 [I.n 0 2 (I.si 0),I.n 1 3 (I.si 0)]) .ret) .skip)))))))) (.seq (.seq (.reg 17 [I.n 0 42 (I.mv 0),I.n 1 43 (I.ln 42 9),I.n 2 44 (I.mv 5),I.n 3 45 (I.bc .add 3 44 1 3),I.n 4 46 (I.bo .lss 3 43 45 3)]) (.cond (.tmp 46) (.seq (.reg 18 [I.n 0 2 (I.si 0),I.n 1 3 (I.si 0)]) .ret) .skip)) (.seq (.seq (.reg 19 [I.n 0 7 (I.si 1)]) (.block 0 (.loop (.seq (.seq (.reg 20 [I.n 0 47 (I.mv 7),I.n 1 48 (I.mv 5),I.n 2 49 (I.bo .leq 3 47 48 3)]) (.cond (.tmp 49) .skip (.exit 0))) (.seq (.block 1 (.seq (.reg 22 [I.n 0 52 (I.mv 0),I.n 1 53 (I.mv 7),I.n 2 54 (.index 9 (.tmp 52) (.tmp 53)),I.n 3 55 (I.cv 5 3 54),I.n 4 8 (I.sa 55)]) (.seq (.seq (.reg 23 [I.n 0 56 (I.mv 8),I.n 1 57 (I.bc .lss 3 56 128 3),I.n 2 58 (I.mv 57),I.w 3 59 (I.mv 8) 58 false,I.w 4 60 (I.bc .gtr 3 59 191 3) 58 false,I.n 5 61 (I.pb 58 true 60)]) (.cond (.tmp 61) (.seq (.reg 24 [I.n 0 2 (I.si 0),I.n 1 3 (I.si 0)]) .ret) .skip)) (.reg 25 [I.n 0 62 (I.mv 6),I.n 1 63 (I.bc .mul 3 62 64 3),I.n 2 64 (I.mv 8),I.n 3 65 (I.bo .add 3 63 64 3),I.n 4 66 (I.bc .sub 3 65 128 3),I.n 5 6 (I.sa 66)])))) (.reg 21 [I.n 0 50 (I.mv 7),I.n 1 51 (I.bc .add 3 50 1 3),I.n 2 7 (I.sa 51)])))))) (.seq (.seq (.reg 26 [I.n 0 67 (I.mv 6),I.n 1 68 (I.c1 124 67 3),I.n 2 69 (I.mv 5),I.n 3 70 (I.bc .add 3 69 1 3),I.n 4 71 (I.bo .neq 3 68 70 3)]) (.cond (.tmp 71) (.seq (.reg 27 [I.n 0 2 (I.si 0),I.n 1 3 (I.si 0)]) .ret) .skip)) (.seq (.reg 28 [I.n 0 72 (I.mv 6),I.n 1 73 (I.mv 5),I.n 2 74 (I.bc .add 3 73 1 3),I.n 3 2 (I.sa 72),I.n 4 3 (I.sa 74)]) .ret)))))))))):=by
 intro c h
 have:c = Tryd.f158.body.get rfl:=by rw [<- Option.some_inj,<- h];rfl
 rw [this];rfl
theorem abp{G:Prop}(h:G:=by
 have hbi:=Ev.Jm t i
 simp only [Ev.wrap64,Int.toNat_natCast] at hc
 refine ⟨_,_,rfl,Or.inl ⟨rfl,rfl,Or.inr (Or.inr ⟨m,n0,hl,Or.inr (Or.inl ⟨i,by omega,?_⟩)⟩)⟩,rfl⟩
 obtain ⟨j,rfl⟩:∃ j,i = j + 1:=⟨i - 1,by omega⟩
 simp only [Nat.add_sub_cancel] at ha
 simp only [mJ,ha];rw [if_neg (by omega)]):G:=h
theorem XG{G:Prop}(h:G:=by refine Ev.Side.of ?_;omega):G:=h
theorem Pz (t:ByteArray):aA env 158 [.v (.string t)] (fun r hs=>∃ n k,r = .dB [.v (.int .i64 n),.v (.int .i64 k)] /\ XF t n k /\ hs = []):=by
 have hb:=Ev.Jm t 0
 refine Ev.fn [0,2,3,4,5,6,7,8,11,21,29,37,41,46,49,61,71] 0 [.tmp 2,.tmp 3] Tryd.func158 (abS _ rfl) ?_
 repeat' (first | (with_reducible refine Ev.join (a:=.seq (.reg 6 _) _) (fun s=>∃ m n,s = ⟨[(0,.v (.string t)),(2,.v (.int .i64 0)),(3,.v (.int .i64 0)),(5,.v (.int .i64 m)),(6,.v (.int .i64 n))],[],0⟩ /\ LQ (Ev.iL t 0) m n) ?_ ?_) | refine' Ev.Fg | refine' Ev.zK | refine' Ev.zU | fail)
 all_goals first
   | (refine Ev.to ⟨[(0,_),(2,_),(3,_),(5,_),(6,_)],[],0⟩ ⟨rfl,rfl,rfl,rfl,rfl,trivial⟩ trivial (Nat.le_refl _) ⟨_,_,rfl,?_⟩;(try simp only [Ev.wrap64,Int.reduceToNat] at *);unfold LQ;omega)
   | (refine ⟨_,_,rfl,Or.inl ⟨rfl,rfl,?_⟩,rfl⟩;(try simp only [Ev.wrap64,Int.reduceToNat] at *);first | exact Or.inl (by omega) | exact Or.inr (Or.inl (by omega)))
   | skip
 rintro s ⟨m,n0,rfl,hl⟩
 have hm:0 <= m /\ m <= 3 /\ 0 <= n0 /\ n0 < 256:=by unfold LQ at hl;omega
 refine' aau
 · refine ⟨_,_,rfl,Or.inl ⟨rfl,rfl,Or.inr (Or.inr ⟨m,n0,hl,Or.inl ?_⟩)⟩,rfl⟩
   simp only [Ev.wrap64] at *;omega
 rename_i hsz
 simp only [Ev.wrap64] at hsz
 refine Ev.loop (fun k s=>∃ (i:Nat) (n:Int),s = ⟨[(0,.v (.string t)),(2,.v (.int .i64 0)),(3,.v (.int .i64 0)),(5,.v (.int .i64 m)),(6,.v (.int .i64 n)),(7,.v (.int .i64 i))],[],0⟩ /\ (k:Int) + i = m + 1 /\ 1 <= i /\ mJ t n0 (i - 1) = some n /\ 0 <= n /\ (i = 1 -> n < 256) /\ (i = 2 -> n < 20000) /\ (i = 3 -> n < 2000000) /\ (i = 4 -> n < 200000000)) ?_ ?_
 · refine Ev.to ⟨[(0,_),(2,_),(3,_),(5,_),(6,_),(7,_)],[],0⟩ ⟨rfl,rfl,rfl,rfl,rfl,rfl,trivial⟩ trivial (Nat.le_refl _) ⟨m.toNat,1,n0,rfl,?_⟩
   exact ⟨by omega,by omega,rfl,by omega,by omega,by omega,by omega,by omega⟩
 rintro k s1 ⟨i,n,rfl,hk,hi,ha,hn,h1,h2,h3,h4⟩
 repeat' (first | refine' Ev.Fg | refine' Ev.zK | ((refine Ev.aT (H8 _) rfl rfl ?_);conv=>whnf) | refine' Ev.zU | fail)
 · rename_i _ hc
   refine' abp
 · rename_i _ _ hc
   refine' abp
 · rename_i hm1 hc1 hc2
   have hbi:=Ev.Jm t i
   simp only [Ev.wrap64,Int.toNat_natCast] at hc1 hc2
   have hi4:i = 1 ∨ i = 2 ∨ i = 3:=by omega
   refine Ev.again (k - 1) ⟨[(0,_),(2,_),(3,_),(5,_),(6,.v (.int .i64 (n * 64 + Ev.iL t i - 128))),(7,.v (.int .i64 ((i + 1:Nat):Int)))],[],0⟩ (by omega)
     ⟨rfl,rfl,rfl,rfl,Ev.eG rfl (by simp only [Ev.wrap64,Int.toNat_natCast];omega),Ev.eG rfl (by simp only [Ev.wrap64];omega),trivial⟩ trivial (Nat.le_refl _) ⟨i + 1,_,rfl,by omega,by omega,?_,by omega,by omega,by omega,by omega,by omega⟩
   obtain ⟨j,rfl⟩:∃ j,i = j + 1:=⟨i - 1,by omega⟩
   simp only [Nat.add_sub_cancel] at ha
   simp only [Nat.add_sub_cancel,mJ,ha];rw [if_pos (by omega)]
 · refine' XG
 · rename_i hm1 hs
   refine ⟨_,_,rfl,Or.inr ⟨by omega,m,n0,hl,by omega,?_,?_,?_⟩,rfl⟩
   · rw [<- ha,show i - 1 = m.toNat by omega]
   · simp only [Ev.wrap64] at hs;omega
   · simp only [Ev.wrap64];omega
 · rename_i hm1 hs
   refine ⟨_,_,rfl,Or.inl ⟨rfl,rfl,Or.inr (Or.inr ⟨m,n0,hl,Or.inr (Or.inr ⟨n,?_,?_⟩)⟩)⟩,rfl⟩
   · rw [<- ha,show i - 1 = m.toNat by omega]
   · simp only [Ev.wrap64] at hs;omega
 · refine' XG
end Go.Proofs.YtadlnaljicikfaaDoor.aB
namespace Go.Proofs.YtadlnaljicikfaaDoor.aB
open Go
def BL (t:ByteArray):Int × Int:=if t.size = 0 ∨ Utf8.decode t 0 = (65533,1) then (0,0) else (((Utf8.decode t 0).1:Int),((Utf8.decode t 0).2:Int))
theorem Ec {t:ByteArray} {i:Nat} (h:i < t.size):Ev.iL t i = ((t.get! i).toNat:Int):=by
 rw [Ev.VZ h]
 have:t.get! i = t[i]'h:=by
   show t.data[i]! = t.data[i]
   rw [getElem!_pos t.data i h]
 rw [this]
theorem amX (t:ByteArray):Utf8.decode t 0 =
   if (t.get! 0).toNat < 128 then ((t.get! 0).toNat,1)
   else if (t.get! 0).toNat / 32 = 6 /\ 1 < t.size /\ (t.get! 1).toNat / 64 = 2 then
     (if (t.get! 0).toNat % 32 * 64 + (t.get! 1).toNat % 64 ≥ 128 then ((t.get! 0).toNat % 32 * 64 + (t.get! 1).toNat % 64,2) else (65533,1))
   else if (t.get! 0).toNat / 16 = 14 /\ (1 < t.size /\ (t.get! 1).toNat / 64 = 2) /\ 2 < t.size /\ (t.get! 2).toNat / 64 = 2 then
     (if (t.get! 0).toNat % 16 * 4096 + (t.get! 1).toNat % 64 * 64 + (t.get! 2).toNat % 64 ≥ 2048 /\ Utf8.valid ((t.get! 0).toNat % 16 * 4096 + (t.get! 1).toNat % 64 * 64 + (t.get! 2).toNat % 64:Nat) = true then ((t.get! 0).toNat % 16 * 4096 + (t.get! 1).toNat % 64 * 64 + (t.get! 2).toNat % 64,3) else (65533,1))
   else if (t.get! 0).toNat / 8 = 30 /\ (1 < t.size /\ (t.get! 1).toNat / 64 = 2) /\ (2 < t.size /\ (t.get! 2).toNat / 64 = 2) /\ 3 < t.size /\ (t.get! 3).toNat / 64 = 2 then
     (if (t.get! 0).toNat % 8 * 262144 + (t.get! 1).toNat % 64 * 4096 + (t.get! 2).toNat % 64 * 64 + (t.get! 3).toNat % 64 ≥ 65536 /\ Utf8.valid ((t.get! 0).toNat % 8 * 262144 + (t.get! 1).toNat % 64 * 4096 + (t.get! 2).toNat % 64 * 64 + (t.get! 3).toNat % 64:Nat) = true then ((t.get! 0).toNat % 8 * 262144 + (t.get! 1).toNat % 64 * 4096 + (t.get! 2).toNat % 64 * 64 + (t.get! 3).toNat % 64,4) else (65533,1))
   else (65533,1):=by
 simp only [Utf8.decode,Utf8.runeError,Nat.zero_add,Bool.and_eq_true,decide_eq_true_eq,beq_iff_eq,and_assoc]
theorem UG (n:Nat):Utf8.valid (n:Int) = true ↔ (n < 55296 ∨ (57344 <= n /\ n <= 1114111)):=by
 simp only [Utf8.valid,Bool.or_eq_true,Bool.and_eq_true,decide_eq_true_eq];omega
theorem BM {t:ByteArray} {n0 n:Int} {i:Nat} (h:mJ t n0 i = some n) (h1:128 <= Ev.iL t (i + 1)) (h2:Ev.iL t (i + 1) <= 191):mJ t n0 (i + 1) = some (n * 64 + Ev.iL t (i + 1) - 128):=by
 simp only [mJ,h];rw [if_pos ⟨h1,h2⟩]
theorem wL {t:ByteArray} {n0 n:Int} {i:Nat} (h:mJ t n0 (i + 1) = some n):∃ n',mJ t n0 i = some n' /\ 128 <= Ev.iL t (i + 1) /\ Ev.iL t (i + 1) <= 191 /\ n = n' * 64 + Ev.iL t (i + 1) - 128:=by
 simp only [mJ] at h
 split at h
 · rename_i n' hn'
   split at h
   · rename_i hc;exact ⟨n',hn',hc.1,hc.2,(Option.some.inj h).symm⟩
   · cases h
 · cases h
theorem acu{G:Prop}(h:G:=by
 simp only [mJ,Option.some.injEq] at ha0
 subst ha0
 simp only [Nat.zero_add,Nat.reduceAdd] at *
 unfold jo at hn
 split at hn
 all_goals(rcases(⟨_⟩:PLift _)with⟨h⟩;exact h)):G:=h
theorem adb{G:Prop}(h:G:=by
 refine ⟨?_,by omega,by omega,by omega⟩
 simp only [Prod.mk.injEq];omega):G:=h
theorem adw{G:Prop}(h:G:=by
 obtain rfl:=Option.some.inj h
 unfold jo at h'
 split at h' <;> omega):G:=h
theorem UH {t:ByteArray} {n k:Int} (h:XF t n k):(n,k) = BL t:=by
 unfold BL
 by_cases hz:t.size = 0
 · rw [if_pos (Or.inl hz)]
   rcases h with ⟨rfl,rfl,_⟩ | ⟨h,_⟩
   · rfl
   · omega
 have e0:=Ec (t:=t) (i:=0) (by omega)
 have l0:=(t.get! 0).toNat_lt
 have l1:=(t.get! 1).toNat_lt
 have l2:=(t.get! 2).toNat_lt
 have l3:=(t.get! 3).toNat_lt
 have e1:1 < t.size -> Ev.iL t 1 = ((t.get! 1).toNat:Int):=fun h=>Ec h
 have e2:2 < t.size -> Ev.iL t 2 = ((t.get! 2).toNat:Int):=fun h=>Ec h
 have e3:3 < t.size -> Ev.iL t 3 = ((t.get! 3).toNat:Int):=fun h=>Ec h
 have D:=amX t
 generalize (t.get! 0).toNat = b0 at *
 generalize (t.get! 1).toNat = b1 at *
 generalize (t.get! 2).toNat = b2 at *
 generalize (t.get! 3).toNat = b3 at *
 simp only [UG] at D
 rcases h with ⟨rfl,rfl,h⟩ | ⟨hs,m,n0,hl,hsz,ha,hn,rfl⟩
 · have goal:Utf8.decode t 0 = (65533,1):=by
     rw [D]
     rcases h with h | h | ⟨m,n0,hl,h⟩
     · exact absurd h hz
     · rw [if_neg (by omega),if_neg (by omega),if_neg (by omega),if_neg (by omega)]
     · rcases hl with ⟨a1,a2,rfl,rfl⟩ | ⟨a1,a2,rfl,rfl⟩ | ⟨a1,a2,rfl,rfl⟩ | ⟨a1,rfl,rfl⟩
       · rw [if_neg (by omega),if_neg (by omega),if_neg (by omega)]
         by_cases hc:b0 / 8 = 30 /\ (1 < t.size /\ b1 / 64 = 2) /\ (2 < t.size /\ b2 / 64 = 2) /\ 3 < t.size /\ b3 / 64 = 2
         · rw [if_pos hc,if_neg]
           obtain ⟨c0,⟨c1,c1'⟩,⟨c2,c2'⟩,c3,c3'⟩:=hc
           have q1:mJ t (Ev.iL t 0 - 240) 1 = some ((Ev.iL t 0 - 240) * 64 + Ev.iL t 1 - 128):=BM (i:=0) rfl (by have:=e1 c1;show 128 <= Ev.iL t 1;omega) (by have:=e1 c1;show Ev.iL t 1 <= 191;omega)
           have q2:mJ t (Ev.iL t 0 - 240) 2 = some (((Ev.iL t 0 - 240) * 64 + Ev.iL t 1 - 128) * 64 + Ev.iL t 2 - 128):=BM (i:=1) q1 (by have:=e2 c2;show 128 <= Ev.iL t 2;omega) (by have:=e2 c2;show Ev.iL t 2 <= 191;omega)
           have q3:mJ t (Ev.iL t 0 - 240) 3 = some ((((Ev.iL t 0 - 240) * 64 + Ev.iL t 1 - 128) * 64 + Ev.iL t 2 - 128) * 64 + Ev.iL t 3 - 128):=BM (i:=2) q2 (by have:=e3 c3;show 128 <= Ev.iL t 3;omega) (by have:=e3 c3;show Ev.iL t 3 <= 191;omega)
           have:=e1 c1;have:=e2 c2;have:=e3 c3
           rcases h with h | ⟨i,hi,h⟩ | ⟨n',h,h'⟩
           · omega
           · have:i = 0 ∨ i = 1 ∨ i = 2 ∨ i = 3:=by omega
             rcases this with rfl | rfl | rfl | rfl
             · simp [mJ] at h
             · rw [q1] at h;cases h
             · rw [q2] at h;cases h
             · rw [q3] at h;cases h
           · rw [show (3:Int).toNat = 3 from rfl,q3] at h
             refine' adw
         · rw [if_neg hc]
       · rw [if_neg (by omega),if_neg (by omega)]
         by_cases hc:b0 / 16 = 14 /\ (1 < t.size /\ b1 / 64 = 2) /\ 2 < t.size /\ b2 / 64 = 2
         · rw [if_pos hc,if_neg]
           obtain ⟨c0,⟨c1,c1'⟩,c2,c2'⟩:=hc
           have q1:mJ t (Ev.iL t 0 - 224) 1 = some ((Ev.iL t 0 - 224) * 64 + Ev.iL t 1 - 128):=BM (i:=0) rfl (by have:=e1 c1;show 128 <= Ev.iL t 1;omega) (by have:=e1 c1;show Ev.iL t 1 <= 191;omega)
           have q2:mJ t (Ev.iL t 0 - 224) 2 = some (((Ev.iL t 0 - 224) * 64 + Ev.iL t 1 - 128) * 64 + Ev.iL t 2 - 128):=BM (i:=1) q1 (by have:=e2 c2;show 128 <= Ev.iL t 2;omega) (by have:=e2 c2;show Ev.iL t 2 <= 191;omega)
           have:=e1 c1;have:=e2 c2
           rcases h with h | ⟨i,hi,h⟩ | ⟨n',h,h'⟩
           · omega
           · have:i = 0 ∨ i = 1 ∨ i = 2:=by omega
             rcases this with rfl | rfl | rfl
             · simp [mJ] at h
             · rw [q1] at h;cases h
             · rw [q2] at h;cases h
           · rw [show (2:Int).toNat = 2 from rfl,q2] at h
             refine' adw
         · rw [if_neg hc,if_neg (by omega)]
       · rw [if_neg (by omega)]
         by_cases hc:b0 / 32 = 6 /\ 1 < t.size /\ b1 / 64 = 2
         · rw [if_pos hc,if_neg]
           obtain ⟨c0,c1,c1'⟩:=hc
           have q1:mJ t (Ev.iL t 0 - 192) 1 = some ((Ev.iL t 0 - 192) * 64 + Ev.iL t 1 - 128):=BM (i:=0) rfl (by have:=e1 c1;show 128 <= Ev.iL t 1;omega) (by have:=e1 c1;show Ev.iL t 1 <= 191;omega)
           have:=e1 c1
           rcases h with h | ⟨i,hi,h⟩ | ⟨n',h,h'⟩
           · omega
           · have:i = 0 ∨ i = 1:=by omega
             rcases this with rfl | rfl
             · simp [mJ] at h
             · rw [q1] at h;cases h
           · rw [show (1:Int).toNat = 1 from rfl,q1] at h
             refine' adw
         · rw [if_neg hc,if_neg (by omega),if_neg (by omega)]
       · exfalso
         rcases h with h | ⟨i,hi,h⟩ | ⟨n',h,h'⟩
         · omega
         · have:i = 0:=by omega
           subst this;simp [mJ] at h
         · simp only [Int.toNat_zero,mJ,Option.some.injEq] at h
           unfold jo at h'
           split at h' <;> omega
   rw [if_pos (Or.inr goal)]
 · have goal:Utf8.decode t 0 = (n.toNat,(m + 1).toNat) /\ 0 <= n /\ 0 <= m /\ ¬ (n = 65533 /\ m = 0):=by
     rw [D]
     rcases hl with ⟨a1,a2,rfl,rfl⟩ | ⟨a1,a2,rfl,rfl⟩ | ⟨a1,a2,rfl,rfl⟩ | ⟨a1,rfl,rfl⟩
     · have:=e1 (by omega);have:=e2 (by omega);have:=e3 (by omega)
       obtain ⟨n1,ha2,c1,c1',rfl⟩:=wL (i:=2) ha
       obtain ⟨n2,ha1,c2,c2',rfl⟩:=wL (i:=1) ha2
       obtain ⟨n3,ha0,c3,c3',rfl⟩:=wL (i:=0) ha1
       refine' acu
       · omega
       rw [if_neg (by omega),if_neg (by omega),if_neg (by omega),if_pos (by omega),if_pos (by omega)]
       refine' adb
     · have:=e1 (by omega);have:=e2 (by omega)
       obtain ⟨n2,ha1,c2,c2',rfl⟩:=wL (i:=1) ha
       obtain ⟨n3,ha0,c3,c3',rfl⟩:=wL (i:=0) ha1
       refine' acu
       · omega
       rw [if_neg (by omega),if_neg (by omega),if_pos (by omega),if_pos (by omega)]
       refine' adb
     · have:=e1 (by omega)
       obtain ⟨n3,ha0,c3,c3',rfl⟩:=wL (i:=0) ha
       refine' acu
       · omega
       rw [if_neg (by omega),if_pos (by omega),if_pos (by omega)]
       refine' adb
     · simp only [Int.toNat_zero,mJ,Option.some.injEq] at ha
       subst ha
       rw [if_pos (by omega)]
       refine' adb
   rw [if_neg]
   · rw [goal.1];simp only [Prod.mk.injEq];omega
   · rw [goal.1];simp only [Prod.mk.injEq];omega
end Go.Proofs.YtadlnaljicikfaaDoor.aB
namespace Go.Proofs.YtadlnaljicikfaaDoor.aB
open Go
set_option maxRecDepth 100000
attribute [local irreducible] Ev.iE Ev.iG Ev.bW Ev.runK Ev.bY Ev.gq Ev.Side Ev.Wp Ev.Again Ev.To Ev.Fin
open Go.Lib
def ints (l:List Int):List (List AV):=l.map fun n=>[.v (.int .i64 n)]
def vG:Nat -> List UInt8 -> Int -> List Int
 | 0,_,_=>[]
 | n + 1,l,at'=>if l = [] then [] else (at' + (decodeL l).2) :: vG n (l.drop (decodeL l).2) (at' + (decodeL l).2)
def nC (l:List UInt8) (at':Int):List Int:=vG l.length l at'
theorem Fh:∀ (n m:Nat) (l:List UInt8) (a:Int),l.length <= n -> l.length <= m -> vG n l a = vG m l a
 | 0,0,l,a,_,_=>rfl
 | 0,m + 1,l,a,h,_=>by
   have:l = []:=List.length_eq_zero_iff.1 (by omega)
   subst this;simp [vG]
 | n + 1,0,l,a,_,h=>by
   have:l = []:=List.length_eq_zero_iff.1 (by omega)
   subst this;simp [vG]
 | n + 1,m + 1,l,a,h1,h2=>by
   simp only [vG]
   by_cases he:l = []
   · rw [if_pos he,if_pos he]
   · rw [if_neg he,if_neg he]
     have:=decodeL_width l
     rw [Fh n m _ _ (by rw [List.length_drop];omega) (by rw [List.length_drop];omega)]
theorem Fj (a:Int):nC [] a = []:=rfl
theorem aew{G:Prop}(h:G:=by (obtain ⟨n,hn⟩:∃ n,l.length = n + 1:=⟨l.length - 1,by have:=List.length_pos_iff.2 h;omega⟩);all_goals(rcases(⟨_⟩:PLift _)with⟨h⟩;exact h)):G:=h
theorem qW {l:List UInt8} (h:l ≠ []) (a:Int):nC l a = (a + (decodeL l).2) :: nC (l.drop (decodeL l).2) (a + (decodeL l).2):=by
 unfold nC
 refine' aew
 rw [hn,vG,if_neg h]
 have:=decodeL_width l
 rw [Fh n _ _ _ (by rw [List.length_drop];omega) (Nat.le_refl _)]
theorem Ad:∀ (n m:Nat) (l:List UInt8),l.length <= n -> l.length <= m -> validGoD n l = validGoD m l
 | 0,0,l,_,_=>rfl
 | 0,m + 1,l,h,_=>by
   have:l = []:=List.length_eq_zero_iff.1 (by omega)
   subst this;simp [validGoD]
 | n + 1,0,l,_,h=>by
   have:l = []:=List.length_eq_zero_iff.1 (by omega)
   subst this;simp [validGoD]
 | n + 1,m + 1,l,h1,h2=>by
   simp only [validGoD]
   by_cases he:l = []
   · rw [if_pos he,if_pos he]
   · rw [if_neg he,if_neg he]
     have:=decodeL_width l
     rw [Ad n m _ (by rw [List.length_drop];omega) (by rw [List.length_drop];omega)]
theorem validD_step {l:List UInt8} (h:l ≠ []):validD l = if decodeL l = (65533,1) then false else validD (l.drop (decodeL l).2):=by
 unfold validD
 refine' aew
 rw [hn,validGoD,if_neg h]
 have:=decodeL_width l
 rw [Ad n _ _ (by rw [List.length_drop];omega) (Nat.le_refl _)]
 have e:(decodeL l = (65533,1)) ↔ ((decodeL l).1 = 65533 /\ (decodeL l).2 = 1):=by rw [Prod.ext_iff]
 simp only [e]
theorem JE (t:ByteArray) (i:Nat):(t.extract i t.size).data.toList = t.data.toList.drop i:=by
 simp only [ByteArray.data_extract,Array.toList_extract,List.extract_eq_take_drop]
 apply List.take_of_length_le
 simp
theorem Dl (t:ByteArray) (i:Nat) (hi:i < t.size):BL (t.extract i t.size) = if decodeL (t.data.toList.drop i) = (65533,1) then (0,0) else (((decodeL (t.data.toList.drop i)).1:Int),((decodeL (t.data.toList.drop i)).2:Int)):=by
 have e:Utf8.decode (t.extract i t.size) 0 = decodeL (t.data.toList.drop i):=by
   rw [<- decodeL_drop (t.extract i t.size) 0,List.drop_zero,JE]
 unfold BL
 rw [e]
 have:¬ (t.extract i t.size).size = 0:=by rw [ByteArray.size_extract];omega
 by_cases h:decodeL (t.data.toList.drop i) = (65533,1)
 · rw [if_pos (Or.inr h),if_pos h]
 · rw [if_neg (by rintro (h' | h');exact this h';exact h h'),if_neg h]
theorem bM (t:ByteArray):t.data.toList.length = t.size:=Array.length_toList
theorem UJ (t:ByteArray):aA env 158 [.v (.string t)] (fun r hs=>r = .dB [.v (.int .i64 (BL t).1),.v (.int .i64 (BL t).2)] /\ hs = []) :=
 (Pz t).mono fun r hs ⟨n,k,a,b,c⟩=>by rw [<- UH b];exact ⟨a,c⟩
theorem abT:∀ c,Tryd.f117.body = some c -> comp c = (.seq (.reg 0 [I.n 0 2 I.sn,I.n 1 3 (I.sb false)]) (.seq (.reg 1 [I.n 0 8 (.buildSlice 25 1 #[(0,.const (Value.int .i64 0))]),I.n 1 4 (I.sa 8)]) (.seq (.reg 2 [I.n 0 5 (I.si 0)]) (.seq (.block 0 (.loop (.seq (.seq (.reg 3 [I.n 0 9 (I.mv 5),I.n 1 10 (I.mv 0),I.n 2 11 (I.ln 10 9),I.n 3 12 (I.bo .lss 3 9 11 3)]) (.cond (.tmp 12) .skip (.exit 0))) (.block 1 (.seq (.reg 4 [I.n 0 14 (I.mv 0),I.n 1 15 (I.mv 5),I.n 2 16 (.slice 9 (.tmp 14) (some (.tmp 15)) none none),I.n 3 17 (I.c1 158 16 9),I.n 4 13 (I.mv 17),I.n 5 18 (I.ex 13 0),I.n 6 19 (I.ex 13 1),I.n 7 6 (I.sa 18),I.n 8 7 (I.sa 19)]) (.seq (.seq (.reg 5 [I.n 0 20 (I.mv 7),I.n 1 21 (I.bc .eql 3 20 0 3)]) (.cond (.tmp 21) (.seq (.reg 6 [I.n 0 2 I.sn,I.n 1 3 (I.sb false)]) .ret) .skip)) (.seq (.reg 7 [I.n 0 22 (I.mv 5),I.n 1 23 (I.mv 7),I.n 2 24 (I.bo .add 3 22 23 3),I.n 3 5 (I.sa 24)]) (.reg 8 [I.n 0 25 (I.mv 4),I.n 1 26 (I.mv 5),I.n 2 27 (I.b1 25 26),I.n 3 28 (I.ap 25 27 25 25),I.n 4 4 (I.sa 28)])))))))) (.seq (.reg 9 [I.n 0 29 (I.mv 4),I.n 1 2 (I.sa 29),I.n 2 3 (I.sb true)]) .ret))))):=by
 intro c h
 have:c = Tryd.f117.body.get rfl:=by rw [<- Option.some_inj,<- h];rfl
 rw [this];rfl
def Ae (t:ByteArray) (r:AV) (hs:List aG):Prop :=
 if validD t.data.toList then r = .dB [.own 0 0 0 ((nC t.data.toList 0).length + 1),.v (.bool true)] /\ hs = [⟨1,3,0,0,false,ints (0 :: nC t.data.toList 0)⟩] else r = .dB [.v (.slice none 0 0),.v (.bool false)] /\ hs = []
theorem ag1{G:Prop}(h:G:=by (have hne:t.data.toList.drop i ≠ []:=by intro e;have:=congrArg List.length e;rw [List.length_drop,bM] at this;simp at this;omega);all_goals(rcases(⟨_⟩:PLift _)with⟨h⟩;exact h)):G:=h
theorem ahi{G:Prop}(h:G:=by
 simp only [Ev.uY.DL,aF,get_nil,Nat.reduceEqDiff,if_false,if_true,handed,zC,ren,idx,and_self,Option.map_some,og]
 refine hF _ ?_
 all_goals(rcases(⟨_⟩:PLift _)with⟨h⟩;exact h)):G:=h
theorem Dn (t:ByteArray) (ht:t.size <= 1000000000):aA env 117 [.v (.string t)] (Ae t):=by
 refine Ev.fnO [0,2,3,4,5,7,12,21] 0 [.tmp 2,.tmp 3] Tryd.func117 (abT _ rfl) ?_
 refine' aau
 refine Ev.loop (fun k s=>∃ (i v c:Nat) (out:List Int),s = ⟨[(0,.v (.string t)),(2,.v (.slice none 0 0)),(3,.v (.bool false)),(4,.own 512 v 0 out.length),(5,.v (.int .i64 i))],[(512,⟨1,3,v,0,false,ints out⟩)],c⟩ /\
     k + i = t.size /\ out ++ nC (t.data.toList.drop i) i = 0 :: nC t.data.toList 0 /\ validD (t.data.toList.drop i) = validD t.data.toList /\ out.length <= i + 1) ?_ ?_
 · exact Ev.to ⟨[(0,_),(2,_),(3,_),(4,.own 512 0 0 1),(5,.v (.int .i64 ((0:Nat):Int)))],[(512,⟨1,3,0,0,false,ints [0]⟩)],8⟩ ⟨rfl,rfl,rfl,rfl,rfl,trivial⟩ ⟨rfl,trivial⟩ (Nat.le_refl _) ⟨t.size,0,0,8,[0],rfl,by omega,rfl,rfl,by simp⟩
 rintro k s1 ⟨i,v,c,out,rfl,hk,ho,hv,hl⟩
 repeat' (first | refine' Ev.Fg | refine' Ev.zK | ((refine Ev.aT (UJ _) rfl rfl ?_);conv=>whnf) | refine' Ev.zU | fail)
 · rename_i hi hk0
   refine Ev.V6 [] (by simp) (fun F hF=>?_)
   conv=>whnf
   refine hF _ ?_
   simp only [Int.toNat_natCast] at hk0
   rw [Dl t i (by omega)] at hk0
   unfold Ae
   refine' ag1
   rw [validD_step hne] at hv
   have hw:=decodeL_width (t.data.toList.drop i)
   split at hk0
   · rename_i hd
     rw [if_pos hd] at hv
     rw [if_neg (by rw [<- hv];decide)];exact ⟨rfl,rfl⟩
   · simp only at hk0;omega
 · rename_i hi hk0
   simp only [Int.toNat_natCast] at hk0
   refine' ag1
   have hw:=decodeL_width (t.data.toList.drop i)
   have hw':=decodeL_le (t.data.toList.drop i) hne
   rw [List.length_drop,bM] at hw'
   have hf:=Dl t i (by omega)
   have hd:¬ decodeL (t.data.toList.drop i) = (65533,1):=by
     intro e;rw [hf,if_pos e] at hk0;exact hk0 rfl
   rw [if_neg hd] at hf
   rw [validD_step hne,if_neg hd,List.drop_drop] at hv
   rw [qW hne,List.drop_drop] at ho
   refine Ev.again (k - (decodeL (t.data.toList.drop i)).2) ⟨[(0,_),(2,_),(3,_),(4,_),(5,.v (.int .i64 ((i + (decodeL (t.data.toList.drop i)).2:Nat):Int)))],[(512,⟨1,3,c + 8,0,false,ints (out ++ [((i + (decodeL (t.data.toList.drop i)).2:Nat):Int)])⟩)],c + 8 + 8⟩ (by omega)
     ⟨rfl,rfl,rfl,rfl,Ev.eG rfl ?_,trivial⟩ ⟨Ev.aj rfl ?_,trivial⟩ (Nat.le_refl _) ⟨i + (decodeL (t.data.toList.drop i)).2,c + 8,c + 8 + 8,out ++ [((i + (decodeL (t.data.toList.drop i)).2:Nat):Int)],?_,by omega,?_,by rw [Nat.add_comm];rw [Nat.add_comm] at hv;exact hv,by rw [List.length_append];simp only [List.length_cons,List.length_nil];omega⟩
   · rw [Int.toNat_natCast,hf,Ev.wrap64];simp only;omega
   · simp only [aG.mk.injEq,true_and,and_true,List.drop_zero,Int.toNat_natCast,hf]
     simp only [ints,List.map_append,List.map_cons,List.map_nil,List.take_succ_cons,List.take_zero,Ev.wrap64]
     rw [show ((i:Int) + ((decodeL (t.data.toList.drop i)).2:Int) + 9223372036854775808) % 18446744073709551616 - 9223372036854775808 = ((i + (decodeL (t.data.toList.drop i)).2:Nat):Int) by omega]
   · simp only [List.length_append,List.length_cons,List.length_nil];rfl
   · rw [List.append_assoc];rw [<- ho]
     simp only [Int.natCast_add,List.singleton_append]
 · refine Ev.Side.of ?_
   have hm:2000000003 <= maxLen:=by decide
   simp [ints]
   omega
 · refine' XG
 · rename_i hi
   refine Ev.V6 [(512,v)] (by simp) (fun F hF=>?_)
   have e:i = t.size:=by omega
   subst e
   have en:t.data.toList.drop t.size = []:=by apply List.drop_of_length_le;rw [bM];exact Nat.le_refl _
   rw [en] at hv ho
   rw [Fj,List.append_nil] at ho
   subst ho
   refine' ahi
   unfold Ae
   rw [if_pos (by rw [<- hv];rfl)]
   exact ⟨rfl,rfl⟩
theorem BN {t:ByteArray} (ht:t.size <= 1000000000) (hv:validD t.data.toList = true):aA env 117 [.v (.string t)] (fun r hs=>r = .dB [.own 0 0 0 ((nC t.data.toList 0).length + 1),.v (.bool true)] /\ hs = [⟨1,3,0,0,false,ints (0 :: nC t.data.toList 0)⟩]) :=
 (Dn t ht).mono fun r hs h=>by unfold Ae at h;rwa [if_pos hv] at h
theorem BO {t:ByteArray} (ht:t.size <= 1000000000) (hv:¬ validD t.data.toList = true):aA env 117 [.v (.string t)] (fun r hs=>r = .dB [.v (.slice none 0 0),.v (.bool false)] /\ hs = []) :=
 (Dn t ht).mono fun r hs h=>by unfold Ae at h;rwa [if_neg hv] at h
theorem H9:∀ (n:Nat) (l:List UInt8) (a:Int),(vG n l a).length <= n
 | 0,l,a=>by simp [vG]
 | n + 1,l,a=>by
   simp only [vG]
   split
   · simp
   · simp only [List.length_cons];have:=H9 n (l.drop (decodeL l).2) (a + (decodeL l).2);omega
theorem LU (l:List UInt8) (a:Int):(nC l a).length <= l.length:=H9 _ _ _
theorem XH:∀ c,Tryd.f99.body = some c -> comp c = (.seq (.reg 0 [I.n 0 2 (I.sb false)]) (.seq (.reg 1 [I.n 0 6 (I.mv 0),I.n 1 7 (I.c1 117 6 9),I.n 2 5 (I.mv 7),I.n 3 8 (I.ex 5 0),I.n 4 9 (I.ex 5 1),I.n 5 3 (I.sa 8),I.n 6 4 (I.sa 9)]) (.seq (.reg 2 [I.n 0 10 (I.mv 4),I.n 1 2 (I.sa 10)]) .ret))):=by
 intro c h
 have:c = Tryd.f99.body.get rfl:=by rw [<- Option.some_inj,<- h];rfl
 rw [this];rfl
theorem XI:∀ c,Tryd.f70.body = some c -> comp c = (.seq (.reg 0 [I.n 0 2 (I.si 0)]) (.seq (.reg 1 [I.n 0 6 (I.mv 0),I.n 1 7 (I.c1 117 6 9),I.n 2 5 (I.mv 7),I.n 3 8 (I.ex 5 0),I.n 4 9 (I.ex 5 1),I.n 5 3 (I.sa 8),I.n 6 4 (I.sa 9)]) (.seq (.reg 2 [I.n 0 10 (I.mv 3),I.n 1 11 (I.ln 10 25),I.n 2 12 (I.bc .sub 3 11 1 3),I.n 3 2 (I.sa 12)]) .ret))):=by
 intro c h
 have:c = Tryd.f70.body.get rfl:=by rw [<- Option.some_inj,<- h];rfl
 rw [this];rfl
theorem af6{G:Prop}(h:G:=by (repeat' (first | refine' Ev.Fg | refine' Ev.zK | ((refine Ev.zM (BN ht hv) rfl (by simp) ⟨rfl,trivial⟩ ?_);conv=>whnf) | refine' Ev.zU | fail));all_goals(rcases(⟨_⟩:PLift _)with⟨h⟩;exact h)):G:=h
theorem vH (t:ByteArray) (ht:t.size <= 1000000000):aA env 99 [.v (.string t)] (fun r hs=>r = .v (.bool (validD t.data.toList)) /\ hs = []):=by
 by_cases hv:validD t.data.toList = true
 · refine Ev.fn [0,2,4] 0 [.tmp 2] Tryd.func99 (XH _ rfl) ?_
   refine' af6
   rw [hv];exact ⟨rfl,rfl⟩
 · refine Ev.fn [0,2,4] 0 [.tmp 2] Tryd.func99 (XH _ rfl) ?_
   repeat' (first | refine' Ev.Fg | refine' Ev.zK | ((refine Ev.aT (BO ht hv) rfl rfl ?_);conv=>whnf) | refine' Ev.zU | fail)
   rw [Bool.eq_false_iff.2 hv];exact ⟨rfl,rfl⟩
def aN (l:List UInt8):Int:=if validD l then (nC l 0).length else -1
theorem jq (t:ByteArray) (ht:t.size <= 1000000000):aA env 70 [.v (.string t)] (fun r hs=>r = .v (.int .i64 (aN t.data.toList)) /\ hs = []):=by
 by_cases hv:validD t.data.toList = true
 · refine Ev.fn [0,2,3] 0 [.tmp 2] Tryd.func70 (XI _ rfl) ?_
   refine' af6
   refine ⟨congrArg (fun z=>AV.v (Value.int IntKind.i64 z)) ?_,rfl⟩
   have:=LU t.data.toList 0
   rw [bM] at this
   unfold aN;rw [if_pos hv,Ev.wrap64];omega
 · refine Ev.fn [0,2,3] 0 [.tmp 2] Tryd.func70 (XI _ rfl) ?_
   repeat' (first | refine' Ev.Fg | refine' Ev.zK | ((refine Ev.aT (BO ht hv) rfl rfl ?_);conv=>whnf) | refine' Ev.zU | fail)
   refine ⟨congrArg (fun z=>AV.v (Value.int IntKind.i64 z)) ?_,rfl⟩
   unfold aN;rw [if_neg hv,Ev.wrap64];rfl
end Go.Proofs.YtadlnaljicikfaaDoor.aB
namespace Go.Proofs.YtadlnaljicikfaaDoor.aB
open Go
set_option maxRecDepth 100000
attribute [local irreducible] Ev.iE Ev.iG Ev.bW Ev.runK Ev.bY Ev.gq Ev.Side Ev.Wp Ev.Again Ev.To Ev.Fin
open Go.Lib Go.RowKit
theorem abU {w:World} {b o:Nat} {u:Value} (h:w.cell? ⟨b,o,none⟩ = some u):b < w.heap.size:=by
 unfold World.cell? at h
 rcases Nat.lt_or_ge b w.heap.size with h' | h'
 · exact h'
 · simp [Array.getElem?_eq_none h'] at h
theorem Gv {f:FuncId} {x y:Value} (h:∀ w:World,(∀ g cs j z,env.G g = some cs -> cs[j]? = some (.v z) -> w.cell? ⟨g,j,none⟩ = some z) ->
   (callFunc f #[x]).run env.P w = .ok (.enter f #[x]) w /\ Calls env.P f #[x] w fun e w'=>e = .returned y /\ Below w.heap.size w w'):aA env f [.v x] (fun r hs=>r = .v y /\ hs = []):=by
 intro M w vs hm hg hn hr
 have hv:vs = #[x]:=by
   apply Array.ext_getElem?
   intro i
   rcases Nat.lt_or_ge i vs.size with hi | hi
   · have:i = 0:=by simp at hn;omega
     subst this
     have:=hr 0 (.v x) vs[0] rfl (Array.getElem?_eq_getElem hi)
     cases this
     rw [Array.getElem?_eq_getElem hi];rfl
   · rw [Array.getElem?_eq_none hi,Array.getElem?_eq_none (by simp at hn ⊢;omega)]
 subst hv
 obtain ⟨a,b⟩:=h w (fun g cs j z h1 h2=>by
   have hp:=hg g cs h1
   cases hp with
   | fV u hM hc =>
     have hz:=hc j _ h2
     have h3:=hM j _ h2
     rw [Nat.zero_add] at h3
     rw [(hm _ _ _ h3).1]
     cases hz;rfl)
 refine ⟨a,b.mono ?_⟩
 rintro e w' ⟨rfl,hb⟩
 refine ⟨y,_,[],M,fun _=>none,rfl,⟨rfl,rfl⟩,⟨hb,fun b o u hu=>?_,fun _ _ _ h=>.inl h,fun _ _ _ h=>h,hg,fun t x h=>by simp [get_nil] at h,fun r k h=>by simp [fF,get_nil] at h,
   fun r r' k k' L L' h=>by simp [fF,get_nil] at h,fun r k L o u h=>by simp [fF,get_nil] at h,fun r L h=>by simp at h,fun r L h=>h,fun b o h=>by cases h⟩,.pure (.v _)⟩
 obtain ⟨h1,h2⟩:=hm b o u hu
 exact ⟨by rw [hb.cell (abU h1)];exact h1,h2⟩
end Go.Proofs.YtadlnaljicikfaaDoor.aB
namespace Go.Proofs.YtadlnaljicikfaaDoor.aB
open Go
set_option maxRecDepth 100000
attribute [local irreducible] Ev.iE Ev.iG Ev.bW Ev.runK Ev.bY Ev.gq Ev.Side Ev.Wp Ev.Again Ev.To Ev.Fin
open Go.Lib Go.RowKit Go.Shelf
def JF:Go.Shelf.Ren:=⟨fun | 196=>121 | 259=>159 | n=>n,fun | 9=>9 | 4=>4 | 3=>3 | 5=>5 | 12=>12 | 119=>171 | 0=>0 | 46=>158 | 139=>174 | 138=>173 | 53=>185 | n=>n,fun | 3=>0 | 4=>1 | n=>n⟩
theorem LV:Lays.n196 Tryd.prog JF :=
 { mixed:=by kernel_rfl,
   f196:=Tryd.func121.trans (congrArg some (by kernel_rfl)),
   f259:=Tryd.func159.trans (congrArg some (by kernel_rfl)),
   t0:=Tryd.underlying0,
   a0:=Tryd.isAgg0,
   z0:=Tryd.sizeOf0,
   v0:=Tryd.zeroValue0,
   t3:=Tryd.underlying3,
   a3:=Tryd.isAgg3,
   z3:=Tryd.sizeOf3,
   v3:=Tryd.zeroValue3,
   t4:=Tryd.underlying4,
   a4:=Tryd.isAgg4,
   z4:=Tryd.sizeOf4,
   v4:=Tryd.zeroValue4,
   t5:=Tryd.underlying5,
   a5:=Tryd.isAgg5,
   z5:=Tryd.sizeOf5,
   v5:=Tryd.zeroValue5,
   t9:=Tryd.underlying9,
   a9:=Tryd.isAgg9,
   z9:=Tryd.sizeOf9,
   v9:=Tryd.zeroValue9,
   t12:=Tryd.underlying12,
   a12:=Tryd.isAgg12,
   z12:=Tryd.sizeOf12,
   v12:=Tryd.zeroValue12,
   t46:=Tryd.underlying158,
   a46:=Tryd.isAgg158,
   z46:=Tryd.sizeOf158,
   v46:=Tryd.zeroValue158,
   t53:=Tryd.underlying185,
   a53:=Tryd.isAgg185,
   z53:=Tryd.sizeOf185,
   v53:=Tryd.zeroValue185,
   t119:=Tryd.underlying171,
   a119:=Tryd.isAgg171,
   z119:=Tryd.sizeOf171,
   t138:=Tryd.underlying173,
   a138:=Tryd.isAgg173,
   z138:=Tryd.sizeOf173,
   v138:=Tryd.zeroValue173,
   t139:=Tryd.underlying174,
   a139:=Tryd.isAgg174,
   z139:=Tryd.sizeOf174,
   v139:=Tryd.zeroValue174,
   g3:=by kernel_rfl,
   g4:=by kernel_rfl }
theorem UK (t:ByteArray) (ht:t.size <= 1000000000):aA env 121 [.v (.string t)] (fun r hs=>r = .v (.bool (validD t.data.toList)) /\ hs = []):=by
 refine Gv fun w hw=>⟨?_,?_⟩
 · exact jH Tryd.func121 rfl rfl w
 · have hT:Lib.Utf8Tabs 0 1 w:=by
     refine ⟨fun c hc=>?_,fun i hi=>⟨?_,?_⟩⟩
     · exact hw 0 Ht c _ rfl (by simp [Ht,hc])
     · exact hw 1 EZ (2 * i) _ rfl (by
                                          have:i = 0 ∨ i = 1 ∨ i = 2 ∨ i = 3 ∨ i = 4 ∨ i = 5 ∨ i = 6 ∨ i = 7 ∨ i = 8 ∨ i = 9 ∨ i = 10 ∨ i = 11 ∨ i = 12 ∨ i = 13 ∨ i = 14 ∨ i = 15:=by omega
                                          rcases this with rfl | rfl | rfl | rfl | rfl | rfl | rfl | rfl | rfl | rfl | rfl | rfl | rfl | rfl | rfl | rfl <;> rfl)
     · exact hw 1 EZ (2 * i + 1) _ rfl (by
                                              have:i = 0 ∨ i = 1 ∨ i = 2 ∨ i = 3 ∨ i = 4 ∨ i = 5 ∨ i = 6 ∨ i = 7 ∨ i = 8 ∨ i = 9 ∨ i = 10 ∨ i = 11 ∨ i = 12 ∨ i = 13 ∨ i = 14 ∨ i = 15:=by omega
                                              rcases this with rfl | rfl | rfl | rfl | rfl | rfl | rfl | rfl | rfl | rfl | rfl | rfl | rfl | rfl | rfl | rfl <;> rfl)
   exact Any.utf8_ValidString LV t w (by omega) hT
theorem ai0:∀ c,Tryd.f78.body = some c -> comp c = (.seq (.reg 0 [I.n 0 2 (I.sb false)]) (.seq (.reg 1 [I.n 0 3 (I.mv 0),I.n 1 4 (I.c1 121 3 9),I.n 2 2 (I.sa 4)]) .ret)):=by
 intro c h
 have:c = Tryd.f78.body.get rfl:=by rw [<- Option.some_inj,<- h];rfl
 rw [this];rfl
theorem vI (t:ByteArray) (ht:t.size <= 1000000000):aA env 78 [.v (.string t)] (fun r hs=>r = .v (.bool (validD t.data.toList)) /\ hs = []):=by
 refine Ev.fn [0,2] 0 [.tmp 2] Tryd.func78 (ai0 _ rfl) ?_
 repeat' (first | refine' Ev.Fg | refine' Ev.zK | ((refine Ev.aT (UK t ht) rfl rfl ?_);conv=>whnf) | refine' Ev.zU | fail)
 exact ⟨rfl,rfl⟩
theorem aex{G:Prop}(h:G:=by
 refine b.mono ?_
 rintro e w' ⟨v,r,hs,M',J',rfl,⟨rfl,rfl⟩,inv,hr⟩
 have:=hr.dn
 subst this
 exact ⟨rfl,inv.below⟩):G:=h
theorem ai1 {f:FuncId} {x y:Value} (h:aA env f [.v x] (fun r hs=>r = .v y /\ hs = [])) (w:World) (h1:∀ g cs j z,env.G g = some cs -> cs[j]? = some (.v z) -> w.cell? ⟨g,j,none⟩ = some z /\ z.oneCell' = true)
   (h2:∀ g cs c,env.G g = some cs -> c ∈ cs -> ∃ z,c = .v z):Calls env.P f #[x] w fun e w'=>e = .returned y /\ Below w.heap.size w w':=by
 have hA:∀ (b o:Nat) (u:Value),(match env.G b with | some cs=>(match cs[o]? with | some (AV.v z)=>some z | _=>none) | none=>none) = some u -> w.cell? ⟨b,o,none⟩ = some u /\ u.oneCell' = true:=by
   intro b o u hu
   split at hu
   · rename_i cs hcs
     split at hu
     · rename_i z hz
       obtain rfl:=Option.some.inj hu
       exact h1 _ _ _ _ hcs hz
     · cases hu
   · cases hu
 have hB:∀ g cs,env.G g = some cs -> dF (fun (b o:Nat)=>match env.G b with | some cs=>(match cs[o]? with | some (AV.v z)=>some z | _=>none) | none=>none) (.fV cs) (.pointer (some ⟨g,0,none⟩)):=by
   intro g cs hg
   refine .fV (fun j=>match cs[j]? with | some (.v z)=>z | _=>x) (fun j c hc=>?_) (fun j c hc=>?_)
   · obtain ⟨z,rfl⟩:=h2 g cs c hg (List.mem_of_getElem? hc)
     simp only [hg,Nat.zero_add,hc]
   · obtain ⟨z,rfl⟩:=h2 g cs c hg (List.mem_of_getElem? hc)
     simp only [hc];exact .v _
 have hC:∀ (i:Nat) (a:AV) (v:Value),[AV.v x][i]? = some a -> #[x][i]? = some v -> dF (fun (b o:Nat)=>match env.G b with | some cs=>(match cs[o]? with | some (AV.v z)=>some z | _=>none) | none=>none) a v:=by
   intro i a v ha hv
   cases i with
   | zero=>simp at ha hv;subst ha;subst hv;exact .v _
   | succ i=>simp at ha
 obtain ⟨_,b⟩:=h _ w #[x] hA hB rfl hC
 refine' aex
theorem JG (g:Nat) (cs:List AV) (c:AV) (h:env.G g = some cs) (hc:c ∈ cs):∃ z,c = .v z /\ z.oneCell' = true:=by
 have h:Xx g = some cs:=h
 unfold Xx at h
 split at h <;> first | (cases h;done) | skip
 all_goals (obtain rfl:=Option.some.inj h)
 · simp [Xw] at hc;rcases hc with rfl | rfl | rfl | rfl | rfl <;> exact ⟨_,rfl,rfl⟩
 · simp only [Ht,List.mem_map] at hc;obtain ⟨a,_,rfl⟩:=hc;exact ⟨_,rfl,rfl⟩
 · simp only [EZ,List.mem_flatMap] at hc;obtain ⟨a,_,hc⟩:=hc;simp at hc;rcases hc with rfl | rfl <;> exact ⟨_,rfl,rfl⟩
set_option maxRecDepth 1000000 in
theorem count_walk (t:ByteArray) (ht:t.size <= 1000000000) (w:World) (hw:∀ g cs j z,env.G g = some cs -> cs[j]? = some (.v z) -> w.cell? ⟨g,j,none⟩ = some z) :
    Calls Tryd.prog 32 #[.string t] w fun e w'=>e = .returned (.int .i64 (aN t.data.toList)) /\ Below w.heap.size w w':=by
  have cV:Calls Tryd.prog 78 #[.string t] w fun e w'=>e = .returned (.bool (validD t.data.toList)) /\ Below w.heap.size w w' :=
    ai1 (vI t ht) w (fun g cs j z a b=>⟨hw g cs j z a b,by obtain ⟨z',e,h⟩:=JG g cs _ a (List.mem_of_getElem? b);cases e;exact h⟩) (fun g cs c a b=>let ⟨z,e,_⟩:=JG g cs c a b;⟨z,e⟩)
  by_cases hv:validD t.data.toList = true
  · rw [hv] at cV
    have hcd:aN t.data.toList = (nC t.data.toList 0).length:=by unfold aN;rw [if_pos hv]
    rw [hcd]
    go_enter Tryd.func32,Tryd.ntmps32
    go_wp2_with (go_at_call 78;refine cV.mono ?_;rintro e w1 ⟨rfl,hb⟩)
    go_loopw [3] (fun n w'=>∃ (pos:Nat) (acc:Nat),w' = w1.iter t pos /\ n = .int .i64 (acc:Int) /\ acc + (nC (t.data.toList.drop pos) pos).length = (nC t.data.toList 0).length /\ acc <= pos) (fun _ w'=>t.size - w'.iterPos w1.heap.size)
    case atStart=>exact ⟨0,0,rfl,rfl,by simp,by omega⟩
    case round =>
      obtain ⟨pos,acc,rfl,rfl,hc,hb'⟩:=hrel
      by_cases hp:pos < t.size
      · have hnx:∀ ty,(Instr.next (.pointer (some ⟨w1.heap.size,0,none⟩)) true ty).run Tryd.prog (w1.iter t pos) = _:=fun ty=>run_next_any w1 t pos ty hp
        go_wp2
        have hne:t.data.toList.drop pos ≠ []:=by intro e;have:=congrArg List.length e;rw [List.length_drop,bM] at this;simp at this;omega
        have hwd:=decodeL_width (t.data.toList.drop pos)
        rw [qW hne,List.drop_drop,decodeL_drop] at hc
        rw [decodeL_drop] at hwd
        refine ⟨⟨pos + (Utf8.decode t pos).2,acc + 1,rfl,rfl,?_,by omega⟩,?_⟩
        · rw [<- hc,List.length_cons]
          simp only [Int.natCast_add]
          omega
        · simp
          omega
      · have hnx:∀ ty,(Instr.next (.pointer (some ⟨w1.heap.size,0,none⟩)) true ty).run Tryd.prog (w1.iter t pos) = _:=fun ty=>run_next_end w1 t pos ty hp
        go_wp2
        go_ret
        have en:t.data.toList.drop pos = []:=by apply List.drop_of_length_le;rw [bM];omega
        rw [en,Fj,List.length_nil,Nat.add_zero] at hc
        rw [hc]
        exact ⟨rfl,hb.alloc hb.size _⟩
  · rw [Bool.eq_false_iff.2 hv] at cV
    have hcd:aN t.data.toList = -1:=by unfold aN;rw [if_neg hv]
    rw [hcd]
    go_enter Tryd.func32,Tryd.ntmps32
    go_wp2_with (go_at_call 78;refine cV.mono ?_;rintro e w1 ⟨rfl,hb⟩)
    go_ret
    exact ⟨rfl,hb⟩
theorem qm (t:ByteArray) (ht:t.size <= 1000000000):aA env 32 [.v (.string t)] (fun r hs=>r = .v (.int .i64 (aN t.data.toList)) /\ hs = []) :=
 Gv fun w hw=>⟨jH Tryd.func32 rfl rfl w,count_walk t ht w hw⟩
end Go.Proofs.YtadlnaljicikfaaDoor.aB
namespace Go.Proofs.YtadlnaljicikfaaDoor.aB
open Go Go.Lib Go.RowKit Go.Shelf
theorem DN {H:Type} {enc:TypeId × Value -> H} {P:Program} {w:World} {base:Nat} {sp:Nat -> Bool} {held:Bool} {fuel:Nat} {t:TypeId} {fs:Array Field} {cs:List Value} {zs:List Bool} {p:List MemPlace} (ht:P.underlying t = some (.struct fs))
   (hf:∀ (i:Nat) (f:Field),fs[i]? = some f -> P.underlying f.type = some .bool /\ f.offset = i /\ P.cellsOf f.type = 1) (hct:P.cellsOf t = fs.size)
   (h:DataW.trod enc P w base sp held fuel t cs = some (.agg (zs.map fun z=>.lit (.bool z)),p)):cs = zs.map fun z=>Value.bool z:=by
 obtain ⟨xs,n,rfl,hx,hl,hxl,hall⟩:=DataW.trod_struct ht h
 have hxs:xs.map (·.1) = zs.map fun z=>(DataW.lit (.bool z):DataW H):=by
   have:=congrArg Prod.fst hx
   simpa using this.symm
 have hzl:zs.length = fs.size:=by
   have:=congrArg List.length hxs
   simp at this
   omega
 apply List.ext_getElem?
 intro i
 by_cases hi:i < fs.size
 · obtain ⟨hu,ho,hc⟩:=hf i fs[i] (by simp [hi])
   have h1:=hall i fs[i] (by simp [hi])
   obtain ⟨b,hb⟩:∃ b,xs[i]? = some b:=⟨xs[i]'(by omega),List.getElem?_eq_getElem (by omega)⟩
   rw [hb,ho,hc] at h1
   obtain ⟨z,hcz,rfl⟩:=DataW.trod_bool hu h1
   have h2:cs[i]? = some (.bool z):=by
     have:=congrArg (·[0]?) hcz
     simpa [List.getElem?_take,List.getElem?_drop] using this
   have h3:(xs.map (·.1))[i]? = some (DataW.lit (.bool z):DataW H):=by simp [hb]
   rw [hxs] at h3
   simp only [List.getElem?_map,Option.map_eq_some_iff,DataW.lit.injEq,Lit.bool.injEq] at h3
   obtain ⟨z',hz',rfl⟩:=h3
   simp [h2,hz']
 · rw [List.getElem?_eq_none (by omega),List.getElem?_eq_none (by simp;omega)]
def BP:DataW Unit:=.agg ([[false,false],[true,true],[false,false],[true,false]].map fun l=>.agg (l.map fun z=>.lit (.bool z)))
def Qw (w:World):Prop:=∀ g cs j z,env.G g = some cs -> cs[j]? = some (.v z) -> w.cell? ⟨g,j,none⟩ = some z
theorem ab6{G:Prop}(h:G:=by
 have:i = 0 ∨ i = 1 ∨ i = 2 ∨ i = 3 ∨ i = 4 ∨ i = 5 ∨ i = 6 ∨ i = 7 ∨ i = 8 ∨ i = 9 ∨ i = 10 ∨ i = 11 ∨ i = 12 ∨ i = 13 ∨ i = 14 ∨ i = 15:=by omega
 rcases this with rfl | rfl | rfl | rfl | rfl | rfl | rfl | rfl | rfl | rfl | rfl | rfl | rfl | rfl | rfl | rfl <;> rfl):G:=h
theorem XJ {w:World} (h0:VarReads Tryd.prog w "epitome/span.kinds" BP) (h1:VarReads Tryd.prog w "unicode/utf8.first" firstData) (h2:VarReads Tryd.prog w "unicode/utf8.acceptRanges" acceptData):Qw w:=by
 have hT:Lib.Utf8Tabs 0 1 w:=utf8Tabs_of_readsT (U8Types.of196 LV) ⟨by kernel_rfl,by kernel_rfl,by kernel_rfl,by kernel_rfl,by kernel_rfl,by kernel_rfl,by kernel_rfl⟩ h1 h2
 intro g cs j z hg hj
 have hg:Xx g = some cs:=hg
 unfold Xx at hg
 split at hg
 · obtain rfl:=Option.some.inj hg
   obtain ⟨g',t,cs',fuel,p,a1,a2,a3,a4⟩:=h0
   obtain rfl:g' = 2:=Option.some.inj (a1.symm.trans (by kernel_rfl))
   obtain rfl:t = 175:=Option.some.inj (a2.symm.trans (by kernel_rfl))
   have key:∀ i,i < 4 -> ∀ zs,([[false,false],[true,true],[false,false],[true,false]]:List (List Bool))[i]? = some zs -> ∀ m,m < 2 -> w.cell? ⟨2,2 * i + m,none⟩ = (zs[m]?).map Value.bool:=by
     intro i hi zs hzs m hm
     obtain ⟨fuel',d,q,hdi,he⟩:=array_elem (n:=4) (e:=143) Tryd.underlying175 a4 i hi
     simp only [List.getElem?_map,hzs,Option.map_some,Option.some.injEq] at hdi
     subst hdi
     have c49:Tryd.prog.cellsOf 143 = 2:=by kernel_rfl
     rw [c49] at he
     have hcs:=DN Tryd.underlying143 (fun j f hj=>by
       match j,hj with
       | 0,hj=>simp at hj;subst hj;exact ⟨Tryd.underlying4,rfl,by kernel_rfl⟩
       | 1,hj=>simp at hj;subst hj;exact ⟨Tryd.underlying4,rfl,by kernel_rfl⟩
       | j + 2,hj=>simp at hj) (by rw [c49];rfl) he
     have e0:=congrArg (·[m]?) hcs
     simp only [List.getElem?_take,List.getElem?_drop,if_pos hm,List.getElem?_map] at e0
     rw [World.var?_cell a1 a3 (2 * i + m),<- Array.getElem?_toList,Nat.mul_comm 2 i]
     exact e0
   have:j < 8:=(List.getElem?_eq_some_iff.1 hj).1
   have hc:j = 2 * 0 + 0 ∨ j = 2 * 0 + 1 ∨ j = 2 * 1 + 0 ∨ j = 2 * 1 + 1 ∨ j = 2 * 2 + 0 ∨ j = 2 * 2 + 1 ∨ j = 2 * 3 + 0 ∨ j = 2 * 3 + 1:=by omega
   rcases hc with rfl | rfl | rfl | rfl | rfl | rfl | rfl | rfl <;> (rw [key _ (by omega) _ rfl _ (by omega)];simp only [Xw] at hj;simp at hj;subst hj;rfl)
 · obtain rfl:=Option.some.inj hg
   have hlt:j < 256:=by have:=(List.getElem?_eq_some_iff.1 hj).1;simpa [Ht] using this
   have:=hT.1 j hlt
   rw [this]
   simp only [Ht,List.getElem?_map,List.getElem?_range hlt,Option.map_some,Option.some.injEq,AV.v.injEq] at hj
   rw [<- hj]
 · obtain rfl:=Option.some.inj hg
   have hlt:j < 32:=by have:=(List.getElem?_eq_some_iff.1 hj).1;simpa [EZ,List.range,List.range.loop] using this
   obtain ⟨b1,b2⟩:=hT.2 (j / 2) (by omega)
   have hc:j = 2 * (j / 2) ∨ j = 2 * (j / 2) + 1:=by omega
   rcases hc with hc | hc
   · rw [hc,b1]
     have:∀ i,i < 16 -> EZ[2 * i]? = some (.v (.int .u8 (Lib.accLo i))):=by
       intro i hi
       refine' ab6
     rw [hc,this _ (by omega)] at hj
     cases hj;rfl
   · rw [hc,b2]
     have:∀ i,i < 16 -> EZ[2 * i + 1]? = some (.v (.int .u8 (Lib.accHi i))):=by
       intro i hi
       refine' ab6
     rw [hc,this _ (by omega)] at hj
     cases hj;rfl
 · cases hg
end Go.Proofs.YtadlnaljicikfaaDoor.aB
namespace Go.Proofs.YtadlnaljicikfaaDoor.aB
open Go
set_option maxRecDepth 100000
attribute [local irreducible] Ev.iE Ev.iG Ev.bW Ev.runK Ev.bY Ev.gq Ev.Side Ev.Wp Ev.Again Ev.To Ev.Fin
open Go.Lib Go.RowKit
@[reducible] def mY (k n:Int) (t:ByteArray):AV:=.agg [.v (.int .i64 k),.v (.int .i64 n),.v (.string t)]
def BQ (k n:Int) (t:ByteArray):Int :=
 if k = 1 ∨ k = 3 then (if n < 0 ∨ 1048576 < n then 2 else if t = ⟨#[]⟩ then 0 else 3)
 else if k = 2 then (if n ≠ 0 then 2 else if validD t.data.toList then 0 else 3) else 1
def qo (k n:Int):Int:=if k = 1 ∨ k = 3 then n else 0
def kW (k n:Int) (t:ByteArray):Int:=if k = 1 then n else if k = 2 then max (aN t.data.toList) 0 else 0
theorem abV:∀ c,Tryd.f143.body = some c -> comp c = (.seq (.reg 0 [I.n 0 1 (.box 35 (.tmp 0)),I.n 1 2 (I.si 0)]) (.seq (.seq (.reg 1 [I.n 0 3 (I.fa 35 1 0),I.n 1 4 (I.ld 3 3),I.n 2 5 (I.bc .eql 3 4 1 3),I.n 3 6 (I.mv 5),I.w 4 7 (I.fa 35 1 0) 6 false,I.w 5 8 (I.ld 3 7) 6 false,I.w 6 9 (I.bc .eql 3 8 3 3) 6 false,I.n 7 10 (I.pb 6 true 9)]) (.cond (.tmp 10) (.seq (.reg 2 [I.n 0 11 (I.fa 35 1 1),I.n 1 12 (I.ld 3 11),I.n 2 2 (I.sa 12)]) .ret) .skip)) (.seq (.reg 3 [I.n 0 2 (I.si 0)]) .ret))):=by
 intro c h
 have:c = Tryd.f143.body.get rfl:=by rw [<- Option.some_inj,<- h];rfl
 rw [this];rfl
theorem abW:∀ c,Tryd.f144.body = some c -> comp c = (.seq (.reg 0 [I.n 0 1 (.box 35 (.tmp 0)),I.n 1 2 (I.si 0)]) (.seq (.seq (.reg 1 [I.n 0 3 (I.fa 35 1 0),I.n 1 4 (I.ld 3 3),I.n 2 5 (I.bc .eql 3 4 1 3)]) (.cond (.tmp 5) (.seq (.reg 2 [I.n 0 6 (I.fa 35 1 1),I.n 1 7 (I.ld 3 6),I.n 2 2 (I.sa 7)]) .ret) .skip)) (.seq (.seq (.reg 3 [I.n 0 8 (I.fa 35 1 0),I.n 1 9 (I.ld 3 8),I.n 2 10 (I.bc .eql 3 9 2 3)]) (.cond (.tmp 10) (.seq (.reg 4 [I.n 0 11 (I.fa 35 1 2),I.n 1 12 (I.ld 9 11),I.n 2 13 (I.c1 70 12 9),I.n 3 14 (.call { callee:=.builtin .max,args:=#[.tmp 13,.const (Value.int .i64 0)],argTypes:=#[3,3] }),I.n 4 2 (I.sa 14)]) .ret) .skip)) (.seq (.reg 5 [I.n 0 2 (I.si 0)]) .ret)))):=by
 intro c h
 have:c = Tryd.f144.body.get rfl:=by rw [<- Option.some_inj,<- h];rfl
 rw [this];rfl
theorem abX:∀ c,Tryd.f142.body = some c -> comp c = (.seq (.reg 0 [I.n 0 1 (.box 35 (.tmp 0)),I.n 1 2 (I.si 0)]) (.seq (.seq (.reg 1 [I.n 0 3 (I.fa 35 1 0),I.n 1 4 (I.ld 3 3)]) (.block 0 (.seq (.seq (.reg 2 [I.n 0 6 (I.bc .eql 3 4 1 3),I.n 1 5 (I.sa 6)]) (.cond (.tmp 5) .skip (.reg 3 [I.n 0 7 (I.bc .eql 3 4 3 3),I.n 1 5 (I.sa 7)]))) (.cond (.tmp 5) (.seq (.seq (.reg 4 [I.n 0 8 (I.fa 35 1 1),I.n 1 9 (I.ld 3 8),I.n 2 10 (I.bc .lss 3 9 0 3),I.n 3 11 (I.mv 10),I.w 4 12 (I.fa 35 1 1) 11 false,I.w 5 13 (I.ld 3 12) 11 false,I.w 6 14 (I.bc .gtr 3 13 1048576 3) 11 false,I.n 7 15 (I.pb 11 true 14)]) (.cond (.tmp 15) (.seq (.reg 5 [I.n 0 2 (I.si 2)]) .ret) .skip)) (.seq (.seq (.reg 6 [I.n 0 16 (I.fa 35 1 2),I.n 1 17 (I.ld 9 16),I.n 2 18 (.binOp .neq 9 (.tmp 17) (.const (Value.string { data:=#[] })) 9)]) (.cond (.tmp 18) (.seq (.reg 7 [I.n 0 2 (I.si 3)]) .ret) .skip)) (.seq (.reg 8 [I.n 0 2 (I.si 0)]) .ret))) (.seq (.reg 9 [I.n 0 20 (I.bc .eql 3 4 2 3),I.n 1 19 (I.sa 20)]) (.cond (.tmp 19) (.seq (.seq (.reg 10 [I.n 0 21 (I.fa 35 1 1),I.n 1 22 (I.ld 3 21),I.n 2 23 (I.bc .neq 3 22 0 3)]) (.cond (.tmp 23) (.seq (.reg 11 [I.n 0 2 (I.si 2)]) .ret) .skip)) (.seq (.seq (.reg 12 [I.n 0 24 (I.fa 35 1 2),I.n 1 25 (I.ld 9 24),I.n 2 26 (I.c1 99 25 9),I.n 3 27 (.unOp .not 4 (.tmp 26))]) (.cond (.tmp 27) (.seq (.reg 13 [I.n 0 2 (I.si 3)]) .ret) .skip)) (.seq (.reg 14 [I.n 0 2 (I.si 0)]) .ret))) .skip)))))) (.seq (.reg 15 [I.n 0 2 (I.si 1)]) .ret))):=by
 intro c h
 have:c = Tryd.f142.body.get rfl:=by rw [<- Option.some_inj,<- h];rfl
 rw [this];rfl
theorem abY:∀ c,Tryd.f123.body = some c -> comp c = (.seq (.reg 0 [I.n 0 1 (.box 35 (.tmp 0)),I.n 1 2 (.alloc 143),I.n 2 3 (I.sb false)]) (.seq (.seq (.reg 1 [I.n 0 4 (I.fa 35 1 0),I.n 1 5 (I.ld 3 4),I.n 2 6 (I.bc .lss 3 5 1 3),I.n 3 7 (I.mv 6),I.w 4 8 (I.fa 35 1 0) 7 false,I.w 5 9 (I.ld 3 8) 7 false,I.w 6 10 (I.bc .gtr 3 9 3 3) 7 false,I.n 7 11 (I.pb 7 true 10)]) (.cond (.tmp 11) (.seq (.reg 2 [I.n 0 12 (.build 143 #[]),I.u 1 (I.st 143 2 12),I.n 2 3 (I.sb false)]) .ret) .skip)) (.seq (.reg 3 [I.n 0 13 (I.fa 35 1 0),I.n 1 14 (I.ld 3 13),I.n 2 15 (.indexAddr 175 (.global 2) (.tmp 14)),I.n 3 16 (I.ld 143 15),I.u 4 (I.st 143 2 16),I.n 5 3 (I.sb true)]) .ret))):=by
 intro c h
 have:c = Tryd.f123.body.get rfl:=by rw [<- Option.some_inj,<- h];rfl
 rw [this];rfl
theorem abZ:∀ c,Tryd.f120.body = some c -> comp c = (.seq (.reg 0 [I.n 0 1 (.box 35 (.tmp 0)),I.n 1 2 (I.si 0)]) (.seq (.seq (.reg 1 [I.n 0 6 (I.ld 35 1),I.n 1 7 (I.c1 123 6 35),I.n 2 5 (I.mv 7),I.n 3 8 (I.ex 5 0),I.n 4 9 (I.ex 5 1),I.n 5 3 (.alloc 143),I.u 6 (I.st 143 3 8),I.n 7 4 (I.sa 9)]) (.seq (.reg 2 [I.n 0 10 (I.fa 143 3 0),I.n 1 11 (I.ld 4 10)]) (.cond (.tmp 11) (.seq (.reg 3 [I.n 0 12 (I.fa 35 1 1),I.n 1 13 (I.ld 3 12),I.n 2 2 (I.sa 13)]) .ret) .skip))) (.seq (.reg 4 [I.n 0 2 (I.si 0)]) .ret))):=by
 intro c h
 have:c = Tryd.f120.body.get rfl:=by rw [<- Option.some_inj,<- h];rfl
 rw [this];rfl
theorem ai2:∀ c,Tryd.f82.body = some c -> comp c = (.seq (.reg 0 [I.n 0 1 (.box 35 (.tmp 0)),I.n 1 2 (I.si 0)]) (.seq (.reg 1 [I.n 0 6 (I.ld 35 1),I.n 1 7 (I.c1 123 6 35),I.n 2 5 (I.mv 7),I.n 3 8 (I.ex 5 0),I.n 4 9 (I.ex 5 1),I.n 5 3 (.alloc 143),I.u 6 (I.st 143 3 8),I.n 7 4 (I.sa 9)]) (.seq (.block 0 (.seq (.reg 2 [I.n 0 11 (I.fa 143 3 1),I.n 1 12 (I.ld 4 11),I.n 2 10 (I.sa 12)]) (.cond (.tmp 10) (.seq (.reg 3 [I.n 0 13 (I.fa 35 1 1),I.n 1 14 (I.ld 3 13),I.n 2 2 (I.sa 14)]) .ret) (.seq (.reg 4 [I.n 0 16 (I.fa 35 1 0),I.n 1 17 (I.ld 3 16),I.n 2 18 (I.bc .eql 3 17 2 3),I.n 3 15 (I.sa 18)]) (.cond (.tmp 15) (.seq (.reg 5 [I.n 0 19 (I.fa 35 1 2),I.n 1 20 (I.ld 9 19),I.n 2 21 (I.c1 32 20 9),I.n 3 22 (.call { callee:=.builtin .max,args:=#[.tmp 21,.const (Value.int .i64 0)],argTypes:=#[3,3] }),I.n 4 2 (I.sa 22)]) .ret) .skip))))) (.seq (.reg 6 [I.n 0 2 (I.si 0)]) .ret)))):=by
 intro c h
 have:c = Tryd.f82.body.get rfl:=by rw [<- Option.some_inj,<- h];rfl
 rw [this];rfl
theorem acA:∀ c,Tryd.f118.body = some c -> comp c = (.seq (.reg 0 [I.n 0 1 (.box 35 (.tmp 0)),I.n 1 2 (I.si 0)]) (.seq (.reg 1 [I.n 0 6 (I.ld 35 1),I.n 1 7 (I.c1 123 6 35),I.n 2 5 (I.mv 7),I.n 3 8 (I.ex 5 0),I.n 4 9 (I.ex 5 1),I.n 5 3 (.alloc 143),I.u 6 (I.st 143 3 8),I.n 7 4 (I.sa 9)]) (.seq (.block 0 (.seq (.reg 2 [I.n 0 11 (I.mv 4),I.n 1 12 (.unOp .not 4 (.tmp 11)),I.n 2 10 (I.sa 12)]) (.cond (.tmp 10) (.seq (.reg 3 [I.n 0 2 (I.si 1)]) .ret) (.seq (.seq (.reg 4 [I.n 0 14 (I.fa 143 3 0),I.n 1 15 (I.ld 4 14),I.n 2 16 (I.mv 15),I.w 3 17 (I.fa 35 1 1) 16 true,I.w 4 18 (I.ld 3 17) 16 true,I.w 5 19 (I.bc .lss 3 18 0 3) 16 true,I.w 6 20 (I.mv 19) 16 true,I.w 7 21 (I.fa 35 1 1) 20 false,I.w 8 22 (I.ld 3 21) 20 false,I.w 9 23 (I.bc .gtr 3 22 1048576 3) 20 false,I.w 10 24 (I.pb 20 true 23) 16 true,I.n 11 25 (I.pc 16 24 false),I.n 12 13 (I.sa 25)]) (.cond (.tmp 13) .skip (.reg 5 [I.n 0 26 (I.fa 143 3 0),I.n 1 27 (I.ld 4 26),I.n 2 28 (.unOp .not 4 (.tmp 27)),I.n 3 29 (I.mv 28),I.w 4 30 (I.fa 35 1 1) 29 true,I.w 5 31 (I.ld 3 30) 29 true,I.w 6 32 (I.bc .neq 3 31 0 3) 29 true,I.n 7 33 (I.pc 29 32 false),I.n 8 13 (I.sa 33)]))) (.cond (.tmp 13) (.seq (.reg 6 [I.n 0 2 (I.si 2)]) .ret) (.seq (.seq (.reg 7 [I.n 0 35 (I.fa 143 3 0),I.n 1 36 (I.ld 4 35),I.n 2 37 (I.mv 36),I.w 3 38 (I.fa 35 1 2) 37 true,I.w 4 39 (I.ld 9 38) 37 true,I.w 5 40 (.binOp .neq 9 (.tmp 39) (.const (Value.string { data:=#[] })) 9) 37 true,I.n 6 41 (I.pc 37 40 false),I.n 7 34 (I.sa 41)]) (.cond (.tmp 34) .skip (.reg 8 [I.n 0 42 (I.fa 35 1 2),I.n 1 43 (I.ld 9 42),I.n 2 44 (I.c1 78 43 9),I.n 3 45 (.unOp .not 4 (.tmp 44)),I.n 4 34 (I.sa 45)]))) (.cond (.tmp 34) (.seq (.reg 9 [I.n 0 2 (I.si 3)]) .ret) .skip))))))) (.seq (.reg 10 [I.n 0 2 (I.si 0)]) .ret)))):=by
 intro c h
 have:c = Tryd.f118.body.get rfl:=by rw [<- Option.some_inj,<- h];rfl
 rw [this];rfl
theorem Fp (k n:Int) (t:ByteArray):aA env 143 [mY k n t] (fun r hs=>r = .v (.int .i64 (qo k n)) /\ hs = []):=by
 refine Ev.fn [0,1,2,10] 0 [.tmp 2] Tryd.func143 (abV _ rfl) ?_
 refine' aau
 all_goals (refine ⟨congrArg (fun z=>AV.v (Value.int IntKind.i64 z)) ?_,rfl⟩;unfold qo;split <;> omega)
theorem UL (k n:Int) (t:ByteArray) (ht:t.size <= 1000000000):aA env 144 [mY k n t] (fun r hs=>r = .v (.int .i64 (kW k n t)) /\ hs = []):=by
 refine Ev.fn [0,1,2,5,10] 0 [.tmp 2] Tryd.func144 (abW _ rfl) ?_
 repeat' (first | refine' Ev.Fg | refine' Ev.zK | ((refine Ev.aT (jq t ht) rfl rfl ?_);conv=>whnf) | refine' Ev.zU | fail)
 all_goals (refine ⟨congrArg (fun z=>AV.v (Value.int IntKind.i64 z)) ?_,rfl⟩;unfold kW;simp only [*,if_true,if_false,reduceIte,Int.reduceEq])
theorem UM (k n:Int) (t:ByteArray) (ht:t.size <= 1000000000):aA env 142 [mY k n t] (fun r hs=>r = .v (.int .i64 (BQ k n t)) /\ hs = []):=by
 refine Ev.fn [0,1,2,4,5,15,18,19,23,27] 0 [.tmp 2] Tryd.func142 (abX _ rfl) ?_
 repeat' (first | refine' Ev.Fg | refine' Ev.zK | ((refine Ev.aT (vH t ht) rfl rfl ?_);conv=>whnf) | refine' Ev.zU | fail)
 all_goals first
   | (exfalso;omega)
   | (refine ⟨congrArg (fun z=>AV.v (Value.int IntKind.i64 z)) ?_,rfl⟩;unfold BQ;simp [*])
theorem adl{G:Prop}(h:G:=by
 refine Ev.fn [0,1,2,3,11] 0 [.cell 2 143,.tmp 3] Tryd.func123 (abY _ rfl) ?_
 refine' aau
 all_goals(rcases(⟨_⟩:PLift _)with⟨h⟩;exact h)):G:=h
theorem JH (k n:Int) (t:ByteArray):aA env 123 [mY k n t] (fun r hs=>r = .dB [.agg [.v (.bool (decide (k = 1 ∨ k = 3))),.v (.bool (decide (k = 1)))],.v (.bool (decide (1 <= k /\ k <= 3)))] /\ hs = []):=by
 have hk:k = 1 ∨ k = 2 ∨ k = 3 ∨ k < 1 ∨ 3 < k:=by omega
 rcases hk with rfl | rfl | rfl | hk
 · refine' adl
   all_goals first | (exfalso;omega) | exact ⟨rfl,rfl⟩ | (refine Ev.Side.of ?_;decide)
 · refine' adl
   all_goals first | (exfalso;omega) | exact ⟨rfl,rfl⟩ | (refine Ev.Side.of ?_;decide)
 · refine' adl
   all_goals first | (exfalso;omega) | exact ⟨rfl,rfl⟩ | (refine Ev.Side.of ?_;decide)
 · rw [decide_eq_false (p:=k = 1 ∨ k = 3) (by omega),decide_eq_false (p:=k = 1) (by omega),decide_eq_false (p:=1 <= k /\ k <= 3) (by omega)]
   refine' adl
   all_goals first | exact ⟨rfl,rfl⟩ | (exfalso;omega)
theorem acB (k n:Int) (t:ByteArray):aA env 120 [mY k n t] (fun r hs=>r = .v (.int .i64 (qo k n)) /\ hs = []):=by
 refine Ev.fn [0,1,2,3,11] 0 [.tmp 2] Tryd.func120 (abZ _ rfl) ?_
 repeat' (first | refine' Ev.Fg | refine' Ev.zK | ((refine Ev.aT (JH k n t) rfl rfl ?_);conv=>whnf) | refine' Ev.zU | fail)
 all_goals first
   | (exfalso;omega)
   | (refine ⟨congrArg (fun z=>AV.v (Value.int IntKind.i64 z)) ?_,rfl⟩;unfold qo;simp [*])
theorem vJ (k n:Int) (t:ByteArray) (ht:t.size <= 1000000000):aA env 82 [mY k n t] (fun r hs=>r = .v (.int .i64 (kW k n t)) /\ hs = []):=by
 refine Ev.fn [0,1,2,3,10,15] 0 [.tmp 2] Tryd.func82 (ai2 _ rfl) ?_
 repeat' (first | refine' Ev.Fg | refine' Ev.zK | ((refine Ev.aT (JH k n t) rfl rfl ?_);conv=>whnf) | ((refine Ev.aT (qm t ht) rfl rfl ?_);conv=>whnf) | refine' Ev.zU | fail)
 all_goals first
   | (exfalso;omega)
   | (refine ⟨congrArg (fun z=>AV.v (Value.int IntKind.i64 z)) ?_,rfl⟩;unfold kW;simp [*])
theorem XK (k n:Int) (t:ByteArray) (ht:t.size <= 1000000000):aA env 118 [mY k n t] (fun r hs=>r = .v (.int .i64 (BQ k n t)) /\ hs = []):=by
 refine Ev.fn [0,1,2,3,4,10,13,34] 0 [.tmp 2] Tryd.func118 (acA _ rfl) ?_
 repeat' (first | refine' Ev.Fg | refine' Ev.zK | ((refine Ev.aT (JH k n t) rfl rfl ?_);conv=>whnf) | ((refine Ev.aT (vI t ht) rfl rfl ?_);conv=>whnf) | refine' Ev.zU | fail)
 all_goals first
   | (exfalso;omega)
   | (refine ⟨congrArg (fun z=>AV.v (Value.int IntKind.i64 z)) ?_,rfl⟩;unfold BQ;simp [*];done)
   | (obtain rfl:k = 2:=by omega
      refine ⟨congrArg (fun z=>AV.v (Value.int IntKind.i64 z)) ?_,rfl⟩;unfold BQ;simp [*];done)
   | (refine ⟨congrArg (fun z=>AV.v (Value.int IntKind.i64 z)) ?_,rfl⟩;unfold BQ;rw [if_neg (by omega),if_neg (by omega)];done)
   | (rename_i ht' hv;subst ht';exact absurd hv (by decide))
def KJ (l:List Int):List (List AV):=l.map fun n=>[.v (.int .i32 n)]
def Zd (l:List Int):List (List AV):=l.map fun n=>[.v (.int .u8 n)]
def encI (n:Int):List Int :=
 if jo n = 1 then [n] else if jo n = 2 then [192 + n / 64,128 + n % 64] else if jo n = 3 then [224 + n / 4096,128 + n / 64 % 64,128 + n % 64]
 else if jo n = 4 then [240 + n / 262144,128 + n / 4096 % 64,128 + n / 64 % 64,128 + n % 64] else []
def acC (l:List Int):ByteArray:=⟨(l.map fun n=>UInt8.ofNat n.toNat).toArray⟩
theorem Qy:∀ l:List Int,(Zd l).mapM toByte = some (l.map fun n=>UInt8.ofNat n.toNat)
 | []=>rfl
 | n :: l=>by
   have:=Qy l
   simp only [Zd] at this ⊢
   simp only [List.map_cons,List.mapM_cons,this,toByte];rfl
theorem w1 {n:Int} (h:0 <= n /\ n < 128):IntKind.u8.wrap n = n:=by rw [Ev.G8];omega
theorem wa {n c b:Int} (hn:0 <= n) (hb:0 <= c /\ c + n / b < 256 /\ 0 <= n / b):IntKind.u8.wrap (IntKind.i64.wrap (c + IntKind.i64.wrap (n.tdiv b))) = c + n / b:=by
 rw [Int.tdiv_eq_ediv_of_nonneg hn,Ev.wrap64,Ev.wrap64,Ev.G8];omega
theorem wb {n:Int} (hn:0 <= n):IntKind.u8.wrap (IntKind.i64.wrap (128 + n.tmod 64)) = 128 + n % 64:=by
 rw [Int.tmod_eq_emod_of_nonneg hn,Ev.wrap64,Ev.G8];omega
theorem wc {n b:Int} (hn:0 <= n) (hb:0 <= n / b /\ n / b < 1114112):IntKind.u8.wrap (IntKind.i64.wrap (128 + (IntKind.i64.wrap (n.tdiv b)).tmod 64)) = 128 + n / b % 64:=by
 have e:IntKind.i64.wrap (n.tdiv b) = n / b:=by rw [Int.tdiv_eq_ediv_of_nonneg hn,Ev.wrap64];omega
 rw [e,wb hb.1]
theorem acD {n m:Int} (h:jo n = m) (hm:0 < m):0 <= n /\ n < 1114112 /\ (m = 1 -> n < 128) /\ (m = 2 -> n < 2048) /\ (m = 3 -> n < 65536):=by
 unfold jo at h;omega
theorem ai3:∀ c,Tryd.f84.body = some c -> comp c = (.seq (.reg 0 [I.n 0 2 (.assign (.const (Value.string { data:=#[] })))]) (.seq (.reg 1 [I.n 0 6 (.buildSlice 56 0 #[]),I.n 1 3 (I.sa 6)]) (.seq (.seq (.reg 2 [I.n 0 4 (I.si 0)]) (.block 0 (.loop (.seq (.seq (.reg 3 [I.n 0 7 (I.mv 4),I.n 1 8 (I.mv 0),I.n 2 9 (I.ln 8 115),I.n 3 10 (I.bo .lss 3 7 9 3)]) (.cond (.tmp 10) .skip (.exit 0))) (.seq (.block 1 (.seq (.reg 5 [I.n 0 13 (I.mv 0),I.n 1 14 (I.mv 4),I.n 2 15 (I.ia 115 13 14),I.n 3 16 (I.ld 21 15),I.n 4 17 (I.cv 21 3 16),I.n 5 5 (I.sa 17)]) (.seq (.reg 6 [I.n 0 18 (I.mv 5),I.n 1 19 (I.c1 124 18 3)]) (.block 2 (.seq (.reg 7 [I.n 0 21 (I.bc .eql 3 19 1 3),I.n 1 20 (I.sa 21)]) (.cond (.tmp 20) (.reg 8 [I.n 0 22 (I.mv 3),I.n 1 23 (I.mv 5),I.n 2 24 (I.cv 3 5 23),I.n 3 25 (I.b1 56 24),I.n 4 26 (I.ap 22 25 56 56),I.n 5 3 (I.sa 26)]) (.seq (.reg 9 [I.n 0 28 (I.bc .eql 3 19 2 3),I.n 1 27 (I.sa 28)]) (.cond (.tmp 27) (.reg 10 [I.n 0 29 (I.mv 3),I.n 1 30 (I.mv 5),I.n 2 31 (I.bc .quo 3 30 64 3),I.n 3 32 (.binOp .add 3 (.const (Value.int .i64 192)) (.tmp 31) 3),I.n 4 33 (I.cv 3 5 32),I.n 5 34 (I.mv 5),I.n 6 35 (I.bc .rem 3 34 64 3),I.n 7 36 (.binOp .add 3 (.const (Value.int .i64 128)) (.tmp 35) 3),I.n 8 37 (I.cv 3 5 36),I.n 9 38 (.buildSlice 56 2 #[(0,.tmp 33),(1,.tmp 37)]),I.n 10 39 (I.ap 29 38 56 56),I.n 11 3 (I.sa 39)]) (.seq (.reg 11 [I.n 0 41 (I.bc .eql 3 19 3 3),I.n 1 40 (I.sa 41)]) (.cond (.tmp 40) (.reg 12 [I.n 0 42 (I.mv 3),I.n 1 43 (I.mv 5),I.n 2 44 (I.bc .quo 3 43 4096 3),I.n 3 45 (.binOp .add 3 (.const (Value.int .i64 224)) (.tmp 44) 3),I.n 4 46 (I.cv 3 5 45),I.n 5 47 (I.mv 5),I.n 6 48 (I.bc .quo 3 47 64 3),I.n 7 49 (I.bc .rem 3 48 64 3),I.n 8 50 (.binOp .add 3 (.const (Value.int .i64 128)) (.tmp 49) 3),I.n 9 51 (I.cv 3 5 50),I.n 10 52 (I.mv 5),I.n 11 53 (I.bc .rem 3 52 64 3),I.n 12 54 (.binOp .add 3 (.const (Value.int .i64 128)) (.tmp 53) 3),I.n 13 55 (I.cv 3 5 54),I.n 14 56 (.buildSlice 56 3 #[(0,.tmp 46),(1,.tmp 51),(2,.tmp 55)]),I.n 15 57 (I.ap 42 56 56 56),I.n 16 3 (I.sa 57)]) (.seq (.reg 13 [I.n 0 59 (I.bc .eql 3 19 4 3),I.n 1 58 (I.sa 59)]) (.cond (.tmp 58) (.reg 14 [I.n 0 60 (I.mv 3),I.n 1 61 (I.mv 5),I.n 2 62 (I.bc .quo 3 61 262144 3),I.n 3 63 (.binOp .add 3 (.const (Value.int .i64 240)) (.tmp 62) 3),I.n 4 64 (I.cv 3 5 63),I.n 5 65 (I.mv 5),I.n 6 66 (I.bc .quo 3 65 4096 3),I.n 7 67 (I.bc .rem 3 66 64 3),I.n 8 68 (.binOp .add 3 (.const (Value.int .i64 128)) (.tmp 67) 3),I.n 9 69 (I.cv 3 5 68),I.n 10 70 (I.mv 5),I.n 11 71 (I.bc .quo 3 70 64 3),I.n 12 72 (I.bc .rem 3 71 64 3),I.n 13 73 (.binOp .add 3 (.const (Value.int .i64 128)) (.tmp 72) 3),I.n 14 74 (I.cv 3 5 73),I.n 15 75 (I.mv 5),I.n 16 76 (I.bc .rem 3 75 64 3),I.n 17 77 (.binOp .add 3 (.const (Value.int .i64 128)) (.tmp 76) 3),I.n 18 78 (I.cv 3 5 77),I.n 19 79 (.buildSlice 56 4 #[(0,.tmp 64),(1,.tmp 69),(2,.tmp 74),(3,.tmp 78)]),I.n 20 80 (I.ap 60 79 56 56),I.n 21 3 (I.sa 80)]) .skip)))))))))))) (.reg 4 [I.n 0 11 (I.mv 4),I.n 1 12 (I.bc .add 3 11 1 3),I.n 2 4 (I.sa 12)])))))) (.seq (.reg 15 [I.n 0 81 (I.mv 3),I.n 1 82 (I.cv 56 9 81),I.n 2 2 (I.sa 82)]) .ret)))):=by
 intro c h
 have:c = Tryd.f84.body.get rfl:=by rw [<- Option.some_inj,<- h];rfl
 rw [this];rfl
theorem aaj{G:Prop}(h:G:=by (refine Ev.again (k - 1) ⟨[(0,_),(2,_),(3,.own 512 (c + 8) 0 (out ++ encI l[i]).length),(4,.v (.int .i64 ((i + 1:Nat):Int)))],[(512,⟨1,5,c + 8,0,false,Zd (out ++ encI l[i])⟩)],c + 8 + 8⟩ (by omega) ⟨rfl,rfl,Ev.aj rfl ?_,Ev.eG rfl (by rw [Ev.wrap64];omega),trivial⟩ ⟨Ev.aj rfl ?_,trivial⟩ (Nat.le_refl _) ⟨i + 1,c + 8,c + 8 + 8,out ++ encI l[i],rfl,by omega,?_,?_⟩);all_goals(rcases(⟨_⟩:PLift _)with⟨h⟩;exact h)):G:=h
theorem aar{G:Prop}(h:G:=by
 have hi':i < l.length:=by simpa using hi
 have hn:IntKind.i64.wrap (l[(↑i:Int).toNat]'hi) = l[i]:=by
   simp only [Int.toNat_natCast];rw [Ev.wrap64];have:=h32 _ (List.getElem_mem hi');omega
 all_goals(rcases(⟨_⟩:PLift _)with⟨h⟩;exact h)):G:=h
theorem VD{G:Prop}(h:G:=by exact Ev.Side.of (by decide)):G:=h
theorem ab2{G:Prop}(h:G:=by
 rw [he]
 simp only [aG.mk.injEq,true_and,and_true,List.drop_zero,Zd,List.map_append,List.map_cons,List.map_nil,List.take_succ_cons,List.take_zero,hn]
 all_goals(rcases(⟨_⟩:PLift _)with⟨h⟩;exact h)):G:=h
theorem acd{G:Prop}(h:G:=by
 refine Ev.Side.of ?_
 have hm:2000000003 <= maxLen:=by decide
 have hi':i < l.length:=by simpa using hi
 simp [Zd]
 omega):G:=h
theorem ad1{G:Prop}(h:G:=by rw [ho,List.take_succ_eq_append_getElem hi',List.flatMap_append];simp):G:=h
theorem agm{G:Prop}(h:G:=by rw [he,List.length_append];simp;omega):G:=h
theorem agy{G:Prop}(h:G:=by (obtain ⟨b0,b1,b2,b3,b4⟩:=acD hz (by decide));all_goals(rcases(⟨_⟩:PLift _)with⟨h⟩;exact h)):G:=h
theorem acE (l:List Int) (hl:l.length <= 1000000) (h32:∀ n ∈ l,-2147483648 <= n /\ n < 2147483648):aA env 84 [.lst 1 (KJ l)] (fun r hs=>r = .v (.string (acC (l.flatMap encI))) /\ hs = []):=by
 refine Ev.fn [0,2,3,4,5,10,19,20,27,40,58] 0 [.tmp 2] Tryd.func84 (ai3 _ rfl) ?_
 repeat' (first | refine' Ev.Fg | refine' Ev.zK | refine' Ev.zU | fail)
 refine Ev.loop (fun k s=>∃ (i v c:Nat) (out:List Int),s = ⟨[(0,.lst 1 (KJ l)),(2,.v (.string ⟨#[]⟩)),(3,.own 512 v 0 out.length),(4,.v (.int .i64 i))],[(512,⟨1,5,v,0,false,Zd out⟩)],c⟩ /\
     k + i = l.length /\ out = (l.take i).flatMap encI /\ out.length <= 4 * i) ?_ ?_
 · exact Ev.to ⟨[(0,_),(2,_),(3,.own 512 0 0 0),(4,.v (.int .i64 ((0:Nat):Int)))],[(512,⟨1,5,0,0,false,Zd []⟩)],8⟩ ⟨rfl,rfl,rfl,rfl,trivial⟩ ⟨rfl,trivial⟩ (Nat.le_refl _) ⟨l.length,0,0,8,[],rfl,by omega,rfl,by simp⟩
 rintro k s1 ⟨i,v,c,out,rfl,hk,ho,hb⟩
 repeat' (first | refine' Ev.Fg | refine' Ev.zK | ((refine Ev.aT (H8 _) rfl rfl ?_);conv=>whnf) | ((refine Ev.BD ?_ (fun hi=>?_);rotate_left);conv=>whnf) | refine' Ev.zU | fail)
 · refine' aar
   have hz:jo l[i] = 1:=by rw [<- hn];assumption
   refine' agy
   have he:encI l[i] = [l[i]]:=by unfold encI;simp [hz]
   refine' aaj
   · rw [he];simp
   · refine' ab2
     simp only [w1 (n:=l[i]) ⟨b0,by omega⟩,wb b0,wc (n:=l[i]) (b:=64) b0 (by omega),wc (n:=l[i]) (b:=4096) b0 (by omega)]
   · refine' ad1
   · refine' agm
 · refine' acd
 · refine' aar
   have hz:jo l[i] = 2:=by rw [<- hn];assumption
   refine' agy
   have he:encI l[i] = [192 + l[i] / 64,128 + l[i] % 64]:=by unfold encI;simp [hz]
   refine' aaj
   · rw [he];simp
   · refine' ab2
     simp only [wa (n:=l[i]) (c:=192) (b:=64) b0 (by omega),wa (n:=l[i]) (c:=224) (b:=4096) b0 (by omega),wa (n:=l[i]) (c:=240) (b:=262144) b0 (by omega),wb b0,wc (n:=l[i]) (b:=64) b0 (by omega),wc (n:=l[i]) (b:=4096) b0 (by omega)]
   · refine' ad1
   · refine' agm
 · refine' acd
 · refine' VD
 · refine' VD
 · refine' aar
   have hz:jo l[i] = 3:=by rw [<- hn];assumption
   refine' agy
   have he:encI l[i] = [224 + l[i] / 4096,128 + l[i] / 64 % 64,128 + l[i] % 64]:=by unfold encI;simp [hz]
   refine' aaj
   · rw [he];simp
   · refine' ab2
     simp only [wa (n:=l[i]) (c:=224) (b:=4096) b0 (by omega),wa (n:=l[i]) (c:=240) (b:=262144) b0 (by omega),wb b0,wc (n:=l[i]) (b:=64) b0 (by omega),wc (n:=l[i]) (b:=4096) b0 (by omega)]
   · refine' ad1
   · refine' agm
 · refine' acd
 · refine' VD
 · refine' VD
 · refine' VD
 · refine' VD
 · refine' aar
   have hz:jo l[i] = 4:=by rw [<- hn];assumption
   refine' agy
   have he:encI l[i] = [240 + l[i] / 262144,128 + l[i] / 4096 % 64,128 + l[i] / 64 % 64,128 + l[i] % 64]:=by unfold encI;simp [hz]
   refine' aaj
   · rw [he];simp
   · refine' ab2
     simp only [wa (n:=l[i]) (c:=240) (b:=262144) b0 (by omega),wb b0,wc (n:=l[i]) (b:=64) b0 (by omega),wc (n:=l[i]) (b:=4096) b0 (by omega)]
   · refine' ad1
   · refine' agm
 · refine' acd
 · refine' VD
 · refine' VD
 · refine' VD
 · refine' VD
 · refine' VD
 · refine' VD
 · refine' aar
   rename_i z1 z2 z3 z4
   simp only [hn] at z1 z2 z3 z4
   have he:encI l[i] = []:=by unfold encI;simp [z1,z2,z3,z4]
   refine Ev.again (k - 1) ⟨[(0,_),(2,_),(3,_),(4,.v (.int .i64 ((i + 1:Nat):Int)))],[(512,_)],_⟩ (by omega) ⟨rfl,rfl,rfl,Ev.eG rfl (by rw [Ev.wrap64];omega),trivial⟩ ⟨rfl,trivial⟩ (Nat.le_refl _) ⟨i + 1,v,c,out,rfl,by omega,?_,by omega⟩
   rw [ho,List.take_succ_eq_append_getElem hi',List.flatMap_append];simp [he]
 · refine Ev.Side.of ?_
   rename_i hlt
   simp only [KJ,List.length_map] at hlt;omega
 · refine Ev.Side.of ?_
   rename_i hlt
   omega
 · rename_i hlt
   have ei:i = l.length:=by simp only [KJ,List.length_map] at hlt;omega
   have e:List.mapM toByte (List.take out.length (List.drop 0 (Zd out))) = some (out.map fun n=>UInt8.ofNat n.toNat):=by
     rw [List.drop_zero,List.take_of_length_le (by simp [Zd])];exact Qy out
   refine Ev.GX _ e ?_
   conv=>whnf
   repeat' (first | refine' Ev.Fg | refine' Ev.zK | refine' Ev.zU | fail)
   subst ho;subst ei
   rw [List.take_of_length_le (Nat.le_refl _)]
   exact ⟨rfl,rfl⟩
 · refine Ev.Side.of ?_;simp [Zd]
def eight (r:Int):Int:=([97,98,99,120,121,233,8364,128512]:List Int).getD r.toNat 0
def kF (t:ByteArray) (k:Nat):List Int:=(List.range k).map fun i=>eight (Ev.iL t i % 8)
theorem kL (t:ByteArray) (k:Nat):kF t (k + 1) = kF t k ++ [eight (Ev.iL t k % 8)]:=by simp [kF,List.range_succ]
theorem vK (t:ByteArray) (k:Nat):(kF t k).length = k:=by simp [kF]
theorem LW {t:ByteArray} {k:Nat} {n:Int} (h:n ∈ kF t k):n = 97 ∨ n = 98 ∨ n = 99 ∨ n = 120 ∨ n = 121 ∨ n = 233 ∨ n = 8364 ∨ n = 128512:=by
 simp only [kF,List.mem_map] at h
 obtain ⟨i,_,rfl⟩:=h
 have:Ev.iL t i % 8 = 0 ∨ Ev.iL t i % 8 = 1 ∨ Ev.iL t i % 8 = 2 ∨ Ev.iL t i % 8 = 3 ∨ Ev.iL t i % 8 = 4 ∨ Ev.iL t i % 8 = 5 ∨ Ev.iL t i % 8 = 6 ∨ Ev.iL t i % 8 = 7:=by omega
 rcases this with h | h | h | h | h | h | h | h <;> rw [h] <;> simp [eight]
def lM (t:ByteArray):ByteArray:=acC ((kF t t.size).flatMap encI)
theorem ai4:∀ c,Tryd.f37.body = some c -> comp c = (.seq (.reg 0 [I.n 0 2 (.assign (.const (Value.string { data:=#[] })))]) (.seq (.reg 1 [I.n 0 6 (.build 114 #[(0,.const (Value.int .i32 97)),(1,.const (Value.int .i32 98)),(2,.const (Value.int .i32 99)),(3,.const (Value.int .i32 120)),(4,.const (Value.int .i32 121)),(5,.const (Value.int .i32 233)),(6,.const (Value.int .i32 8364)),(7,.const (Value.int .i32 128512))]),I.n 1 3 (.alloc 114),I.u 2 (I.st 114 3 6)]) (.seq (.reg 2 [I.n 0 7 (.buildSlice 115 0 #[]),I.n 1 4 (I.sa 7)]) (.seq (.seq (.reg 3 [I.n 0 5 (I.si 0)]) (.block 0 (.loop (.seq (.seq (.reg 4 [I.n 0 8 (I.mv 5),I.n 1 9 (I.mv 0),I.n 2 10 (I.ln 9 9),I.n 3 11 (I.bo .lss 3 8 10 3)]) (.cond (.tmp 11) .skip (.exit 0))) (.seq (.block 1 (.reg 6 [I.n 0 14 (I.mv 4),I.n 1 15 (I.mv 0),I.n 2 16 (I.mv 5),I.n 3 17 (.index 9 (.tmp 15) (.tmp 16)),I.n 4 18 (.binOp .rem 5 (.tmp 17) (.const (Value.int .u8 8)) 5),I.n 5 19 (I.ia 114 3 18),I.n 6 20 (I.ld 21 19),I.n 7 21 (I.b1 115 20),I.n 8 22 (I.ap 14 21 115 115),I.n 9 4 (I.sa 22)])) (.reg 5 [I.n 0 12 (I.mv 5),I.n 1 13 (I.bc .add 3 12 1 3),I.n 2 5 (I.sa 13)])))))) (.seq (.reg 7 [I.n 0 23 (I.mv 4),I.n 1 24 (I.c1 84 23 115),I.n 2 2 (I.sa 24)]) .ret))))):=by
 intro c h
 have:c = Tryd.f37.body.get rfl:=by rw [<- Option.some_inj,<- h];rfl
 rw [this];rfl
theorem aac{G:Prop}(h:G:=by (refine Ev.again (k - 1) ⟨[(0,_),(2,_),(3,_),(4,.own 1024 (c + 8) 0 (kF t (i + 1)).length),(5,.v (.int .i64 ((i + 1:Nat):Int)))],[(1024,⟨1,21,c + 8,0,false,KJ (kF t (i + 1))⟩),(520,⟨8,114,0,0,true,[[.v (.int .i32 97),.v (.int .i32 98),.v (.int .i32 99),.v (.int .i32 120),.v (.int .i32 121),.v (.int .i32 233),.v (.int .i32 8364),.v (.int .i32 128512)]]⟩)],c + 8 + 8⟩ (by omega) ⟨rfl,rfl,rfl,Ev.aj rfl ?_,Ev.eG rfl (by rw [Ev.wrap64];omega),trivial⟩ ⟨Ev.aj rfl ?_,rfl,trivial⟩ (Nat.le_refl _) ⟨i + 1,c + 8,c + 8 + 8,rfl,by omega⟩);all_goals(rcases(⟨_⟩:PLift _)with⟨h⟩;exact h)):G:=h
theorem aah{G:Prop}(h:G:=by (repeat' (first | (simp only [hr0]) | refine' Ev.Fg | refine' Ev.zK | ((refine Ev.aT (acE (kF t i) (by rw [vK];omega) (fun n hn=>by have:=LW hn;omega)) ?_ rfl ?_;rotate_left);conv=>whnf) | refine' Ev.zU | fail));all_goals(rcases(⟨_⟩:PLift _)with⟨h⟩;exact h)):G:=h
theorem aat{G:Prop}(h:G:=by
 refine Ev.Side.of ?_
 have hm:2000000003 <= maxLen:=by decide
 simp [KJ,hlen]
 omega):G:=h
theorem abd{G:Prop}(h:G:=by
 rename_i hx
 have ei:i = t.size:=by omega
 subst ei
 exact ⟨rfl,trivial⟩):G:=h
theorem ab4{G:Prop}(h:G:=by rw [List.drop_zero,List.take_of_length_le (by simp [KJ])]):G:=h
theorem Oa{G:Prop}(h:G:=by exact Ev.Side.of (by decide)):G:=h
theorem aes{G:Prop}(h:G:=by refine Ev.Side.of ?_;simp [KJ]):G:=h
theorem LX (t:ByteArray) (ht:t.size <= 1000000):aA env 37 [.v (.string t)] (fun r hs=>r = .v (.string (lM t)) /\ hs = []):=by
 refine Ev.fn [0,2,3,4,5,11] 0 [.tmp 2] Tryd.func37 (ai4 _ rfl) ?_
 repeat' (first | refine' Ev.Fg | refine' Ev.zK | refine' Ev.zU | fail)
 · refine Ev.loop (fun k s=>∃ (i v c:Nat),s = ⟨[(0,.v (.string t)),(2,.v (.string ⟨#[]⟩)),(3,.ptr 520 0 0 0),(4,.own 1024 v 0 (kF t i).length),(5,.v (.int .i64 i))],[(1024,⟨1,21,v,0,false,KJ (kF t i)⟩),(520,⟨8,114,0,0,true,[[.v (.int .i32 97),.v (.int .i32 98),.v (.int .i32 99),.v (.int .i32 120),.v (.int .i32 121),.v (.int .i32 233),.v (.int .i32 8364),.v (.int .i32 128512)]]⟩)],c⟩ /\ k + i = t.size) ?_ ?_
   · exact Ev.to ⟨[(0,_),(2,_),(3,.ptr 520 0 0 0),(4,.own 1024 8 0 0),(5,.v (.int .i64 ((0:Nat):Int)))],[(1024,⟨1,21,8,0,false,KJ []⟩),(520,⟨8,114,0,0,true,[[.v (.int .i32 97),.v (.int .i32 98),.v (.int .i32 99),.v (.int .i32 120),.v (.int .i32 121),.v (.int .i32 233),.v (.int .i32 8364),.v (.int .i32 128512)]]⟩)],16⟩ ⟨rfl,rfl,rfl,rfl,rfl,trivial⟩ ⟨rfl,rfl,trivial⟩ (Nat.le_refl _) ⟨t.size,0,8,16,rfl,by omega⟩
   rintro k s1 ⟨i,v,c,rfl,hk⟩
   have hb:=Ev.Jm t i
   have hr0:(Ev.iL t (↑i:Int).toNat).tmod 8 = Ev.iL t i % 8:=by rw [Int.toNat_natCast,Int.tmod_eq_emod_of_nonneg hb.1]
   have hlen:=vK t i
   have this:Ev.iL t i % 8 = 0 ∨ Ev.iL t i % 8 = 1 ∨ Ev.iL t i % 8 = 2 ∨ Ev.iL t i % 8 = 3 ∨ Ev.iL t i % 8 = 4 ∨ Ev.iL t i % 8 = 5 ∨ Ev.iL t i % 8 = 6 ∨ Ev.iL t i % 8 = 7:=by omega
   rcases this with h8 | h8 | h8 | h8 | h8 | h8 | h8 | h8
   all_goals rw [h8] at hr0
   · refine' aah
     · have he:kF t (i + 1) = kF t i ++ [97]:=by rw [kL,h8];rfl
       refine' aac
       · rw [he];simp
       · rw [he];simp [KJ]
     · refine' aat
     · refine' Oa
     · refine' Oa
     · refine' XG
     · refine' abd
     · refine' ab4
     · refine' aes
   · refine' aah
     · have he:kF t (i + 1) = kF t i ++ [98]:=by rw [kL,h8];rfl
       refine' aac
       · rw [he];simp
       · rw [he];simp [KJ]
     · refine' aat
     · refine' Oa
     · refine' Oa
     · refine' XG
     · refine' abd
     · refine' ab4
     · refine' aes
   · refine' aah
     · have he:kF t (i + 1) = kF t i ++ [99]:=by rw [kL,h8];rfl
       refine' aac
       · rw [he];simp
       · rw [he];simp [KJ]
     · refine' aat
     · refine' Oa
     · refine' Oa
     · refine' XG
     · refine' abd
     · refine' ab4
     · refine' aes
   · refine' aah
     · have he:kF t (i + 1) = kF t i ++ [120]:=by rw [kL,h8];rfl
       refine' aac
       · rw [he];simp
       · rw [he];simp [KJ]
     · refine' aat
     · refine' Oa
     · refine' Oa
     · refine' XG
     · refine' abd
     · refine' ab4
     · refine' aes
   · refine' aah
     · have he:kF t (i + 1) = kF t i ++ [121]:=by rw [kL,h8];rfl
       refine' aac
       · rw [he];simp
       · rw [he];simp [KJ]
     · refine' aat
     · refine' Oa
     · refine' Oa
     · refine' XG
     · refine' abd
     · refine' ab4
     · refine' aes
   · refine' aah
     · have he:kF t (i + 1) = kF t i ++ [233]:=by rw [kL,h8];rfl
       refine' aac
       · rw [he];simp
       · rw [he];simp [KJ]
     · refine' aat
     · refine' Oa
     · refine' Oa
     · refine' XG
     · refine' abd
     · refine' ab4
     · refine' aes
   · refine' aah
     · have he:kF t (i + 1) = kF t i ++ [8364]:=by rw [kL,h8];rfl
       refine' aac
       · rw [he];simp
       · rw [he];simp [KJ]
     · refine' aat
     · refine' Oa
     · refine' Oa
     · refine' XG
     · refine' abd
     · refine' ab4
     · refine' aes
   · refine' aah
     · have he:kF t (i + 1) = kF t i ++ [128512]:=by rw [kL,h8];rfl
       refine' aac
       · rw [he];simp
       · rw [he];simp [KJ]
     · refine' aat
     · refine' Oa
     · refine' Oa
     · refine' XG
     · refine' abd
     · refine' ab4
     · refine' aes
 all_goals (refine Ev.Side.of ?_;exact Nat.le_refl _)
end Go.Proofs.YtadlnaljicikfaaDoor.aB
namespace Go.Proofs.YtadlnaljicikfaaDoor.aB
open Go Go.Lib
def xI (l:List Int):List UInt8:=(l.flatMap encI).map fun n=>UInt8.ofNat n.toNat
def Ia (l:List Int):Prop:=∀ n ∈ l,n = 97 ∨ n = 98 ∨ n = 99 ∨ n = 120 ∨ n = 121 ∨ n = 233 ∨ n = 8364 ∨ n = 128512
theorem ae2{G:Prop}(h:G:=by rw [decodeL_N];simp [decodeN]):G:=h
theorem aft{G:Prop}(h:G:=by (refine ⟨1,?_,by simp [encI,jo],by decide⟩);all_goals(rcases(⟨_⟩:PLift _)with⟨h⟩;exact h)):G:=h
theorem Qz {n:Int} (h:n = 97 ∨ n = 98 ∨ n = 99 ∨ n = 120 ∨ n = 121 ∨ n = 233 ∨ n = 8364 ∨ n = 128512) (rest:List UInt8) :
   ∃ w,decodeL ((encI n).map (fun n=>UInt8.ofNat n.toNat) ++ rest) = (n.toNat,w) /\ w = (encI n).length /\ n.toNat ≠ 65533:=by
 rcases h with rfl | rfl | rfl | rfl | rfl | rfl | rfl | rfl
 · refine' aft
   show decodeL ((97:UInt8) :: rest) = (97,1)
   refine' ae2
 · refine' aft
   show decodeL ((98:UInt8) :: rest) = (98,1)
   refine' ae2
 · refine' aft
   show decodeL ((99:UInt8) :: rest) = (99,1)
   refine' ae2
 · refine' aft
   show decodeL ((120:UInt8) :: rest) = (120,1)
   refine' ae2
 · refine' aft
   show decodeL ((121:UInt8) :: rest) = (121,1)
   refine' ae2
 · refine ⟨2,?_,by simp [encI,jo],by decide⟩
   show decodeL ((195:UInt8) :: (169:UInt8) :: rest) = (233,2)
   refine' ae2
 · refine ⟨3,?_,by simp [encI,jo],by decide⟩
   show decodeL ((226:UInt8) :: (130:UInt8) :: (172:UInt8) :: rest) = (8364,3)
   refine' ae2
 · refine ⟨4,?_,by simp [encI,jo],by decide⟩
   show decodeL ((240:UInt8) :: (159:UInt8) :: (152:UInt8) :: (128:UInt8) :: rest) = (128512,4)
   refine' ae2
theorem XL:xI [] = []:=rfl
theorem BR (n:Int) (l:List Int):xI (n :: l) = (encI n).map (fun n=>UInt8.ofNat n.toNat) ++ xI l:=by simp [xI]
theorem XM {n:Int} (h:n = 97 ∨ n = 98 ∨ n = 99 ∨ n = 120 ∨ n = 121 ∨ n = 233 ∨ n = 8364 ∨ n = 128512) (rest:List UInt8):(encI n).map (fun n=>UInt8.ofNat n.toNat) ++ rest ≠ []:=by
 rcases h with rfl | rfl | rfl | rfl | rfl | rfl | rfl | rfl <;> simp [encI,jo]
theorem Ib:∀ {l:List Int},Ia l -> ∀ rest,validD (xI l ++ rest) = validD rest
 | [],_,rest=>rfl
 | n :: l,h,rest=>by
   have hn:=h n (by simp)
   have ih:=Ib (l:=l) (fun m hm=>h m (by simp [hm])) rest
   rw [BR,List.append_assoc]
   obtain ⟨w,hd,hw,hne⟩:=Qz hn (xI l ++ rest)
   rw [validD_step (XM hn _),hd,if_neg (by simp [hne]),hw]
   rw [show (encI n).length = ((encI n).map (fun n=>UInt8.ofNat n.toNat)).length by simp,List.drop_left]
   exact ih
theorem QA:∀ {l:List Int},Ia l -> ∀ rest (a:Int),∃ b,(nC (xI l ++ rest) a).length = l.length + (nC rest b).length
 | [],_,rest,a=>⟨a,by simp [XL]⟩
 | n :: l,h,rest,a=>by
   have hn:=h n (by simp)
   rw [BR,List.append_assoc]
   obtain ⟨w,hd,hw,hne⟩:=Qz hn (xI l ++ rest)
   rw [qW (XM hn _),hd,hw]
   obtain ⟨b,hb⟩:=QA (l:=l) (fun m hm=>h m (by simp [hm])) rest (a + (encI n).length)
   refine ⟨b,?_⟩
   rw [show (encI n).length = ((encI n).map (fun n=>UInt8.ofNat n.toNat)).length by simp,List.drop_left]
   rw [List.length_cons,List.length_cons]
   simp only [List.length_map]
   rw [hb];omega
theorem Ic {l:List Int} (h:Ia l):validD (xI l) = true:=by
 have:=Ib h []
 rw [List.append_nil] at this;rw [this];rfl
theorem UN {l:List Int} (h:Ia l):aN (xI l) = l.length:=by
 unfold aN
 rw [if_pos (Ic h)]
 obtain ⟨b,hb⟩:=QA h [] 0
 rw [List.append_nil] at hb;rw [hb,Fj];simp
theorem BU (l:List Int):(acC (l.flatMap encI)).data.toList = xI l:=by simp [acC,xI]
theorem wM (t:ByteArray) (k:Nat):Ia (kF t k):=fun n hn=>LW hn
theorem QB {l:List Int} (h:Ia l):l.length <= (xI l).length /\ (xI l).length <= 4 * l.length:=by
 induction l with
 | nil=>simp [xI]
 | cons n l ih =>
   obtain ⟨i1,i2⟩:=ih (fun m hm=>h m (by simp [hm]))
   have hn:=h n (by simp)
   rw [BR,List.length_append,List.length_map,List.length_cons]
   have:1 <= (encI n).length /\ (encI n).length <= 4:=by
     rcases hn with rfl | rfl | rfl | rfl | rfl | rfl | rfl | rfl <;> simp [encI,jo]
   omega
theorem LY (t:ByteArray) (ht:t.size <= 1000):(lM t).size <= 4000:=by
 have h:=(QB (wM t t.size)).2
 rw [vK,<- BU,bM] at h
 unfold lM;omega
theorem LZ (t:ByteArray):(lM t).data.toList = xI (kF t t.size):=BU _
theorem Ie (t:ByteArray):validD (lM t).data.toList = true:=by rw [LZ];exact Ic (wM _ _)
theorem BX (t:ByteArray):aN (lM t).data.toList = t.size:=by rw [LZ,UN (wM _ _),vK]
theorem XO (a b:ByteArray):(a ++ b).data.toList = a.data.toList ++ b.data.toList:=by simp
end Go.Proofs.YtadlnaljicikfaaDoor.aB
namespace Go.Proofs.YtadlnaljicikfaaDoor.aB
open Go
set_option maxRecDepth 100000
attribute [local irreducible] Ev.iE Ev.iG Ev.bW Ev.runK Ev.bY Ev.gq Ev.Side Ev.Wp Ev.Again Ev.To Ev.Fin
open Go.Lib Go.RowKit
structure Sp where
 k:Int
 n:Int
 t:ByteArray
def sV (s:Sp):List AV:=[.v (.int .i64 s.k),.v (.int .i64 s.n),.v (.string s.t)]
def bD (l:List Sp):List (List AV):=l.map sV
@[simp] theorem bH (l:List Sp):(bD l).length = l.length:=by simp [bD]
def sumW (f:Sp -> Int) (l:List Sp):Int:=l.foldl (fun a s=>IntKind.i64.wrap (a + f s)) 0
theorem BZ (f:Sp -> Int) (l:List Sp) {i:Nat} (h:i < l.length):sumW f (l.take (i + 1)) = IntKind.i64.wrap (sumW f (l.take i) + f l[i]):=by
 unfold sumW;rw [List.take_succ_eq_append_getElem h,List.foldl_append];rfl
def Small (l:List Sp):Prop:=∀ s ∈ l,s.t.size <= 1000000000
theorem PD {l:List Sp} {i:Nat} (h:(↑i:Int).toNat < l.length) (h':i < l.length):l[(↑i:Int).toNat]'h = l[i]:=by simp only [Int.toNat_natCast]
theorem acF:∀ c,Tryd.f101.body = some c -> comp c = (.seq (.reg 0 [I.n 0 2 (I.si 0)]) (.seq (.reg 1 [I.n 0 3 (I.si 0)]) (.seq (.seq (.reg 2 [I.n 0 4 (I.si 0)]) (.block 0 (.loop (.seq (.seq (.reg 3 [I.n 0 5 (I.mv 4),I.n 1 6 (I.mv 0),I.n 2 7 (I.ln 6 23),I.n 3 8 (I.bo .lss 3 5 7 3)]) (.cond (.tmp 8) .skip (.exit 0))) (.seq (.block 1 (.reg 5 [I.n 0 11 (I.mv 3),I.n 1 12 (I.mv 0),I.n 2 13 (I.mv 4),I.n 3 14 (I.ia 23 12 13),I.n 4 15 (I.ld 35 14),I.n 5 16 (I.c1 143 15 35),I.n 6 17 (I.bo .add 3 11 16 3),I.n 7 3 (I.sa 17)])) (.reg 4 [I.n 0 9 (I.mv 4),I.n 1 10 (I.bc .add 3 9 1 3),I.n 2 4 (I.sa 10)])))))) (.seq (.reg 6 [I.n 0 18 (I.mv 3),I.n 1 2 (I.sa 18)]) .ret)))):=by
 intro c h
 have:c = Tryd.f101.body.get rfl:=by rw [<- Option.some_inj,<- h];rfl
 rw [this];rfl
theorem acG:∀ c,Tryd.f102.body = some c -> comp c = (.seq (.reg 0 [I.n 0 2 (I.si 0)]) (.seq (.reg 1 [I.n 0 3 (I.si 0)]) (.seq (.seq (.reg 2 [I.n 0 4 (I.si 0)]) (.block 0 (.loop (.seq (.seq (.reg 3 [I.n 0 5 (I.mv 4),I.n 1 6 (I.mv 0),I.n 2 7 (I.ln 6 23),I.n 3 8 (I.bo .lss 3 5 7 3)]) (.cond (.tmp 8) .skip (.exit 0))) (.seq (.block 1 (.reg 5 [I.n 0 11 (I.mv 3),I.n 1 12 (I.mv 0),I.n 2 13 (I.mv 4),I.n 3 14 (I.ia 23 12 13),I.n 4 15 (I.ld 35 14),I.n 5 16 (I.c1 144 15 35),I.n 6 17 (I.bo .add 3 11 16 3),I.n 7 3 (I.sa 17)])) (.reg 4 [I.n 0 9 (I.mv 4),I.n 1 10 (I.bc .add 3 9 1 3),I.n 2 4 (I.sa 10)])))))) (.seq (.reg 6 [I.n 0 18 (I.mv 3),I.n 1 2 (I.sa 18)]) .ret)))):=by
 intro c h
 have:c = Tryd.f102.body.get rfl:=by rw [<- Option.some_inj,<- h];rfl
 rw [this];rfl
theorem ady{G:Prop}(h:G:=by exact Ev.to ⟨[(0,_),(2,_),(3,.v (.int .i64 0)),(4,.v (.int .i64 ((0:Nat):Int)))],[],0⟩ ⟨rfl,rfl,rfl,rfl,trivial⟩ trivial (Nat.le_refl _) ⟨l.length,0,rfl,by omega⟩):G:=h
theorem aed{G:Prop}(h:G:=by
 rename_i h
 have ei:i = l.length:=by simp only [bD,List.length_map] at h;omega
 subst ei
 rw [List.take_of_length_le (Nat.le_refl _)]
 exact ⟨rfl,rfl⟩):G:=h
theorem ahc{G:Prop}(h:G:=by refine Ev.Side.of ?_;rename_i h;simp only [bD,List.length_map] at h;omega):G:=h
theorem lN (l:List Sp) (hl:l.length <= 1000000000):aA env 101 [.lst 3 (bD l)] (fun r hs=>r = .v (.int .i64 (sumW (fun s=>qo s.k s.n) l)) /\ hs = []):=by
 refine Ev.fn [0,2,3,4,8] 0 [.tmp 2] Tryd.func101 (acF _ rfl) ?_
 refine' aau
 refine Ev.loop (fun k s=>∃ i:Nat,s = ⟨[(0,.lst 3 (bD l)),(2,.v (.int .i64 0)),(3,.v (.int .i64 (sumW (fun s=>qo s.k s.n) (l.take i)))),(4,.v (.int .i64 i))],[],0⟩ /\ k + i = l.length) ?_ ?_
 · refine' ady
 rintro k s1 ⟨i,rfl,hk⟩
 repeat' (first | refine' Ev.Fg | refine' Ev.zK | ((refine Ev.BD ?_ (fun hi=>?_);rotate_left);conv=>whnf) | ((refine Ev.aT (Fp _ _ _) rfl rfl ?_);conv=>whnf) | refine' Ev.zU | fail)
 · have hi':i < l.length:=by simpa using hi
   rw [PD hi hi']
   refine Ev.again (k - 1) ⟨[(0,_),(2,_),(3,.v (.int .i64 (sumW (fun s=>qo s.k s.n) (l.take (i + 1))))),(4,.v (.int .i64 ((i + 1:Nat):Int)))],[],0⟩ (by omega) ⟨rfl,rfl,Ev.eG rfl (by rw [BZ _ _ hi']),Ev.eG rfl (by rw [Ev.wrap64];omega),trivial⟩ trivial (Nat.le_refl _) ⟨i + 1,rfl,by omega⟩
 · refine' ahc
 · refine Ev.Side.of ?_;rename_i h;omega
 · refine' aed
theorem kG (l:List Sp) (hl:l.length <= 1000000000) (hs:Small l):aA env 102 [.lst 3 (bD l)] (fun r hs=>r = .v (.int .i64 (sumW (fun s=>kW s.k s.n s.t) l)) /\ hs = []):=by
 refine Ev.fn [0,2,3,4,8] 0 [.tmp 2] Tryd.func102 (acG _ rfl) ?_
 refine' aau
 refine Ev.loop (fun k s=>∃ i:Nat,s = ⟨[(0,.lst 3 (bD l)),(2,.v (.int .i64 0)),(3,.v (.int .i64 (sumW (fun s=>kW s.k s.n s.t) (l.take i)))),(4,.v (.int .i64 i))],[],0⟩ /\ k + i = l.length) ?_ ?_
 · refine' ady
 rintro k s1 ⟨i,rfl,hk⟩
 repeat' (first | refine' Ev.Fg | refine' Ev.zK | ((refine Ev.BD ?_ (fun hi=>?_);rotate_left);conv=>whnf) | ((refine Ev.aT (UL _ _ _ (hs _ (List.getElem_mem hi))) rfl rfl ?_);conv=>whnf) | refine' Ev.zU | fail)
 · have hi':i < l.length:=by simpa using hi
   rw [PD hi hi']
   refine Ev.again (k - 1) ⟨[(0,_),(2,_),(3,.v (.int .i64 (sumW (fun s=>kW s.k s.n s.t) (l.take (i + 1))))),(4,.v (.int .i64 ((i + 1:Nat):Int)))],[],0⟩ (by omega) ⟨rfl,rfl,Ev.eG rfl (by rw [BZ _ _ hi']),Ev.eG rfl (by rw [Ev.wrap64];omega),trivial⟩ trivial (Nat.le_refl _) ⟨i + 1,rfl,by omega⟩
 · refine' ahc
 · refine Ev.Side.of ?_;rename_i h;omega
 · refine' aed
end Go.Proofs.YtadlnaljicikfaaDoor.aB
namespace Go.Proofs.YtadlnaljicikfaaDoor.aB
open Go Go.Lib Go.RowKit Go.ChangeShapes
noncomputable def kM (w:World):Mem:=fun b o=>match w.cell? ⟨b,o,none⟩ with | some u=>(if u.oneCell' = true then some u else none) | none=>none
theorem XP (w:World):∀ b o u,kM w b o = some u -> w.cell? ⟨b,o,none⟩ = some u /\ u.oneCell' = true:=by
 intro b o u h
 unfold kM at h
 split at h
 · rename_i u' hu'
   split at h
   · rename_i h1;obtain rfl:=Option.some.inj h;exact ⟨hu',h1⟩
   · cases h
 · cases h
theorem L6 {w:World} {b o:Nat} {u:Value} (h:w.cell? ⟨b,o,none⟩ = some u) (h1:u.oneCell' = true):kM w b o = some u:=by
 unfold kM;rw [h];simp [h1]
theorem PE {w:World} (hw:Qw w):∀ g cs,env.G g = some cs -> dF (kM w) (.fV cs) (.pointer (some ⟨g,0,none⟩)):=by
 intro g cs hg
 refine .fV (fun j=>match cs[j]? with | some (.v z)=>z | _=>undef) (fun j c hc=>?_) (fun j c hc=>?_)
 · obtain ⟨z,rfl,h1⟩:=JG g cs c hg (List.mem_of_getElem? hc)
   rw [Nat.zero_add]
   simp only [hc]
   exact L6 (hw g cs j z hg hc) h1
 · obtain ⟨z,rfl,_⟩:=JG g cs c hg (List.mem_of_getElem? hc)
   simp only [hc];exact .v _
theorem qX {f:FuncId} {args:List AV} {vs:Array Value} {y:Value} (h:aA env f args (fun r hs=>r = .v y /\ hs = [])) {w:World} (hw:Qw w) (hn:vs.size = args.length)
   (hr:∀ (i:Nat) (x:AV) (v:Value),args[i]? = some x -> vs[i]? = some v -> dF (kM w) x v):Calls Tryd.prog f vs w fun e w'=>e = .returned y /\ Below w.heap.size w w':=by
 obtain ⟨_,b⟩:=h (kM w) w vs (XP w) (PE hw) hn hr
 refine' aex
def Opn (P:Program) (W:World) (e:TypeId) {α:Type} (f:α -> List AV) (good:α -> Prop):Prop :=
 ∀ (H:Type) (enc:TypeId × Value -> H) (fuel:Nat) (cs:List Value) (x:DataW H × List MemPlace),DataW.trod enc P W 0 (fun _=>true) true fuel e cs = some x ->
   ∃ a:α,good a /\ cs.length = (f a).length /\ ∀ (j:Nat) (c:AV) (u:Value),(f a)[j]? = some c -> cs[j]? = some u -> dF (kM W) c u /\ u.oneCell' = true
theorem Opn.int {P:Program} {W:World} {e:TypeId} {k:IntKind} (ht:P.underlying e = some (.int k)):Opn P W e (fun n:Int=>[AV.v (.int k n)]) (fun n=>(Lit.int k n).wf = true):=by
 intro H enc fuel cs x h
 obtain ⟨n,rfl,rfl,hw⟩:=DataW.trod_int ht h
 refine ⟨n,hw,rfl,fun j c u hc hu=>?_⟩
 cases j with
 | zero=>simp at hc hu;subst hc;subst hu;exact ⟨.v _,rfl⟩
 | succ j=>simp at hc
theorem Opn.str {P:Program} {W:World} {e:TypeId} (ht:P.underlying e = some .string):Opn P W e (fun t:ByteArray=>[AV.v (.string t)]) (fun t=>t.size <= maxLen):=by
 intro H enc fuel cs x h
 obtain ⟨t,rfl,rfl,hw⟩:=DataW.trod_string ht h
 refine ⟨t,hw,rfl,fun j c u hc hu=>?_⟩
 cases j with
 | zero=>simp at hc hu;subst hc;subst hu;exact ⟨.v _,rfl⟩
 | succ j=>simp at hc
theorem add_add (b o m j:Nat):(Addr.add ⟨b,o,none⟩ m).add j = ⟨b,o + m + j,none⟩:=by
 unfold Addr.add
 split <;> split <;> simp_all
theorem ag2{G:Prop}(h:G:=by
 obtain ⟨i,hi,rfl⟩:=List.mem_map.1 hy
 exact (hA i (List.mem_range.1 hi)).1):G:=h
theorem Opn.slice {P:Program} {W:World} {t e:TypeId} {sz:Nat} {α:Type} [Inhabited α] {f:α -> List AV} {good:α -> Prop} (ht:P.underlying t = some (.slice e)) (hsz:P.cellsOf e = sz) (h0:0 < sz) (hf:∀ a,(f a).length = sz) (h:Opn P W e f good) :
   Opn P W t (fun l:List α=>[AV.lst sz (l.map f)]) (fun l=>(∀ a ∈ l,good a) /\ l.length <= maxLen):=by
 intro H enc fuel cs x hx
 rcases DataW.trod_slice ht hx with ⟨rfl,rfl⟩ | ⟨a,len,cap,elems,rest,n,_,rfl,rfl,hb,hl,hm,hlen,hel,_,_⟩
 · refine ⟨[],⟨fun a ha=>by simp at ha,by simp⟩,rfl,fun j c u hc hu=>?_⟩
   cases j with
   | zero=>simp at hc hu;subst hc;subst hu;exact ⟨dF.JA _ _,rfl⟩
   | succ j=>simp at hc
 · rw [hsz] at hel
   obtain ⟨A,hA⟩:=Go.Deep.choose_lt (α:=α × List Value) (n:=len) (p:=fun i y=>good y.1 /\ W.cells? 0 (a.add (i * sz)) sz = some y.2 /\ y.2.length = sz /\ ∀ (j:Nat) (c:AV) (u:Value),(f y.1)[j]? = some c -> y.2[j]? = some u -> dF (kM W) c u /\ u.oneCell' = true) (fun i hi=>by
     have h1:=hel i hi
     rw [List.getElem?_eq_getElem (by omega),Option.bind_eq_some_iff] at h1
     obtain ⟨cs',hc,hd⟩:=h1
     obtain ⟨y,g1,g2,g3⟩:=h H enc _ _ _ hd
     exact ⟨(y,cs'),g1,hc,by rw [g2,hf],g3⟩)
   have hget:∀ (i:Nat) (e':List AV),(((List.range len).map fun i=>(A i).1).map f)[i]? = some e' -> i < len /\ e' = f (A i).1:=by
     intro i e' he
     have hi:i < len:=by have:=(List.getElem?_eq_some_iff.1 he).1;simpa using this
     refine ⟨hi,?_⟩
     simp [List.getElem?_range hi] at he;exact he.symm
   refine ⟨(List.range len).map fun i=>(A i).1,⟨fun y hy=>?_,by simp;omega⟩,rfl,fun j c u hc hu=>?_⟩
   · refine' ag2
   cases j with
   | succ j=>simp at hc
   | zero =>
     simp only [List.getElem?_cons_zero,Option.some.injEq] at hc hu
     subst hc;subst hu
     refine ⟨.lst (fun i j=>((A i).2)[j]?.getD undef) (by simp) (by simpa using hl) (fun i e' he=>by rw [(hget i e' he).2,hf]) (fun hne=>?_) (fun b o i e' j c hab he hc=>?_) (fun i e' j c he hc=>?_),rfl⟩
     · have hp:0 < len:=by
         rcases Nat.eq_zero_or_pos len with h | h
         · subst h;simp at hne
         · exact h
       obtain ⟨_,hc,_,_⟩:=hA 0 hp
       obtain ⟨_,_,h3⟩:=World.cells?_some hc
       have h4:=h3 0 h0
       obtain ⟨b,o,spot⟩:=a
       have hl2:=(hA 0 hp).2.2.1
       rw [List.getElem?_eq_getElem (by omega)] at h4
       have hspot:spot = none:=by simpa [Addr.add] using World.cell?_spot h4
       subst hspot;exact ⟨b,o,rfl⟩
     · obtain ⟨hi,rfl⟩:=hget i e' he
       obtain rfl:=Option.some.inj hab
       obtain ⟨_,hcc,hcl,hcr⟩:=hA i hi
       obtain ⟨_,_,h3⟩:=World.cells?_some hcc
       have hj:j < sz:=by have:=(List.getElem?_eq_some_iff.1 hc).1;rw [hf] at this;exact this
       have h4:=h3 j hj
       rw [add_add,List.getElem?_eq_getElem (by omega)] at h4
       have h5:=hcr j c _ hc (List.getElem?_eq_getElem (by omega))
       rw [List.getElem?_eq_getElem (by omega)]
       exact L6 h4 h5.2
     · obtain ⟨hi,rfl⟩:=hget i e' he
       obtain ⟨_,hcc,hcl,hcr⟩:=hA i hi
       have hj:j < sz:=by have:=(List.getElem?_eq_some_iff.1 hc).1;rw [hf] at this;exact this
       rw [List.getElem?_eq_getElem (by omega)]
       exact (hcr j c _ hc (List.getElem?_eq_getElem (by omega))).1
theorem Opn.field {P:Program} {W:World} {e:TypeId} {α:Type} {f:α -> AV} {good:α -> Prop} (h:Opn P W e (fun a=>[f a]) good) {H:Type} {enc:TypeId × Value -> H} {fuel o:Nat} {cs:List Value} {x:DataW H × List MemPlace}
   (hx:DataW.trod enc P W 0 (fun _=>true) true fuel e ((cs.drop o).take 1) = some x) (ho:o < cs.length):∃ a,good a /\ dF (kM W) (f a) cs[o] /\ cs[o].oneCell' = true:=by
 obtain ⟨a,h1,h2,h3⟩:=h H enc fuel _ x hx
 refine ⟨a,h1,h3 0 (f a) cs[o] rfl ?_⟩
 rw [List.getElem?_take_of_lt (by decide),List.getElem?_drop,Nat.add_zero,List.getElem?_eq_getElem ho]
theorem adq{G:Prop}(h:G:=by simp at hc;subst hc;rw [List.getElem?_eq_getElem (by omega)] at hu;obtain rfl:=Option.some.inj hu;exact r0):G:=h
theorem adx{G:Prop}(h:G:=by simp at hc;subst hc;rw [List.getElem?_eq_getElem (by omega)] at hu;obtain rfl:=Option.some.inj hu;exact r1):G:=h
theorem ae4{G:Prop}(h:G:=by
 obtain ⟨b0,g0,r0⟩:=h0.field a0 (by omega)
 obtain ⟨b1,g1,r1⟩:=h1.field a1 (by omega)
 all_goals(rcases(⟨_⟩:PLift _)with⟨h⟩;exact h)):G:=h
theorem Opn.st2 {P:Program} {W:World} {t:TypeId} {f0 f1:Field} {α β:Type} {f:α -> AV} {g:β -> AV} {p:α -> Prop} {q:β -> Prop} (ht:P.underlying t = some (.struct #[f0,f1])) (hc:P.cellsOf t = 2) (ho:f0.offset = 0 /\ f1.offset = 1)
   (hz:P.cellsOf f0.type = 1 /\ P.cellsOf f1.type = 1) (h0:Opn P W f0.type (fun a=>[f a]) p) (h1:Opn P W f1.type (fun a=>[g a]) q):Opn P W t (fun x:α × β=>[f x.1,g x.2]) (fun x=>p x.1 /\ q x.2):=by
 intro H enc fuel cs x hx
 obtain ⟨xs,n,rfl,rfl,hl,hxl,hall⟩:=DataW.trod_struct ht hx
 have hxl:xs.length = 2:=hxl
 rw [hc] at hl
 have a0:=hall 0 f0 rfl
 have a1:=hall 1 f1 rfl
 rw [ho.1,hz.1,List.getElem?_eq_getElem (by omega)] at a0
 rw [ho.2,hz.2,List.getElem?_eq_getElem (by omega)] at a1
 refine' ae4
 refine ⟨(b0,b1),⟨g0,g1⟩,hl,fun j c u hc hu=>?_⟩
 rcases j with _ | _ | j
 · refine' adq
 · refine' adx
 · simp at hc
theorem afz{G:Prop}(h:G:=by simp at hc;subst hc;rw [List.getElem?_eq_getElem (by omega)] at hu;obtain rfl:=Option.some.inj hu;exact r2):G:=h
theorem Opn.st3 {P:Program} {W:World} {t:TypeId} {f0 f1 f2:Field} {α β γ:Type} {f:α -> AV} {g:β -> AV} {k:γ -> AV} {p:α -> Prop} {q:β -> Prop} {r:γ -> Prop} (ht:P.underlying t = some (.struct #[f0,f1,f2])) (hc:P.cellsOf t = 3) (ho:f0.offset = 0 /\ f1.offset = 1 /\ f2.offset = 2)
   (hz:P.cellsOf f0.type = 1 /\ P.cellsOf f1.type = 1 /\ P.cellsOf f2.type = 1) (h0:Opn P W f0.type (fun a=>[f a]) p) (h1:Opn P W f1.type (fun a=>[g a]) q) (h2:Opn P W f2.type (fun a=>[k a]) r):Opn P W t (fun x:α × β × γ=>[f x.1,g x.2.1,k x.2.2]) (fun x=>p x.1 /\ q x.2.1 /\ r x.2.2):=by
 intro H enc fuel cs x hx
 obtain ⟨xs,n,rfl,rfl,hl,hxl,hall⟩:=DataW.trod_struct ht hx
 have hxl:xs.length = 3:=hxl
 rw [hc] at hl
 have a0:=hall 0 f0 rfl
 have a1:=hall 1 f1 rfl
 have a2:=hall 2 f2 rfl
 rw [ho.1,hz.1,List.getElem?_eq_getElem (by omega)] at a0
 rw [ho.2.1,hz.2.1,List.getElem?_eq_getElem (by omega)] at a1
 rw [ho.2.2,hz.2.2,List.getElem?_eq_getElem (by omega)] at a2
 refine' ae4
 obtain ⟨b2,g2,r2⟩:=h2.field a2 (by omega)
 refine ⟨(b0,b1,b2),⟨g0,g1,g2⟩,hl,fun j c u hc hu=>?_⟩
 rcases j with _ | _ | _ | j
 · refine' adq
 · refine' adx
 · refine' afz
 · simp at hc
theorem Opn.st4 {P:Program} {W:World} {t:TypeId} {f0 f1 f2 f3:Field} {α β γ δ:Type} {f:α -> AV} {g:β -> AV} {k:γ -> AV} {m:δ -> AV} {p:α -> Prop} {q:β -> Prop} {r:γ -> Prop} {p3:δ -> Prop} (ht:P.underlying t = some (.struct #[f0,f1,f2,f3])) (hc:P.cellsOf t = 4) (ho:f0.offset = 0 /\ f1.offset = 1 /\ f2.offset = 2 /\ f3.offset = 3)
   (hz:P.cellsOf f0.type = 1 /\ P.cellsOf f1.type = 1 /\ P.cellsOf f2.type = 1 /\ P.cellsOf f3.type = 1) (h0:Opn P W f0.type (fun a=>[f a]) p) (h1:Opn P W f1.type (fun a=>[g a]) q) (h2:Opn P W f2.type (fun a=>[k a]) r) (h3:Opn P W f3.type (fun a=>[m a]) p3):Opn P W t (fun x:α × β × γ × δ=>[f x.1,g x.2.1,k x.2.2.1,m x.2.2.2]) (fun x=>p x.1 /\ q x.2.1 /\ r x.2.2.1 /\ p3 x.2.2.2):=by
 intro H enc fuel cs x hx
 obtain ⟨xs,n,rfl,rfl,hl,hxl,hall⟩:=DataW.trod_struct ht hx
 have hxl:xs.length = 4:=hxl
 rw [hc] at hl
 have a0:=hall 0 f0 rfl
 have a1:=hall 1 f1 rfl
 have a2:=hall 2 f2 rfl
 have a3:=hall 3 f3 rfl
 rw [ho.1,hz.1,List.getElem?_eq_getElem (by omega)] at a0
 rw [ho.2.1,hz.2.1,List.getElem?_eq_getElem (by omega)] at a1
 rw [ho.2.2.1,hz.2.2.1,List.getElem?_eq_getElem (by omega)] at a2
 rw [ho.2.2.2,hz.2.2.2,List.getElem?_eq_getElem (by omega)] at a3
 refine' ae4
 obtain ⟨b2,g2,r2⟩:=h2.field a2 (by omega)
 obtain ⟨b3,g3,r3⟩:=h3.field a3 (by omega)
 refine ⟨(b0,b1,b2,b3),⟨g0,g1,g2,g3⟩,hl,fun j c u hc hu=>?_⟩
 rcases j with _ | _ | _ | _ | j
 · refine' adq
 · refine' adx
 · refine' afz
 · simp at hc;subst hc;rw [List.getElem?_eq_getElem (by omega)] at hu;obtain rfl:=Option.some.inj hu;exact r3
 · simp at hc
theorem Opn.arr {P:Program} {W:World} {t e:TypeId} {n:Nat} {α:Type} [Inhabited α] {f:α -> AV} {good:α -> Prop} (ht:P.underlying t = some (.array n e)) (hc:P.cellsOf t = n) (hz:P.cellsOf e = 1) (h:Opn P W e (fun a=>[f a]) good) :
   Opn P W t (fun l:List α=>l.map f) (fun l=>l.length = n /\ ∀ a ∈ l,good a):=by
 intro H enc fuel cs x hx
 obtain ⟨xs,m,rfl,rfl,hl,hxl,hall⟩:=DataW.trod_array ht hx
 rw [hc] at hl
 obtain ⟨A,hA⟩:=Go.Deep.choose_lt (α:=α) (n:=n) (p:=fun i y=>good y /\ ∀ u,cs[i]? = some u -> dF (kM W) (f y) u /\ u.oneCell' = true) (fun i hi=>by
   have a0:=hall i hi
   rw [hz,Nat.mul_one,List.getElem?_eq_getElem (by omega)] at a0
   obtain ⟨b0,g0,r0⟩:=h.field a0 (by omega)
   refine ⟨b0,g0,fun u hu=>?_⟩
   rw [List.getElem?_eq_getElem (by omega)] at hu;obtain rfl:=Option.some.inj hu;exact r0)
 refine ⟨(List.range n).map A,⟨by simp,fun y hy=>?_⟩,by simpa using hl,fun j c u hc hu=>?_⟩
 · refine' ag2
 · have hj:j < n:=by have:=(List.getElem?_eq_some_iff.1 hu).1;omega
   simp [List.getElem?_range hj] at hc
   subst hc
   exact (hA j hj).2 u hu
theorem Opn.one {P:Program} {W:World} {t:TypeId} {α:Type} {f:α -> AV} {good:α -> Prop} (h:Opn P W t (fun a=>[f a]) good) {H:Type} {enc:TypeId × Value -> H} {v:Value} {d:DataW H} {p:List MemPlace} (hd:DataW.Trod enc P W 0 (fun _=>true) true t v d p)
   (hv:∀ cs,v ≠ .agg cs):∃ a,good a /\ dF (kM W) (f a) v:=by
 obtain ⟨fuel,hf⟩:=hd
 obtain ⟨a,h1,h2,h3⟩:=h H enc fuel _ _ hf
 refine ⟨a,h1,(h3 0 (f a) v rfl ?_).1⟩
 cases v <;> first | rfl | exact absurd rfl (hv _)
theorem Opn.agg {P:Program} {W:World} {t:TypeId} {α:Type} {f:α -> List AV} {good:α -> Prop} (h:Opn P W t f good) {H:Type} {enc:TypeId × Value -> H} {v:Value} {d:DataW H} {p:List MemPlace} (hd:DataW.Trod enc P W 0 (fun _=>true) true t v d p)
   (hv:∃ cs,v = .agg cs):∃ a,good a /\ dF (kM W) (.agg (f a)) v:=by
 obtain ⟨cs,rfl⟩:=hv
 obtain ⟨fuel,hf⟩:=hd
 obtain ⟨a,h1,h2,h3⟩:=h H enc fuel _ _ hf
 have e:cs.size = (f a).length:=by simpa [Value.cells] using h2
 refine ⟨a,h1,.agg e (fun i v hv=>?_) (fun i c v hc hv=>?_)⟩
 · have hi:i < (f a).length:=by have:=(Array.getElem?_eq_some_iff.1 hv).1;omega
   exact (h3 i (f a)[i] v (List.getElem?_eq_getElem hi) (by rw [Array.getElem?_toList];exact hv)).2
 · exact (h3 i c v hc (by rw [Array.getElem?_toList];exact hv)).1
theorem mM {P:Program} {W:World} {t e:TypeId} {base:Nat} {v:Value} (ht:P.underlying t = some (.slice e)) (h:Value.okWide P W .any base t v):∀ cs,v ≠ .agg cs:=by
 rintro cs rfl
 unfold Value.okWide at h
 rw [ht] at h
 simp only [Cell.okWide,Cell.ok,ht] at h
theorem ag3{G:Prop}(h:G:=by
 unfold Value.okWide at h
 rw [ht] at h
 obtain ⟨cs,h,_⟩:=h;exact ⟨cs,h⟩):G:=h
theorem uh {P:Program} {W:World} {t:TypeId} {fs:Array Field} {base:Nat} {v:Value} (ht:P.underlying t = some (.struct fs)) (h:Value.okWide P W .any base t v):∃ cs,v = .agg cs:=by
 refine' ag3
theorem UO {P:Program} {W:World} {t e:TypeId} {n:Nat} {base:Nat} {v:Value} (ht:P.underlying t = some (.array n e)) (h:Value.okWide P W .any base t v):∃ cs,v = .agg cs:=by
 refine' ag3
theorem Opn.conv {P:Program} {W:World} {e:TypeId} {α β:Type} {f:α -> List AV} {good:α -> Prop} (h:Opn P W e f good) (g:α -> β) (f':β -> List AV) (good':β -> Prop) (hf:∀ a,good a -> f a = f' (g a) /\ good' (g a)):Opn P W e f' good':=by
 intro H enc fuel cs x hx
 obtain ⟨a,h1,h2,h3⟩:=h H enc fuel cs x hx
 obtain ⟨e1,e2⟩:=hf a h1
 exact ⟨g a,e2,by rw [<- e1];exact h2,by rw [<- e1];exact h3⟩
def alh (s:Sp):Prop:=(-9223372036854775808 <= s.k /\ s.k <= 9223372036854775807) /\ (-9223372036854775808 <= s.n /\ s.n <= 9223372036854775807) /\ s.t.size <= maxLen
instance:Inhabited Sp:=⟨⟨0,0,⟨#[]⟩⟩⟩
theorem Opn.span {P:Program} {W:World} {e:TypeId} (h:Opn P W e (fun x:Int × Int × ByteArray=>[AV.v (.int .i64 x.1),AV.v (.int .i64 x.2.1),AV.v (.string x.2.2)]) (fun x=>(Lit.int .i64 x.1).wf = true /\ (Lit.int .i64 x.2.1).wf = true /\ x.2.2.size <= maxLen)) :
 Opn P W e sV alh:=h.conv (fun x=>⟨x.1,x.2.1,x.2.2⟩) sV alh (fun a g=>⟨rfl,bounds_i64 g.1,bounds_i64 g.2.1,g.2.2⟩)
end Go.Proofs.YtadlnaljicikfaaDoor.aB
namespace Go.Proofs.YtadlnaljicikfaaDoor
open Go Go.ChangeShapes Go.WideShapes Go.ChangeAt Go.RowKit
open Go.ChangeMaps (open_string shut_string)
theorem own:ownKnob Tryd.prog.godebug = none:=by kernel_rfl
noncomputable def laidWorld (os:Os):World :=
 let w0:=World.holding Tryd.prog os ⟨#[],#[],[]⟩
 let put (h:Array Obj) (g:Nat) (cs:Array Value):Array Obj:=h.modify g fun
   | .cells _ t frozen=>.cells cs t frozen
   | o=>o
 let h1:=put w0.heap 2 #[.bool false,.bool false,.bool true,.bool true,.bool false,.bool false,.bool true,.bool false]
 let h2:=put h1 0 (Lib.firstTab.map fun z=>Value.int .u8 z).toArray
 let h3:=put h2 1 ((List.range 16).flatMap fun i=>[Value.int .u8 (Lib.accLo i),Value.int .u8 (Lib.accHi i)]).toArray
 { w0 with heap:=h3 }
theorem Ig:Rows.historyKeepsRow.laid = [("unicode/utf8.acceptRanges",Lib.acceptData),("epitome/span.kinds",aB.BP),("unicode/utf8.first",Lib.firstData)]:=by kernel_rfl
theorem laid_met (os:Os) (args:Array Value):laidMet Tryd.prog Rows.historyKeepsRow.laid ((laidWorld os).forCall (fun _ _=>0) ⟨#[],args,[]⟩).memory:=by
 rw [Ig]
 exact (LaidIn.of_run (l:=[("unicode/utf8.acceptRanges",Lib.acceptData),("epitome/span.kinds",aB.BP),("unicode/utf8.first",Lib.firstData)]) [0,1,2] 8 (by kernel_rfl) (by kernel_rfl) (by kernel_rfl) (by kernel_rfl)).met
theorem am4 {P:Program} {l:List (String × DataW Unit)} {w:World} (h:(l.filter fun x=>x.2.handleName?.isSome) = []) (hm:laidMet P l w):laidMetH P l w:=by
 unfold laidMetH;rw [h];exact hm
theorem ali {P:Program} {l:List (String × DataW Unit)} {w:World} (h:(l.filter fun x=>x.2.handleName?.isSome) = []) (hm:laidMetH P l w):laidMet P l w:=by
 unfold laidMetH at hm;rw [h] at hm;exact hm
theorem nK (os:Os) (args:Array Value):laidMetH Tryd.prog Rows.historyKeepsRow.laid ((laidWorld os).forCall (fun _ _=>0) ⟨#[],args,[]⟩).memory:=am4 (by kernel_rfl) (laid_met os args)
theorem iV {w:World} (h:laidMetH Tryd.prog Rows.historyKeepsRow.laid w):aB.Qw w:=by
 have h0:laidMet Tryd.prog Rows.historyKeepsRow.laid w:=ali (by kernel_rfl) h
 rw [Ig] at h0
 have h':=h0
 exact aB.XJ (Lib.laidMet.reads h' (.tail _ (.head _))) (Lib.laidMet.reads h' (.tail _ (.tail _ (.head _)))) (Lib.laidMet.reads h' (.head _))
end Go.Proofs.YtadlnaljicikfaaDoor
namespace Go.Proofs.YtadlnaljicikfaaDoor
open Go Go.ChangeShapes Go.WideShapes Go.ChangeAt Go.RowKit
set_option maxRecDepth 100000
def letters:List Char:=([104,97,114,110,101,115,115,32,56,99,102,97,99,54,101,50,101,52,49,54,51,50,51,102,56,101,49,57,55,101,101,56,54,48,53,56,102,101,57,101,97,51,56,52,99,55,99,48,49,101,48,48,99,97,102,56,48,98,97,99,55,98,51,49,102,99,57,97,100,52,98,102,32,99,117,116,32,97,116,32,101,112,105,116,111,109,101,47,101,112,105,116,111,109,101,108,97,119,49,55,46,72,105,115,116,111,114,121,75,101,101,112,115,32,101,112,105,116,111,109,101,47,101,112,105,116,111,109,101,108,97,119,49,55,46,72,105,115,116,111,114,121,79,118,101,114,32,101,112,105,116,111,109,101,47,101,112,105,116,111,109,101,108,97,119,49,55,46,72,105,115,116,111,114,121,70,105,114,115,116,32,101,112,105,116,111,109,101,47,101,112,105,116,111,109,101,108,97,119,50,49,46,70,105,108,101,65,108,108,32,101,112,105,116,111,109,101,47,101,112,105,116,111,109,101,108,97,119,50,49,46,70,105,108,101,84,97,107,101,110,32,101,112,105,116,111,109,101,47,101,112,105,116,111,109,101,108,97,119,50,49,46,70,105,108,101,66,105,103,32,101,112,105,116,111,109,101,47,101,112,105,116,111,109,101,108,97,119,50,49,46,70,105,108,101,80,97,114,116,115,32,101,112,105,116,111,109,101,47,101,112,105,116,111,109,101,108,97,119,50,49,46,70,105,108,101,79,100,100,32,101,112,105,116,111,109,101,47,101,112,105,116,111,109,101,108,97,119,49,55,46,72,105,115,116,111,114,121,80,108,97,121,115,32,101,112,105,116,111,109,101,47,101,112,105,116,111,109,101,108,97,119,49,55,46,72,105,115,116,111,114,121,82,117,110,115,32,101,112,105,116,111,109,101,47,101,112,105,116,111,109,101,108,97,119,50,48,46,67,111,109,112,97,99,116,65,108,108,32,101,112,105,116,111,109,101,47,101,112,105,116,111,109,101,108,97,119,50,48,46,67,111,109,112,97,99,116,84,119,105,99,101,32,101,112,105,116,111,109,101,47,101,112,105,116,111,109,101,108,97,119,50,48,46,67,111,109,112,97,99,116,69,110,100,115,32,101,112,105,116,111,109,101,47,101,112,105,116,111,109,101,108,97,119,50,48,46,67,111,109,112,97,99,116,82,117,110,115,32,101,112,105,116,111,109,101,47,101,112,105,116,111,109,101,108,97,119,50,48,46,67,111,109,112,97,99,116,70,108,111,111,114,32,101,112,105,116,111,109,101,47,101,112,105,116,111,109,101,108,97,119,50,48,46,67,111,109,112,97,99,116,84,101,120,116,115,32,101,112,105,116,111,109,101,47,101,112,105,116,111,109,101,108,97,119,50,48,46,67,111,109,112,97,99,116,76,101,115,115,32,101,112,105,116,111,109,101,47,101,112,105,116,111,109,101,108,97,119,50,48,46,67,111,109,112,97,99,116,79,118,101,114,32,101,112,105,116,111,109,101,47,101,112,105,116,111,109,101,108,97,119,50,49,46,70,105,108,101,66,97,99,107]:List Nat).map Char.ofNat
theorem PG:Tryd.checked.prog.initOrder = String.ofList letters:=by kernel_rfl
theorem yF:Tryd.checked.prog.initOrder.toList = letters:=by rw [PG];exact String.toList_ofList
theorem Ih:behindMainWord (wordsSigns Tryd.checked.prog.initOrder.toList) = "cut".toList :: (behindMainWord (wordsSigns letters)).tail:=by rw [yF];kernel_rfl
theorem acH {P:Program} {c:List Char} {rest:List (List Char)} (hw:behindMainWord (wordsSigns P.initOrder.toList) = c :: rest) (h1:(c == "gc".toList || c == "spec".toList) = false) (h2:(c == "cut".toList) = true):P.make = some .cut:=by
 unfold Program.make;rw [hw];simp only [h1,h2];rfl
theorem XQ {P:Program} {c:List Char} {rest:List (List Char)} (hw:behindMainWord (wordsSigns P.initOrder.toList) = c :: rest) (h1:(c == "gc".toList || c == "spec".toList) = false) (h2:(c == "carried".toList) = false)
   (h3:((stripLifts liftWords (c :: rest)).2.head? == some "cut".toList) = true) (h4:(stripLifts liftWords (c :: rest)).1 = []) (hl:P.laysLater = false) (hr:P.bearsReflect = false) (hd:P.doorFits [] = true):P.mayEnter = true:=by
 unfold Program.mayEnter;rw [hw];simp only [h1,h2,h3,h4,hl,hr,hd];rfl
theorem nM:Tryd.checked.prog.make = some .cut:=acH Ih (by kernel_rfl) (by kernel_rfl)
theorem PK:Tryd.checked.prog.laysLater = false:=by kernel_rfl
theorem JI:Tryd.checked.prog.bearsReflect = false:=by kernel_rfl
theorem UQ:Tryd.checked.prog.doorFits [] = true:=by kernel_rfl
theorem lQ:Tryd.checked.prog.mayEnter = true:=XQ Ih (by kernel_rfl) (by kernel_rfl) (by kernel_rfl) (by kernel_rfl) PK JI UQ
theorem lS:Tryd.checked.prog.liftsFinal = false:=by unfold Program.liftsFinal Program.headLifts;rw [yF];kernel_rfl
theorem acI {P:Program} {h s:List Char} {r:List (List Char)} (hw:wordsSigns P.initOrder.toList = h :: s :: r) (hs:isSumSigns s = true) (hh:(h == "harness".toList) = true):P.mainIs = some (true,s):=by
 unfold Program.mainIs;rw [hw];simp only [hs,hh];rfl
theorem UR:wordsSigns Tryd.checked.prog.initOrder.toList = "harness".toList :: "8cfac6e2e416323f8e197ee86058fe9ea384c7c01e00caf80bac7b31fc9ad4bf".toList :: (wordsSigns letters).tail.tail:=by rw [yF];kernel_rfl
theorem nN:Tryd.checked.prog.mainIs = some (true,"8cfac6e2e416323f8e197ee86058fe9ea384c7c01e00caf80bac7b31fc9ad4bf".toList):=acI UR (by kernel_rfl) (by kernel_rfl)
end Go.Proofs.YtadlnaljicikfaaDoor
namespace Go.Proofs.YtadlnaljicikfaaDoor.aB
open Go
set_option maxRecDepth 100000
attribute [local irreducible] Ev.iE Ev.iG Ev.bW Ev.runK Ev.bY Ev.gq Ev.Side Ev.Wp Ev.Again Ev.To Ev.Fin
open Go.Lib Go.RowKit
theorem acJ:∀ c,Tryd.f119.body = some c -> comp c = (.seq (.reg 0 [I.n 0 4 (I.si 0)]) (.seq (.reg 1 [I.n 0 5 (I.si 0)]) (.seq (.seq (.reg 2 [I.n 0 8 (I.mv 0),I.n 1 9 (I.ln 8 140),I.n 2 10 (.move (.const (Value.int .i64 0)))]) (.block 0 (.loop (.seq (.reg 3 [I.n 0 11 (I.bo .lss 3 10 9 3)]) (.seq (.cond (.tmp 11) .skip (.exit 0)) (.seq (.block 1 (.seq (.reg 4 [I.n 0 12 (I.ia 140 8 10),I.n 1 13 (I.ld 35 12),I.n 2 7 (.alloc 35),I.u 3 (I.st 35 7 13)]) (.reg 5 [I.n 0 14 (I.mv 5),I.n 1 15 (I.mv 1),I.n 2 16 (I.ld 35 7),I.n 3 17 (.call { callee:=.value (.tmp 15),args:=#[.tmp 16],argTypes:=#[35] }),I.n 4 18 (I.bo .add 3 14 17 3),I.n 5 5 (I.sa 18)]))) (.reg 6 [I.n 0 19 (I.bc .add 3 10 1 3),I.n 1 10 (I.mv 19)]))))))) (.seq (.reg 7 [I.n 0 20 (I.mv 5),I.n 1 4 (I.sa 20)]) .ret)))):=by
 intro c h
 have:c = Tryd.f119.body.get rfl:=by rw [<- Option.some_inj,<- h];rfl
 rw [this];rfl
theorem ai5:∀ c,Tryd.f74.body = some c -> comp c = (.seq (.reg 0 [I.n 0 2 (I.si 0)]) (.seq (.reg 1 [I.n 0 3 (.assign (.func 119))]) (.seq (.reg 2 [I.n 0 4 (I.mv 3),I.n 1 5 (I.mv 0),I.n 2 6 (.call { callee:=.value (.tmp 4),args:=#[.tmp 5,.func 120],argTypes:=#[140,113] }),I.n 3 2 (I.sa 6)]) .ret))):=by
 intro c h
 have:c = Tryd.f74.body.get rfl:=by rw [<- Option.some_inj,<- h];rfl
 rw [this];rfl
theorem ai6:∀ c,Tryd.f73.body = some c -> comp c = (.seq (.reg 0 [I.n 0 2 (I.si 0)]) (.seq (.reg 1 [I.n 0 3 (I.mv 0),I.n 1 4 (.call { callee:=.value (.func 119),args:=#[.tmp 3,.func 82],argTypes:=#[140,113] }),I.n 2 2 (I.sa 4)]) .ret)):=by
 intro c h
 have:c = Tryd.f73.body.get rfl:=by rw [<- Option.some_inj,<- h];rfl
 rw [this];rfl
theorem L8 (f:Sp -> Int) (g:FuncId) (l:List Sp) (hl:l.length <= 1000000000) (hg:∀ s ∈ l,aA env g [.agg (sV s)] (fun r hs=>r = .v (.int .i64 (f s)) /\ hs = [])) :
   aA env 119 [.lst 3 (bD l),.clo (.func g) [] []] (fun r hs=>r = .v (.int .i64 (sumW f l)) /\ hs = []):=by
 refine Ev.fn [0,1,4,5,7,8,9,10,11] 0 [.tmp 4] Tryd.func119 (acJ _ rfl) ?_
 refine' aau
 refine Ev.loop (fun k s=>∃ i c:Nat,s = ⟨[(1,.clo (.func g) [] []),(4,.v (.int .i64 0)),(5,.v (.int .i64 (sumW f (l.take i)))),(8,.lst 3 (bD l)),(9,.v (.int .i64 l.length)),(10,.v (.int .i64 i))],[],c⟩ /\ k + i = l.length) ?_ ?_
 · exact Ev.to ⟨[(1,_),(4,_),(5,.v (.int .i64 0)),(8,_),(9,.v (.int .i64 l.length)),(10,.v (.int .i64 ((0:Nat):Int)))],[],0⟩ ⟨rfl,rfl,rfl,rfl,Ev.eG rfl (by simp [bD]),rfl,trivial⟩ trivial (Nat.le_refl _) ⟨l.length,0,0,rfl,by omega⟩
 rintro k s1 ⟨i,c,rfl,hk⟩
 repeat' (first | refine' Ev.Fg | refine' Ev.zK | ((refine Ev.BD ?_ (fun hi=>?_);rotate_left);conv=>whnf) | ((refine Ev.aT (hg _ (List.getElem_mem hi)) rfl rfl ?_);conv=>whnf) | refine' Ev.zU | fail)
 · have hi':i < l.length:=by simpa using hi
   rw [PD hi hi']
   refine Ev.again (k - 1) ⟨[(1,_),(4,_),(5,.v (.int .i64 (sumW f (l.take (i + 1))))),(8,_),(9,_),(10,.v (.int .i64 ((i + 1:Nat):Int)))],[],c + 8⟩ (by omega) ⟨rfl,rfl,Ev.eG rfl (by rw [BZ _ _ hi']),rfl,rfl,Ev.eG rfl (by rw [Ev.wrap64];omega),trivial⟩ trivial (Nat.le_refl _) ⟨i + 1,c + 8,rfl,by omega⟩
 · refine Ev.Side.of ?_;rename_i h;omega
 · refine Ev.Side.of ?_;rename_i h;simp only [bD,List.length_map];omega
 · rename_i h
   have ei:i = l.length:=by omega
   subst ei
   rw [List.take_of_length_le (Nat.le_refl _)]
   exact ⟨rfl,rfl⟩
theorem gy (l:List Sp) (hl:l.length <= 1000000000):aA env 74 [.lst 3 (bD l)] (fun r hs=>r = .v (.int .i64 (sumW (fun s=>qo s.k s.n) l)) /\ hs = []):=by
 refine Ev.fn [0,2,3] 0 [.tmp 2] Tryd.func74 (ai5 _ rfl) ?_
 repeat' (first | refine' Ev.Fg | refine' Ev.zK | ((refine Ev.aT (L8 (fun s=>qo s.k s.n) 120 l hl (fun s _=>acB _ _ _)) rfl rfl ?_);conv=>whnf) | refine' Ev.zU | fail)
 all_goals exact ⟨rfl,rfl⟩
theorem oP (l:List Sp) (hl:l.length <= 1000000000) (hs:Small l):aA env 73 [.lst 3 (bD l)] (fun r hs=>r = .v (.int .i64 (sumW (fun s=>kW s.k s.n s.t) l)) /\ hs = []):=by
 refine Ev.fn [0,2] 0 [.tmp 2] Tryd.func73 (ai6 _ rfl) ?_
 repeat' (first | refine' Ev.Fg | refine' Ev.zK | ((refine Ev.aT (L8 (fun s=>kW s.k s.n s.t) 82 l hl (fun s h=>vJ _ _ _ (hs s h))) rfl rfl ?_);conv=>whnf) | refine' Ev.zU | fail)
 all_goals exact ⟨rfl,rfl⟩
def gU (f:Sp -> Int):List Sp -> Int
 | []=>0
 | s :: l=>if f s = 0 then gU f l else f s
theorem qI (f:Sp -> Int):∀ (a b:List Sp),gU f (a ++ b) = if gU f a = 0 then gU f b else gU f a
 | [],b=>by simp [gU]
 | s :: a,b=>by
   simp only [List.cons_append,gU,qI f a b]
   by_cases h:f s = 0 <;> simp [h]
theorem Ii (f:Sp -> Int) (l:List Sp) {i:Nat} (hi:i < l.length) (h:gU f (l.take i) = 0) (h0:f l[i] = 0):gU f (l.take (i + 1)) = 0:=by
 rw [List.take_succ_eq_append_getElem hi,qI,h];simp [gU,h0]
theorem UU (f:Sp -> Int) (l:List Sp) {i:Nat} (hi:i < l.length) (h:gU f (l.take i) = 0) (h0:¬ f l[i] = 0):gU f l = f l[i]:=by
 have e:l = l.take i ++ l[i] :: l.drop (i + 1):=by rw [List.getElem_cons_drop,List.take_append_drop]
 have:=qI f (l.take i) (l[i] :: l.drop (i + 1))
 rw [<- e,h] at this
 rw [this];simp [gU,h0]
def qJ (s:Sp):Int:=BQ s.k s.n s.t
def jV (l:List Sp):Int:=sumW (fun s=>qo s.k s.n) l
def outW (l:List Sp):Int:=sumW (fun s=>kW s.k s.n s.t) l
def aH (l:List Sp):Int:=if gU qJ l = 0 then (if 1048576 < jV l then 4 else 0) else gU qJ l
def nilA:AV:=.v (.slice none 0 0)
def keepA (n:Int):AV:=if n < 0 ∨ 1048576 < n then nilA else if n = 0 then nilA else .lst 3 (bD [⟨1,n,⟨#[]⟩⟩])
def Dp (n:Int):Int:=if n < 0 ∨ 1048576 < n then 2 else 0
theorem ai7:∀ c,Tryd.f72.body = some c -> comp c = (.seq (.reg 0 [I.n 0 2 (I.si 0)]) (.seq (.seq (.reg 1 [I.n 0 6 (I.mv 0),I.n 1 7 (I.ln 6 23),I.n 2 8 (.move (.const (Value.int .i64 0)))]) (.block 0 (.loop (.seq (.reg 2 [I.n 0 9 (I.bo .lss 3 8 7 3)]) (.seq (.cond (.tmp 9) .skip (.exit 0)) (.seq (.block 1 (.seq (.reg 3 [I.n 0 10 (I.ia 23 6 8),I.n 1 11 (I.ld 35 10),I.n 2 4 (.alloc 35),I.u 3 (I.st 35 4 11)]) (.seq (.reg 4 [I.n 0 12 (I.ld 35 4),I.n 1 13 (I.c1 118 12 35),I.n 2 5 (I.sa 13)]) (.seq (.reg 5 [I.n 0 14 (I.mv 5),I.n 1 15 (I.bc .neq 30 14 0 30)]) (.cond (.tmp 15) (.seq (.reg 6 [I.n 0 16 (I.mv 5),I.n 1 2 (I.sa 16)]) .ret) .skip))))) (.reg 7 [I.n 0 17 (I.bc .add 3 8 1 3),I.n 1 8 (I.mv 17)]))))))) (.seq (.seq (.reg 8 [I.n 0 18 (I.mv 0),I.n 1 19 (I.c1 74 18 23),I.n 2 20 (I.bc .gtr 3 19 1048576 3)]) (.cond (.tmp 20) (.seq (.reg 9 [I.n 0 2 (I.si 4)]) .ret) .skip)) (.seq (.reg 10 [I.n 0 2 (I.si 0)]) .ret)))):=by
 intro c h
 have:c = Tryd.f72.body.get rfl:=by rw [<- Option.some_inj,<- h];rfl
 rw [this];rfl
theorem acK:∀ c,Tryd.f111.body = some c -> comp c = (.seq (.reg 0 [I.n 0 2 I.sn,I.n 1 3 (I.si 0)]) (.seq (.seq (.reg 1 [I.n 0 4 (I.mv 0),I.n 1 5 (I.bc .lss 3 4 0 3),I.n 2 6 (I.mv 5),I.w 3 7 (I.mv 0) 6 false,I.w 4 8 (I.bc .gtr 3 7 1048576 3) 6 false,I.n 5 9 (I.pb 6 true 8)]) (.cond (.tmp 9) (.seq (.reg 2 [I.n 0 2 I.sn,I.n 1 3 (I.si 2)]) .ret) .skip)) (.seq (.seq (.reg 3 [I.n 0 10 (I.mv 0),I.n 1 11 (I.bc .eql 3 10 0 3)]) (.cond (.tmp 11) (.seq (.reg 4 [I.n 0 2 I.sn,I.n 1 3 (I.si 0)]) .ret) .skip)) (.seq (.reg 5 [I.n 0 12 (I.mv 0),I.n 1 13 (.build 35 #[(0,.const (Value.int .i64 1)),(1,.tmp 12)]),I.n 2 14 (I.b1 23 13),I.n 3 2 (I.sa 14),I.n 4 3 (I.si 0)]) .ret)))):=by
 intro c h
 have:c = Tryd.f111.body.get rfl:=by rw [<- Option.some_inj,<- h];rfl
 rw [this];rfl
theorem acL:∀ c,Tryd.f100.body = some c -> comp c = (.seq (.reg 0 [I.n 0 2 (I.si 0)]) (.seq (.seq (.reg 1 [I.n 0 3 (I.si 0)]) (.block 0 (.loop (.seq (.seq (.reg 2 [I.n 0 5 (I.mv 3),I.n 1 6 (I.mv 0),I.n 2 7 (I.ln 6 23),I.n 3 8 (I.bo .lss 3 5 7 3)]) (.cond (.tmp 8) .skip (.exit 0))) (.seq (.block 1 (.seq (.reg 4 [I.n 0 11 (I.mv 0),I.n 1 12 (I.mv 3),I.n 2 13 (I.ia 23 11 12),I.n 3 14 (I.ld 35 13),I.n 4 15 (I.c1 142 14 35),I.n 5 4 (I.sa 15)]) (.seq (.reg 5 [I.n 0 16 (I.mv 4),I.n 1 17 (I.bc .neq 30 16 0 30)]) (.cond (.tmp 17) (.seq (.reg 6 [I.n 0 18 (I.mv 4),I.n 1 2 (I.sa 18)]) .ret) .skip)))) (.reg 3 [I.n 0 9 (I.mv 3),I.n 1 10 (I.bc .add 3 9 1 3),I.n 2 3 (I.sa 10)])))))) (.seq (.seq (.reg 7 [I.n 0 19 (I.mv 0),I.n 1 20 (I.c1 101 19 23),I.n 2 21 (I.bc .gtr 3 20 1048576 3)]) (.cond (.tmp 21) (.seq (.reg 8 [I.n 0 2 (I.si 4)]) .ret) .skip)) (.seq (.reg 9 [I.n 0 2 (I.si 0)]) .ret)))):=by
 intro c h
 have:c = Tryd.f100.body.get rfl:=by rw [<- Option.some_inj,<- h];rfl
 rw [this];rfl
theorem acM:∀ c,Tryd.f148.body = some c -> comp c = (.seq (.reg 0 [I.n 0 2 I.sn,I.n 1 3 (I.si 0)]) (.seq (.seq (.reg 1 [I.n 0 4 (I.mv 0),I.n 1 5 (I.bc .lss 3 4 0 3),I.n 2 6 (I.mv 5),I.w 3 7 (I.mv 0) 6 false,I.w 4 8 (I.bc .gtr 3 7 1048576 3) 6 false,I.n 5 9 (I.pb 6 true 8)]) (.cond (.tmp 9) (.seq (.reg 2 [I.n 0 2 I.sn,I.n 1 3 (I.si 2)]) .ret) .skip)) (.seq (.seq (.reg 3 [I.n 0 10 (I.mv 0),I.n 1 11 (I.bc .eql 3 10 0 3)]) (.cond (.tmp 11) (.seq (.reg 4 [I.n 0 2 I.sn,I.n 1 3 (I.si 0)]) .ret) .skip)) (.seq (.reg 5 [I.n 0 12 (I.mv 0),I.n 1 13 (.build 35 #[(0,.const (Value.int .i64 1)),(1,.tmp 12)]),I.n 2 14 (I.b1 23 13),I.n 3 2 (I.sa 14),I.n 4 3 (I.si 0)]) .ret)))):=by
 intro c h
 have:c = Tryd.f148.body.get rfl:=by rw [<- Option.some_inj,<- h];rfl
 rw [this];rfl
theorem adr{G:Prop}(h:G:=by
 have ei:i = l.length:=by omega
 subst ei
 rw [List.take_of_length_le (Nat.le_refl _)] at hf
 refine ⟨congrArg (fun b=>AV.v (Value.int .i64 b)) ?_,rfl⟩
 simp [aH,hf,jV, *]):G:=h
theorem aen{G:Prop}(h:G:=by
 rename_i hne
 exact ⟨congrArg (fun b=>AV.v (Value.int .i64 b)) (by unfold aH;rw [UU qJ l hi hf hne];exact (if_neg hne).symm),rfl⟩):G:=h
theorem dW (l:List Sp) (hl:l.length <= 1000000000) (hs:Small l):aA env 72 [.lst 3 (bD l)] (fun r hs=>r = .v (.int .i64 (aH l)) /\ hs = []):=by
 have hsl:=bH l
 refine Ev.fn [0,2,4,5,6,7,8,9,15,20] 0 [.tmp 2] Tryd.func72 (ai7 _ rfl) ?_
 refine' Ev.zW
 refine Ev.loop (fun k s=>∃ i c:Nat,s = ⟨[(0,.lst 3 (bD l)),(2,.v (.int .i64 0)),(6,.lst 3 (bD l)),(7,.v (.int .i64 l.length)),(8,.v (.int .i64 i))],[],c⟩ /\ k + i = l.length /\ gU qJ (l.take i) = 0) ?_ ?_
 · exact Ev.to ⟨[(0,_),(2,_),(6,.lst 3 (bD l)),(7,.v (.int .i64 l.length)),(8,.v (.int .i64 ((0:Nat):Int)))],[],0⟩ ⟨rfl,rfl,rfl,Ev.eG rfl (by simp [bD]),rfl,trivial⟩ trivial (Nat.le_refl _) ⟨l.length,0,0,rfl,by omega,rfl⟩
 rintro k s1 ⟨i,c,rfl,hk,hf⟩
 repeat' (first | refine' Ev.zS | refine' Ev.zK | ((refine Ev.aT (XK _ _ _ (hs _ (List.getElem_mem hi))) rfl rfl ?_);conv=>whnf) | ((refine Ev.aT (gy l hl) rfl rfl ?_);conv=>whnf) | refine' Ev.zT | fail)
 · rename_i heq
   exact Ev.again (k - 1) ⟨[(0,_),(2,_),(6,_),(7,_),(8,.v (.int .i64 ((i + 1:Nat):Int)))],[],c + 8⟩ (by omega) ⟨rfl,rfl,rfl,rfl,Ev.eG rfl (by rw [Ev.wrap64];omega),trivial⟩ trivial (Nat.le_refl _) ⟨i + 1,c + 8,rfl,by omega,Ii qJ l hi hf heq⟩
 · refine' aen
 all_goals
   refine' adr
theorem jr (l:List Sp) (hl:l.length <= 1000000000) (hs:Small l):aA env 100 [.lst 3 (bD l)] (fun r hs=>r = .v (.int .i64 (aH l)) /\ hs = []):=by
 have hsl:=bH l
 refine Ev.fn [0,2,3,4,8,17,21] 0 [.tmp 2] Tryd.func100 (acL _ rfl) ?_
 refine' Ev.zW
 refine Ev.loop (fun k s=>∃ i c:Nat,s = ⟨[(0,.lst 3 (bD l)),(2,.v (.int .i64 0)),(3,.v (.int .i64 i))],[],c⟩ /\ k + i = l.length /\ gU qJ (l.take i) = 0) ?_ ?_
 · exact Ev.to ⟨[(0,_),(2,_),(3,.v (.int .i64 ((0:Nat):Int)))],[],0⟩ ⟨rfl,rfl,rfl,trivial⟩ trivial (Nat.le_refl _) ⟨l.length,0,0,rfl,by omega,rfl⟩
 rintro k s1 ⟨i,c,rfl,hk,hf⟩
 repeat' (first | refine' Ev.zS | refine' Ev.zK | ((refine Ev.aT (UM _ _ _ (hs _ (List.getElem_mem hi))) rfl rfl ?_);conv=>whnf) | ((refine Ev.aT (lN l hl) rfl rfl ?_);conv=>whnf) | refine' Ev.zT | fail)
 · rename_i heq
   exact Ev.again (k - 1) ⟨[(0,_),(2,_),(3,.v (.int .i64 ((i + 1:Nat):Int)))],[],c⟩ (by omega) ⟨rfl,rfl,Ev.eG rfl (by rw [Ev.wrap64];omega),trivial⟩ trivial (Nat.le_refl _) ⟨i + 1,c,rfl,by omega,Ii qJ l hi hf heq⟩
 · refine' aen
 all_goals
   refine' adr
theorem UW (n:Int):aA env 111 [.v (.int .i64 n)] (fun r hs=>r = .dB [keepA n,.v (.int .i64 (Dp n))] /\ hs = []):=by
 refine Ev.fn [0,2,3,9,11] 0 [.tmp 2,.tmp 3] Tryd.func111 (acK _ rfl) ?_
 refine' Ev.zW
 all_goals (refine ⟨?_,rfl⟩;simp [keepA,Dp,og,nilA,bD,sV, *];try omega)
theorem L9 (n:Int):aA env 148 [.v (.int .i64 n)] (fun r hs=>r = .dB [keepA n,.v (.int .i64 (Dp n))] /\ hs = []):=by
 refine Ev.fn [0,2,3,9,11] 0 [.tmp 2,.tmp 3] Tryd.func148 (acM _ rfl) ?_
 refine' Ev.zW
 all_goals (refine ⟨?_,rfl⟩;simp [keepA,Dp,og,nilA,bD,sV, *];try omega)
theorem ai8:∀ c,Tryd.f34.body = some c -> comp c = (.seq (.reg 0 [I.n 0 4 (I.sb false)]) (.seq (.seq (.reg 1 [I.n 0 6 (I.mv 0),I.n 1 7 (I.ln 6 23),I.n 2 8 (I.mv 1),I.n 3 9 (I.ln 8 23),I.n 4 10 (I.bo .neq 3 7 9 3)]) (.cond (.tmp 10) (.seq (.reg 2 [I.n 0 4 (I.sb false)]) .ret) .skip)) (.seq (.seq (.reg 3 [I.n 0 5 (I.si 0)]) (.block 0 (.loop (.seq (.seq (.reg 4 [I.n 0 11 (I.mv 5),I.n 1 12 (I.mv 0),I.n 2 13 (I.ln 12 23),I.n 3 14 (I.bo .lss 3 11 13 3)]) (.cond (.tmp 14) .skip (.exit 0))) (.seq (.block 1 (.seq (.draw 6 [I.n 0 17 (I.mv 0),I.n 1 18 (I.mv 5),I.n 2 19 (I.ia 23 17 18),I.n 3 20 (I.ld 35 19),I.n 4 21 (I.mv 1),I.n 5 22 (I.mv 5),I.n 6 23 (I.ia 23 21 22),I.n 7 24 (I.ld 35 23),I.n 8 25 (I.bo .neq 35 20 24 35)] [[],[],[0,1],[2],[],[],[4,5],[6],[3,7]]) (.cond (.tmp 25) (.seq (.reg 7 [I.n 0 4 (I.sb false)]) .ret) .skip))) (.reg 5 [I.n 0 15 (I.mv 5),I.n 1 16 (I.bc .add 3 15 1 3),I.n 2 5 (I.sa 16)])))))) (.seq (.reg 8 [I.n 0 4 (I.sb true)]) .ret)))):=by
 intro c h
 have:c = Tryd.f34.body.get rfl:=by rw [<- Option.some_inj,<- h];rfl
 rw [this];rfl
instance (a b:Sp):Decidable (a = b):=decidable_of_iff (a.k = b.k /\ a.n = b.n /\ a.t = b.t) (by cases a;cases b;simp)
theorem aay{G:Prop}(h:G:=by (repeat' (first | refine' Ev.zS | refine' Ev.zK | ((with_reducible refine Ev.dG ?_);(first | refine Ev.dr 6 [] [0,1,2,3,4,5,6,7,8] ?_);intro Q hQ;(simp only [Ev.ak,Ev.au]);conv=>whnf) | refine' Ev.zT | fail));all_goals(rcases(⟨_⟩:PLift _)with⟨h⟩;exact h)):G:=h
theorem adk{G:Prop}(h:G:=by
 have:i = l.length:=by omega
 subst this
 rw [List.take_of_length_le (Nat.le_refl _),List.take_of_length_le (by omega)] at hf
 exact ⟨congrArg (fun b=>AV.v (Value.bool b)) (decide_eq_true hf).symm,rfl⟩):G:=h
theorem ad4{G:Prop}(h:G:=by exact Ev.to ⟨[(0,_),(1,_),(4,_),(5,.v (.int .i64 ((0:Nat):Int)))],[],0⟩ ⟨rfl,rfl,rfl,rfl,trivial⟩ trivial (Nat.le_refl _) ⟨l.length,0,rfl,by omega,rfl⟩):G:=h
theorem ae8{G:Prop}(h:G:=by
 rename_i hne
 exact ⟨congrArg (fun b=>AV.v (Value.bool b)) (decide_eq_false (by rintro rfl;simp at hne)).symm,rfl⟩):G:=h
theorem agc{G:Prop}(h:G:=by exact ⟨congrArg (fun b=>AV.v (Value.bool b)) (decide_eq_false (by rintro rfl;omega)).symm,rfl⟩):G:=h
theorem wO (l m:List Sp) (hl:l.length <= 1000000000):aA env 34 [.lst 3 (bD l),.lst 3 (bD m)] (fun r hs=>r = .v (.bool (decide (l = m))) /\ hs = []):=by
 have hsl:=bH l
 have hsm:=bH m
 refine Ev.fn [0,1,4,5,10,14,25] 0 [.tmp 4] Tryd.func34 (ai8 _ rfl) ?_
 refine' aay
 rotate_left
 · refine' agc
 have hlen:l.length = m.length:=by omega
 refine Ev.loop (fun k s=>∃ i:Nat,s = ⟨[(0,.lst 3 (bD l)),(1,.lst 3 (bD m)),(4,.v (.bool false)),(5,.v (.int .i64 i))],[],0⟩ /\ k + i = l.length /\ l.take i = m.take i) ?_ ?_
 · refine' ad4
 rintro k s1 ⟨i,rfl,hk,hf⟩
 refine' aay
 · rename_i heq
   have hm':i < m.length:=by omega
   exact Ev.again (k - 1) ⟨[(0,_),(1,_),(4,_),(5,.v (.int .i64 ((i + 1:Nat):Int)))],[],0⟩ (by omega) ⟨rfl,rfl,rfl,Ev.eG rfl (by rw [Ev.wrap64];omega),trivial⟩ trivial (Nat.le_refl _) ⟨i + 1,rfl,by omega,by
     rw [List.take_succ_eq_append_getElem (by omega),List.take_succ_eq_append_getElem hm',hf]
     congr 2
     obtain ⟨e1,e2,e3⟩:=heq
     cases h1:l[i];cases h2:m[i];simp_all⟩
 · refine' ae8
 · refine' adk
def lT (b:Nat) (s:Sp):Sp:=⟨s.k,s.n,s.t.extract 0 (min s.t.size b)⟩
theorem ai9:∀ c,Tryd.f31.body = some c -> comp c = (.seq (.reg 0 [I.n 0 4 I.sn]) (.seq (.reg 1 [I.n 0 8 (.buildSlice 23 0 #[]),I.n 1 5 (I.sa 8)]) (.seq (.seq (.reg 2 [I.n 0 6 (I.si 0)]) (.block 0 (.loop (.seq (.seq (.reg 3 [I.n 0 9 (I.mv 6),I.n 1 10 (I.mv 0),I.n 2 11 (I.ln 10 23),I.n 3 12 (I.bo .lss 3 9 11 3),I.n 4 13 (I.mv 12),I.w 5 14 (I.mv 6) 13 true,I.w 6 15 (I.bc .lss 3 14 12 3) 13 true,I.n 7 16 (I.pc 13 15 false)]) (.cond (.tmp 16) .skip (.exit 0))) (.seq (.block 1 (.seq (.reg 5 [I.n 0 19 (I.mv 0),I.n 1 20 (I.mv 6),I.n 2 21 (I.ia 23 19 20),I.n 3 22 (I.fa 35 21 0),I.n 4 23 (I.ld 3 22),I.n 5 24 (I.bc .rem 3 23 3 3),I.n 6 25 (I.bc .add 3 24 3 3),I.n 7 26 (I.bc .rem 3 25 3 3),I.n 8 27 (.binOp .add 3 (.const (Value.int .i64 1)) (.tmp 26) 3),I.n 9 28 (.build 35 #[(0,.tmp 27)]),I.n 10 7 (.alloc 35),I.u 11 (I.st 35 7 28)]) (.seq (.seq (.reg 6 [I.n 0 29 (I.fa 35 7 0),I.n 1 30 (I.ld 3 29),I.n 2 31 (I.bc .eql 3 30 2 3)]) (.cond (.tmp 31) (.draw 7 [I.n 0 32 (I.mv 0),I.n 1 33 (I.mv 6),I.n 2 34 (I.ia 23 32 33),I.n 3 35 (I.fa 35 34 2),I.n 4 36 (I.ld 9 35),I.n 5 37 (I.mv 0),I.n 6 38 (I.mv 6),I.n 7 39 (I.ia 23 37 38),I.n 8 40 (I.fa 35 39 2),I.n 9 41 (I.ld 9 40),I.n 10 42 (I.ln 41 9),I.n 11 43 (.call { callee:=.builtin .min,args:=#[.tmp 42,.const (Value.int .i64 6)],argTypes:=#[3,3] }),I.n 12 44 (.slice 9 (.tmp 36) none (some (.tmp 43)) none),I.n 13 45 (I.c1 37 44 9),I.n 14 46 (I.fa 35 7 2),I.u 15 (I.st 9 46 45)] [[],[],[0,1],[2],[3],[],[],[5,6],[7],[8],[9],[10],[4,11],[12],[0,1,2,3,4,5,6,7,8,9,10,11,12,13],[14,13,13,0,1,2,3,4,5,6,7,8,9,10,11,12,13]]) (.seq (.reg 8 [I.n 0 47 (I.mv 0),I.n 1 48 (I.mv 6),I.n 2 49 (I.ia 23 47 48),I.n 3 50 (I.fa 35 49 1),I.n 4 51 (I.ld 3 50),I.n 5 52 (I.bc .rem 3 51 7 3),I.n 6 53 (I.bc .add 3 52 7 3),I.n 7 54 (I.bc .rem 3 53 7 3),I.n 8 55 (I.mv 1),I.n 9 56 (.call { callee:=.builtin .min,args:=#[.tmp 54,.tmp 55],argTypes:=#[3,3] }),I.n 10 57 (I.fa 35 7 1),I.u 11 (I.st 3 57 56)]) (.reg 9 [I.n 0 58 (I.mv 1),I.n 1 59 (I.fa 35 7 1),I.n 2 60 (I.ld 3 59),I.n 3 61 (I.bo .sub 3 58 60 3),I.n 4 1 (I.sa 61)])))) (.reg 10 [I.n 0 62 (I.mv 5),I.n 1 63 (I.ld 35 7),I.n 2 64 (I.b1 23 63),I.n 3 65 (I.ap 62 64 23 23),I.n 4 5 (I.sa 65)])))) (.reg 4 [I.n 0 17 (I.mv 6),I.n 1 18 (I.bc .add 3 17 1 3),I.n 2 6 (I.sa 18)])))))) (.seq (.seq (.reg 11 [I.n 0 66 (I.mv 1),I.n 1 67 (I.bc .gtr 3 66 0 3)]) (.cond (.tmp 67) (.reg 12 [I.n 0 68 (I.mv 5),I.n 1 69 (I.mv 1),I.n 2 70 (.build 35 #[(0,.const (Value.int .i64 1)),(1,.tmp 69)]),I.n 3 71 (I.b1 23 70),I.n 4 72 (I.ap 68 71 23 23),I.n 5 5 (I.sa 72)]) .skip)) (.seq (.reg 13 [I.n 0 73 (I.mv 5),I.n 1 4 (I.sa 73)]) .ret))))):=by
 intro c h
 have:c = Tryd.f31.body.get rfl:=by rw [<- Option.some_inj,<- h];rfl
 rw [this];rfl
theorem UY (k:Int):IntKind.i64.wrap (1 + (IntKind.i64.wrap (k.tmod 3 + 3)).tmod 3) = 1 + k % 3:=by
 have h:k.tmod 3 = k % 3 ∨ k.tmod 3 = k % 3 - 3:=by rw [Int.tmod_eq_emod];split <;> simp
 have h1:IntKind.i64.wrap (k.tmod 3 + 3) = k.tmod 3 + 3:=by rw [Ev.wrap64];omega
 rw [h1,Int.tmod_eq_emod_of_nonneg (by omega),Ev.wrap64];omega
theorem acN (k:Int):(IntKind.i64.wrap (k.tmod 7 + 7)).tmod 7 = k % 7:=by
 have h:k.tmod 7 = k % 7 ∨ k.tmod 7 = k % 7 - 7:=by rw [Int.tmod_eq_emod];split <;> simp
 have h1:IntKind.i64.wrap (k.tmod 7 + 7) = k.tmod 7 + 7:=by rw [Ev.wrap64];omega
 rw [h1,Int.tmod_eq_emod_of_nonneg (by omega)];omega
def oQ (s:Sp) (n:Int):Sp:=if 1 + s.k % 3 = 2 then ⟨2,0,lM (s.t.extract 0 (min s.t.size 6))⟩ else ⟨1 + s.k % 3,min (s.n % 7) n,⟨#[]⟩⟩
def dX (p:List Sp × Int) (s:Sp):List Sp × Int:=(p.1 ++ [oQ s p.2],p.2 - (oQ s p.2).n)
def qK (l:List Sp) (n:Int):List Sp × Int:=l.foldl dX ([],n)
theorem Ij (l:List Sp) (n:Int) {i:Nat} (h:i < l.length):qK (l.take (i + 1)) n = dX (qK (l.take i) n) l[i]:=by
 unfold qK;rw [List.take_succ_eq_append_getElem h,List.foldl_append];rfl
def iY (l:List Sp) (n:Int):List Sp:=(qK (l.take 12) n).1 ++ if 0 < (qK (l.take 12) n).2 then [⟨1,(qK (l.take 12) n).2,⟨#[]⟩⟩] else []
theorem Mc (l:List Sp):∀ a,(l.foldl dX a).1.length = a.1.length + l.length:=by
 induction l with
 | nil=>simp
 | cons s l ih=>intro a;rw [List.foldl_cons,ih];simp [dX];omega
theorem XR (l:List Sp):∀ a:List Sp × Int,0 <= a.2 -> 0 <= (l.foldl dX a).2 /\ (l.foldl dX a).2 <= a.2:=by
 induction l with
 | nil=>intro a h;simp;omega
 | cons s l ih =>
   intro a h
   rw [List.foldl_cons]
   have h1:0 <= (dX a s).2 /\ (dX a s).2 <= a.2:=by
     simp only [dX,oQ];split
     · simp;omega
     · simp only;omega
   obtain ⟨h2,h3⟩:=ih _ h1.1
   omega
theorem Cb (l:List Sp) (n:Int) (hn:0 <= n /\ n <= 2000000):aA env 31 [.lst 3 (bD l),.v (.int .i64 n)] (fun r hs=>r = .lst 3 (bD (iY l n)) /\ hs = []):=by
 have hsl:=bH l
 have hm:=Ev.ZG
 refine Ev.fn [0,1,4,5,6,7,16,31,67] 0 [.tmp 4] Tryd.func31 (ai9 _ rfl) ?_
 repeat' (first | refine' Ev.zS | refine' Ev.zK | ((with_reducible refine Ev.dG ?_);(first | refine Ev.dr 7 [] [0,1,2,3,4,5,6,7,8,9,10,11,12,13,14,15] ?_);intro Q hQ;(simp only [Ev.ak,Ev.au]);conv=>whnf) | refine' Ev.zT | fail)
 refine Ev.loop (fun k s=>∃ (i v c:Nat),s = ⟨[(0,.lst 3 (bD l)),(1,.v (.int .i64 (qK (l.take i) n).2)),(4,.v (.slice none 0 0)),(5,.own 512 v 0 i),(6,.v (.int .i64 i))],[(512,⟨3,35,v,0,false,bD (qK (l.take i) n).1⟩)],c⟩ /\ k + i = 12 /\ i <= l.length) ?_ ?_
 · refine Ev.zB ⟨12,0,?_,?_,rfl,?_⟩
   exact ⟨rfl,by omega⟩
 rintro k s1 ⟨i,v,c,rfl,hk,hi'⟩
 have hlen:(qK (l.take i) n).1.length = i:=by unfold qK;rw [Mc];simp;omega
 have hsl2:=bH (qK (l.take i) n).1
 obtain ⟨hn0,hn1⟩:0 <= (qK (l.take i) n).2 /\ (qK (l.take i) n).2 <= n:=XR (l.take i) ([],n) hn.1
 repeat' (first | refine' Ev.zS | refine' Ev.zK | ((refine Ev.aT (LX _ (by rw [ByteArray.size_extract];omega)) rfl rfl ?_);conv=>whnf) | ((with_reducible refine Ev.dG ?_);(first | refine Ev.dr 7 [] [0,1,2,3,4,5,6,7,8,9,10,11,12,13,14,15] ?_);intro Q hQ;(simp only [Ev.ak,Ev.au]);conv=>whnf) | refine' Ev.zT | fail)
 · rename_i hk2 _
   rw [UY] at hk2
   have hs:=Ij l n hi
   have hf:oQ l[i] (qK (l.take i) n).2 = ⟨2,0,lM (l[i].t.extract 0 (min l[i].t.size 6))⟩:=if_pos hk2
   have hx:(min (l[i].t.size:Int) 6).toNat = min l[i].t.size 6:=by omega
   refine Ev.zA (k - 1) ⟨i + 1,?_,?_,rfl,?_⟩ (by refine' Ev.zp <;> first | (first | (simp;done) | (rw [hs];simp [dX,hf,bD,sV,UY,hk2,hx];done)) | rfl | (refine' Ev.ze;(first | (simp;done) | (rw [hs];simp [dX,hf,bD,sV,UY,hk2,hx];done))) | fail)
   exact ⟨by omega,by omega⟩
 · rename_i hk2
   rw [UY] at hk2
   have hs:=Ij l n hi
   have hf:oQ l[i] (qK (l.take i) n).2 = ⟨1 + l[i].k % 3,min (l[i].n % 7) (qK (l.take i) n).2,⟨#[]⟩⟩:=if_neg hk2
   have hw:IntKind.i64.wrap ((qK (l.take i) n).2 - min (l[i].n % 7) (qK (l.take i) n).2) = (qK (l.take i) n).2 - min (l[i].n % 7) (qK (l.take i) n).2:=by rw [Ev.wrap64];omega
   refine Ev.zA (k - 1) ⟨i + 1,?_,?_,rfl,?_⟩ (by refine' Ev.zp <;> first | (first | (simp;done) | (rw [hs];simp [dX,hf,bD,sV,UY,acN];done) | (rw [hs,acN];simp only [dX,hf];exact hw)) | rfl | (refine' Ev.ze;(first | (simp;done) | (rw [hs];simp [dX,hf,bD,sV,UY,acN];done) | (rw [hs,acN];simp only [dX,hf];exact hw))) | fail)
   exact ⟨by omega,by omega⟩
 all_goals
   have hT:l.take 12 = l.take i:=by
     first
       | rw [show i = 12 by omega]
       | rw [List.take_of_length_le (by simp at *;omega),List.take_of_length_le (by simp at *;omega)]
   refine ⟨Ev.aZ (Ev.oJ ?_ ?_),rfl⟩
   · simp [hlen,bH]
   · simp [iY,hT,bD,sV, *]
theorem wrap_add (a b:Int):IntKind.i64.wrap (IntKind.i64.wrap a + b) = IntKind.i64.wrap (a + b):=by simp only [Ev.wrap64];omega
theorem aU {a:Int} (h : -9223372036854775808 <= a /\ a < 9223372036854775808):IntKind.i64.wrap a = a:=by rw [Ev.wrap64];omega
def bC (f:Sp -> Int) (l:List Sp):Int:=(l.map f).sum
theorem Af (f:Sp -> Int):bC f [] = 0:=rfl
theorem bZ (f:Sp -> Int) (s:Sp) (l:List Sp):bC f (s :: l) = f s + bC f l:=by simp [bC]
theorem Md (f:Sp -> Int) (a b:List Sp):bC f (a ++ b) = bC f a + bC f b:=by simp [bC]
theorem Ik (f:Sp -> Int):∀ (l:List Sp) (a:Int),l.foldl (fun a s=>IntKind.i64.wrap (a + f s)) (IntKind.i64.wrap a) = IntKind.i64.wrap (a + bC f l)
 | [],a=>by simp [bC]
 | s :: l,a=>by rw [List.foldl_cons,wrap_add,Ik f l,bZ,Int.add_assoc]
theorem QC (f:Sp -> Int) (l:List Sp):sumW f l = IntKind.i64.wrap (bC f l):=by
 have h:=Ik f l 0
 rw [Int.zero_add] at h;rw [<- h];rfl
theorem kH (f:Sp -> Int) (b:Int):∀ l:List Sp,(∀ s ∈ l,0 <= f s /\ f s <= b) -> 0 <= bC f l /\ bC f l <= b * l.length
 | [],_=>by simp [bC]
 | s :: l,h=>by
   have h1:=h s (by simp)
   have h2:=kH f b l (fun s hs=>h s (by simp [hs]))
   rw [bZ,List.length_cons]
   have:b * ((l.length + 1:Nat):Int) = b * l.length + b:=by rw [Int.natCast_succ,Int.mul_add,Int.mul_one]
   omega
def dV (s:Sp):Int:=qo s.k s.n
def dK (s:Sp):Int:=kW s.k s.n s.t
theorem PL (t:ByteArray):validD (lM t).data.toList = true:=Ie t
theorem Il {s:Sp} (n:Int) (h:1 + s.k % 3 = 2):oQ s n = ⟨2,0,lM (s.t.extract 0 (min s.t.size 6))⟩:=if_pos h
theorem Io {s:Sp} (n:Int) (h:¬ 1 + s.k % 3 = 2):oQ s n = ⟨1 + s.k % 3,min (s.n % 7) n,⟨#[]⟩⟩:=if_neg h
theorem UZ (s:Sp) {n:Int} (h:0 <= n /\ n <= 1048576):qJ (oQ s n) = 0:=by
 by_cases hk:1 + s.k % 3 = 2
 · rw [Il n hk];simp [qJ,BQ,PL]
 · rw [Io n hk]
   have:1 + s.k % 3 = 1 ∨ 1 + s.k % 3 = 3:=by omega
   simp only [qJ,BQ,this,if_true]
   rw [if_neg (by omega)]
theorem acO (s:Sp) {n:Int} (h:0 <= n):0 <= (oQ s n).n /\ (oQ s n).n <= 6 /\ (oQ s n).n <= n /\ dV (oQ s n) = (oQ s n).n:=by
 by_cases hk:1 + s.k % 3 = 2
 · rw [Il n hk];simp [dV,qo];omega
 · rw [Io n hk]
   have:1 + s.k % 3 = 1 ∨ 1 + s.k % 3 = 3:=by omega
   simp only [dV,qo,this,if_true,and_true];omega
theorem acP (s:Sp) (n:Int):(oQ s n).t.size <= 24:=by
 unfold oQ;split
 · have h:=QB (wM (s.t.extract 0 (min s.t.size 6)) (s.t.extract 0 (min s.t.size 6)).size)
   rw [vK,<- BU,bM] at h
   have e:(s.t.extract 0 (min s.t.size 6)).size <= 6:=by rw [ByteArray.size_extract];omega
   show (lM _).size <= 24
   unfold lM;omega
 · show (⟨#[]⟩:ByteArray).size <= 24;decide
theorem XT (l:List Sp):∀ a:List Sp × Int,(0 <= a.2 /\ a.2 <= 1048576) -> (∀ s ∈ a.1,qJ s = 0 /\ s.t.size <= 24 /\ 0 <= dV s /\ dV s <= 6) ->
   (∀ s ∈ (l.foldl dX a).1,qJ s = 0 /\ s.t.size <= 24 /\ 0 <= dV s /\ dV s <= 6) /\ bC dV (l.foldl dX a).1 + (l.foldl dX a).2 = bC dV a.1 + a.2:=by
 induction l with
 | nil=>intro a _ h;exact ⟨h,rfl⟩
 | cons s l ih =>
   intro a ha h
   rw [List.foldl_cons]
   obtain ⟨b1,b2,b3,b4⟩:=acO s ha.1
   have key:=ih (dX a s) (by simp only [dX];omega) (by
     intro x hx
     simp only [dX,List.mem_append,List.mem_singleton] at hx
     rcases hx with hx | rfl
     · exact h x hx
     · exact ⟨UZ s ha,acP s _,by omega,by omega⟩)
   refine ⟨key.1,?_⟩
   rw [key.2]
   simp only [dX,Md,bZ,Af,b4];omega
theorem vM (l:List Sp) {n:Int} (hn:0 <= n /\ n <= 1048576):(∀ s ∈ iY l n,qJ s = 0 /\ s.t.size <= 24 /\ 0 <= dV s /\ dV s <= 1048576) /\ bC dV (iY l n) = n /\ (iY l n).length <= 13:=by
 obtain ⟨h1,h2⟩:=XT (l.take 12) ([],n) hn (by simp)
 obtain ⟨h3,h4⟩:=XR (l.take 12) ([],n) hn.1
 have h5:=Mc (l.take 12) ([],n)
 rw [show (l.take 12).foldl dX ([],n) = qK (l.take 12) n from rfl] at h1 h2 h3 h4 h5
 rw [Af] at h2
 simp only at h2 h3 h4 h5
 unfold iY
 refine ⟨?_,?_,?_⟩
 · intro s hs
   rw [List.mem_append] at hs
   rcases hs with hs | hs
   · obtain ⟨a,b,c,d⟩:=h1 s hs;exact ⟨a,b,c,by omega⟩
   · split at hs
     · simp only [List.mem_singleton] at hs;subst hs
       refine ⟨?_,?_,?_⟩
       · simp only [qJ,BQ,true_or,if_true];rw [if_neg (by omega)]
       · show (⟨#[]⟩:ByteArray).size <= 24;decide
       · simp only [dV,qo,true_or,if_true];omega
     · simp at hs
 · rw [Md]
   split
   · simp only [bZ,Af,dV,qo,true_or,if_true];omega
   · rw [Af];omega
 · rw [List.length_append,h5]
   have:(l.take 12).length <= 12:=by rw [List.length_take];omega
   split <;> simp <;> omega
theorem Dq (f:Sp -> Int):∀ l:List Sp,(∀ s ∈ l,f s = 0) -> gU f l = 0
 | [],_=>rfl
 | s :: l,h=>by simp only [gU];rw [if_pos (h s (by simp))];exact Dq f l (fun x hx=>h x (by simp [hx]))
theorem PN (l:List Sp):jV l = IntKind.i64.wrap (bC dV l):=QC _ _
theorem jf (l:List Sp):outW l = IntKind.i64.wrap (bC dK l):=QC _ _
theorem JJ (l:List Sp) {n:Int} (hn:0 <= n /\ n <= 1048576):jV (iY l n) = n:=by
 rw [PN,(vM l hn).2.1];exact aU (by omega)
theorem Fq (l:List Sp) {n:Int} (hn:0 <= n /\ n <= 1048576):aH (iY l n) = 0:=by
 unfold aH
 rw [Dq _ _ (fun s hs=>((vM l hn).1 s hs).1),if_pos rfl,JJ l hn,if_neg (by omega)]
theorem Fv (l:List Sp) {n:Int} (hn:0 <= n /\ n <= 1048576):Small (iY l n):=fun s hs=>by have:=((vM l hn).1 s hs).2.1;omega
end Go.Proofs.YtadlnaljicikfaaDoor.aB
namespace Go.Proofs.YtadlnaljicikfaaDoor.aB
open Go
def JK:Nat -> Nat -> List UInt8
 | 0,n=>[UInt8.ofNat n]
 | f + 1,n=>if n < 128 then [UInt8.ofNat n] else UInt8.ofNat (128 + n % 128) :: JK f (n / 128)
def uj (n:Nat):List UInt8:=JK 4 n
theorem ofNat_toNat {n:Nat} (h:n < 256):(UInt8.ofNat n).toNat = n:=by rw [UInt8.toNat_ofNat'];omega
theorem Ag {n:Nat} (h:n < 268435456):1 <= (uj n).length /\ (uj n).length <= 4:=by
 unfold uj
 simp only [JK]
 repeat' split
 all_goals first | (simp;done) | (exfalso;omega)
end Go.Proofs.YtadlnaljicikfaaDoor.aB
namespace Go.Proofs.YtadlnaljicikfaaDoor.aB
open Go Go.Lib
theorem Me {n n' b0 b1 b2 b3 c1 c2 c3:Nat} (h1:1 < n -> 1 < n' /\ c1 = b1) (h2:2 < n -> 2 < n' /\ c2 = b2) (h3:3 < n -> 3 < n' /\ c3 = b3) (h:decodeN n b0 b1 b2 b3 ≠ (65533,1)):decodeN n' b0 c1 c2 c3 = decodeN n b0 b1 b2 b3:=by
 unfold decodeN at h ⊢
 by_cases a0:b0 < 128
 · rw [if_pos a0,if_pos a0]
 rw [if_neg a0] at h ⊢
 rw [if_neg a0]
 by_cases a1:b0 / 32 = 6 /\ (1 < n /\ b1 / 64 = 2)
 · obtain ⟨x,rfl⟩:=h1 a1.2.1
   rw [if_pos a1,if_pos ⟨a1.1,x,a1.2.2⟩]
 rw [if_neg a1] at h ⊢
 by_cases a2:b0 / 16 = 14 /\ (1 < n /\ b1 / 64 = 2) /\ (2 < n /\ b2 / 64 = 2)
 · obtain ⟨x,rfl⟩:=h1 a2.2.1.1
   obtain ⟨y,rfl⟩:=h2 a2.2.2.1
   have a1':¬ (b0 / 32 = 6 /\ (1 < n' /\ c1 / 64 = 2)):=by omega
   rw [if_neg a1',if_pos a2,if_pos ⟨a2.1,⟨x,a2.2.1.2⟩,y,a2.2.2.2⟩]
 rw [if_neg a2] at h ⊢
 by_cases a3:b0 / 8 = 30 /\ (1 < n /\ b1 / 64 = 2) /\ (2 < n /\ b2 / 64 = 2) /\ (3 < n /\ b3 / 64 = 2)
 · obtain ⟨x,rfl⟩:=h1 a3.2.1.1
   obtain ⟨y,rfl⟩:=h2 a3.2.2.1.1
   obtain ⟨z,rfl⟩:=h3 a3.2.2.2.1
   have a1':¬ (b0 / 32 = 6 /\ (1 < n' /\ c1 / 64 = 2)):=by omega
   have a2':¬ (b0 / 16 = 14 /\ (1 < n' /\ c1 / 64 = 2) /\ (2 < n' /\ c2 / 64 = 2)):=by omega
   rw [if_neg a1',if_neg a2',if_pos a3,if_pos ⟨a3.1,⟨x,a3.2.1.2⟩,⟨y,a3.2.2.1.2⟩,z,a3.2.2.2.2⟩]
 rw [if_neg a3] at h
 exact absurd rfl h
theorem yG {a:List UInt8} (ha:a ≠ []) (h:decodeL a ≠ (65533,1)) (b:List UInt8):decodeL (a ++ b) = decodeL a:=by
 have hp:=List.length_pos_iff.2 ha
 rw [decodeL_N] at h ⊢
 rw [decodeL_N a]
 have g:∀ i,i < a.length -> ((a ++ b).getD i 0).toNat = (a.getD i 0).toNat:=fun i hi=>by
   simp only [List.getD_eq_getElem?_getD,List.getElem?_append_left hi]
 rw [g 0 hp]
 refine Me (fun h1=>?_) (fun h1=>?_) (fun h1=>?_) h
 · exact ⟨by rw [List.length_append];omega,g 1 h1⟩
 · exact ⟨by rw [List.length_append];omega,g 2 h1⟩
 · exact ⟨by rw [List.length_append];omega,g 3 h1⟩
def qY:Nat -> List UInt8 -> List Nat
 | 0,_=>[]
 | n + 1,l=>if l = [] then [] else (decodeL l).1 :: qY n (l.drop (decodeL l).2)
def pts (l:List UInt8):List Nat:=qY l.length l
theorem Fz:∀ (n m:Nat) (l:List UInt8),l.length <= n -> l.length <= m -> qY n l = qY m l
 | 0,0,l,_,_=>rfl
 | 0,m + 1,l,h,_=>by
   have:l = []:=List.length_eq_zero_iff.1 (by omega)
   subst this;simp [qY]
 | n + 1,0,l,_,h=>by
   have:l = []:=List.length_eq_zero_iff.1 (by omega)
   subst this;simp [qY]
 | n + 1,m + 1,l,h1,h2=>by
   simp only [qY]
   by_cases he:l = []
   · rw [if_pos he,if_pos he]
   · rw [if_neg he,if_neg he]
     have:=decodeL_width l
     rw [Fz n m _ (by rw [List.length_drop];omega) (by rw [List.length_drop];omega)]
theorem JL:pts [] = []:=rfl
theorem oU {l:List UInt8} (h:l ≠ []):pts l = (decodeL l).1 :: pts (l.drop (decodeL l).2):=by
 unfold pts
 refine' aew
 rw [hn,qY,if_neg h]
 have:=decodeL_width l
 rw [Fz n _ _ (by rw [List.length_drop];omega) (Nat.le_refl _)]
theorem Ah {P:List UInt8 -> Prop} (h0:P []) (h1:∀ l,l ≠ [] -> validD l = true -> decodeL l ≠ (65533,1) -> validD (l.drop (decodeL l).2) = true -> P (l.drop (decodeL l).2) -> P l):∀ l,validD l = true -> P l:=by
 have key:∀ n (l:List UInt8),l.length <= n -> validD l = true -> P l:=by
   intro n
   induction n with
   | zero=>intro l hl _;have:l = []:=List.length_eq_zero_iff.1 (by omega);subst this;exact h0
   | succ n ih =>
     intro l hl hv
     by_cases he:l = []
     · subst he;exact h0
     · have hs:=hv
       rw [validD_step he] at hs
       by_cases hd:decodeL l = (65533,1)
       · rw [if_pos hd] at hs;cases hs
       · rw [if_neg hd] at hs
         have hw:=decodeL_width l
         have hp:=List.length_pos_iff.2 he
         exact h1 l he hv hd hs (ih _ (by rw [List.length_drop];omega) hs)
 intro l;exact key l.length l (Nat.le_refl _)
theorem MB {l:List UInt8} (he:l ≠ []) (b:List UInt8):(l ++ b).drop (decodeL l).2 = l.drop (decodeL l).2 ++ b:=by
 rw [List.drop_append_of_le_length (decodeL_le l he)]
theorem Ip:∀ a,validD a = true -> ∀ b,validD (a ++ b) = validD b:=by
 refine Ah (fun b=>rfl) (fun l he hv hd hs ih b=>?_)
 have hne:l ++ b ≠ []:=by simp [he]
 rw [validD_step hne,yG he hd,if_neg hd,MB he,ih]
theorem QD:∀ a,validD a = true -> ∀ b,pts (a ++ b) = pts a ++ pts b:=by
 refine Ah (fun b=>by simp [JL]) (fun l he hv hd hs ih b=>?_)
 have hne:l ++ b ≠ []:=by simp [he]
 rw [oU hne,yG he hd,MB he,ih,oU he,List.cons_append]
theorem Ai:∀ (l:List UInt8) (a:Int),(nC l a).length = (pts l).length:=by
 have key:∀ n (l:List UInt8) (a:Int),l.length <= n -> (nC l a).length = (pts l).length:=by
   intro n
   induction n with
   | zero=>intro l a hl;have:l = []:=List.length_eq_zero_iff.1 (by omega);subst this;rfl
   | succ n ih =>
     intro l a hl
     by_cases he:l = []
     · subst he;rfl
     · have hw:=decodeL_width l
       have hp:=List.length_pos_iff.2 he
       rw [qW he,oU he,List.length_cons,List.length_cons,ih _ _ (by rw [List.length_drop];omega)]
 intro l a;exact key l.length l a (Nat.le_refl _)
theorem bU {l:List UInt8} (h:validD l = true):aN l = (pts l).length:=by
 unfold aN;rw [if_pos h,Ai]
theorem oV {l:List UInt8} (h:validD l = false):aN l = -1:=by
 unfold aN;rw [h];rfl
theorem PO {a b:List UInt8} (ha:validD a = true) (hb:validD b = true):aN (a ++ b) = aN a + aN b:=by
 rw [bU ha,bU hb,bU (by rw [Ip a ha,hb]),QD a ha,List.length_append];rfl
theorem nD (l:List UInt8):(pts l).length <= l.length:=by rw [<- Ai l 0];exact LU l 0
theorem aja {l:List UInt8} (h:l ≠ []):pts l ≠ []:=by rw [oU h];simp
theorem wP (a b:ByteArray):(a ++ b).data.toList = a.data.toList ++ b.data.toList:=XO a b
theorem QE {t:ByteArray}:t = ⟨#[]⟩ ↔ t.data.toList = []:=by
 constructor
 · rintro rfl;rfl
 · intro h;cases t with | mk d=>simp at h;subst h;rfl
def emptyS (s:Sp):Bool:=decide (s.n = 0) && decide (s.t = ⟨#[]⟩)
def oW (p:Option Int):List Sp -> Bool
 | []=>true
 | s :: l=>!emptyS s && !decide (p = some s.k) && oW (some s.k) l
def GH (l:List Sp):Bool:=oW none l
def mrg (a b:Sp):Sp:=⟨a.k,IntKind.i64.wrap (a.n + b.n),a.t ++ b.t⟩
def fK (cur:Sp):List Sp -> List Sp
 | []=>[cur]
 | s :: l=>if emptyS s then fK cur l else if s.k = cur.k then fK (mrg cur s) l else cur :: fK s l
def norm:List Sp -> List Sp
 | []=>[]
 | s :: l=>if emptyS s then norm l else fK s l
def cu (s:Sp):Prop:=qJ s = 0
theorem cu.cases {s:Sp} (h:cu s):((s.k = 1 ∨ s.k = 3) /\ 0 <= s.n /\ s.n <= 1048576 /\ s.t = ⟨#[]⟩) ∨ (s.k = 2 /\ s.n = 0 /\ validD s.t.data.toList = true):=by
 unfold cu qJ BQ at h
 by_cases h1:s.k = 1 ∨ s.k = 3
 · rw [if_pos h1] at h
   by_cases h2:s.n < 0 ∨ 1048576 < s.n
   · rw [if_pos h2] at h;exact absurd h (by decide)
   · rw [if_neg h2] at h
     by_cases h3:s.t = ⟨#[]⟩
     · exact .inl ⟨h1,by omega,by omega,h3⟩
     · rw [if_neg h3] at h;exact absurd h (by decide)
 · rw [if_neg h1] at h
   by_cases h2:s.k = 2
   · rw [if_pos h2] at h
     by_cases h3:s.n ≠ 0
     · rw [if_pos h3] at h;exact absurd h (by decide)
     · rw [if_neg h3] at h
       cases hv:validD s.t.data.toList with
       | true=>exact .inr ⟨h2,by omega,rfl⟩
       | false=>rw [hv] at h;exact absurd h (by decide)
   · rw [if_neg h2] at h;exact absurd h (by decide)
theorem cu.keep {s:Sp} (h1:s.k = 1 ∨ s.k = 3) (h2:0 <= s.n /\ s.n <= 1048576) (h3:s.t = ⟨#[]⟩):cu s:=by
 unfold cu qJ BQ;rw [if_pos h1,if_neg (by omega),if_pos h3]
theorem cu.put {s:Sp} (h1:s.k = 2) (h2:s.n = 0) (h3:validD s.t.data.toList = true):cu s:=by
 unfold cu qJ BQ;rw [if_neg (by omega),if_pos h1,if_neg (by omega),if_pos h3]
theorem gG (l:List Sp):aH l = 0 ↔ (∀ s ∈ l,cu s) /\ jV l <= 1048576:=by
 have h:gU qJ l = 0 ↔ ∀ s ∈ l,cu s:=by
   induction l with
   | nil=>simp [gU]
   | cons s l ih =>
     simp only [gU,List.mem_cons,forall_eq_or_imp]
     by_cases h:qJ s = 0
     · rw [if_pos h,ih];exact ⟨fun a=>⟨h,a⟩,fun a=>a.2⟩
     · rw [if_neg h];exact ⟨fun a=>absurd a h,fun a=>absurd a.1 h⟩
 unfold aH
 by_cases h0:gU qJ l = 0
 · rw [if_pos h0]
   by_cases h1:1048576 < jV l
   · rw [if_pos h1];exact ⟨fun a=>absurd a (by decide),fun a=>by omega⟩
   · rw [if_neg h1];exact ⟨fun _=>⟨h.1 h0,by omega⟩,fun _=>rfl⟩
 · rw [if_neg h0];exact ⟨fun a=>absurd a h0,fun a=>absurd (h.2 a.1) h0⟩
theorem cu.dV {s:Sp} (h:cu s):0 <= dV s /\ dV s <= 1048576:=by
 unfold aB.dV qo
 rcases h.cases with ⟨a,b,c,_⟩ | ⟨a,b,_⟩
 · rw [if_pos a];exact ⟨b,c⟩
 · rw [if_neg (by omega)];omega
theorem ku {l:List Sp} (h:∀ s ∈ l,cu s) (hl:l.length <= 1000000000):jV l = bC dV l:=by
 rw [PN]
 have:=kH dV 1048576 l (fun s hs=>(h s hs).dV)
 exact aU (by omega)
theorem nO {s:Sp}:emptyS s = true ↔ s.n = 0 /\ s.t = ⟨#[]⟩:=by simp [emptyS]
theorem vN {s:Sp} (h:emptyS s = true):dV s = 0 /\ dK s = 0:=by
 obtain ⟨h1,h2⟩:=nO.1 h
 unfold dV dK qo kW
 rw [h1,h2]
 refine ⟨by split <;> rfl,?_⟩
 split
 · rfl
 · split
   · rfl
   · rfl
def dw (l:List Sp):Nat:=(l.map fun s=>s.t.size).sum
theorem aQ (s:Sp) (l:List Sp):dw (s :: l) = s.t.size + dw l:=by simp [dw]
theorem Iq {s:Sp} (h:emptyS s = true):s.t.size = 0:=by rw [(nO.1 h).2];rfl
theorem MC (a b:ByteArray):(a ++ b).size = a.size + b.size:=by rw [<- bM,<- bM,<- bM,wP,List.length_append]
theorem JM {a b:Sp} (ha:cu a) (hb:cu b) (hk:b.k = a.k) (hs:dV a + dV b <= 1048576):cu (mrg a b) /\ dV (mrg a b) = dV a + dV b /\ dK (mrg a b) = dK a + dK b /\ (mrg a b).t.size = a.t.size + b.t.size /\ (mrg a b).n = a.n + b.n:=by
 rcases ha.cases with ⟨a1,a2,a3,a4⟩ | ⟨a1,a2,a3⟩
 · rcases hb.cases with ⟨b1,b2,b3,b4⟩ | ⟨b1,b2,b3⟩
   · have e1:dV a = a.n:=by unfold dV qo;rw [if_pos a1]
     have e2:dV b = b.n:=by unfold dV qo;rw [if_pos b1]
     rw [e1,e2] at hs ⊢
     have ew:IntKind.i64.wrap (a.n + b.n) = a.n + b.n:=aU (by omega)
     have hm:mrg a b = ⟨a.k,a.n + b.n,⟨#[]⟩⟩:=by
       unfold mrg;rw [ew,a4,b4];rfl
     rw [hm]
     refine ⟨cu.keep a1 (by simp only;omega) rfl,?_,?_,?_,rfl⟩
     · unfold dV qo;simp only;rw [if_pos a1]
     · unfold dK kW;simp only;rw [hk]
       by_cases h1:a.k = 1
       · rw [if_pos h1,if_pos h1,if_pos h1]
       · rw [if_neg h1,if_neg h1,if_neg h1,if_neg (by omega),if_neg (by omega),if_neg (by omega)];rfl
     · rw [a4,b4];rfl
   · omega
 · rcases hb.cases with ⟨b1,b2,b3,b4⟩ | ⟨b1,b2,b3⟩
   · omega
   · have ew:IntKind.i64.wrap (a.n + b.n) = 0:=by rw [a2,b2];rfl
     have hm:mrg a b = ⟨a.k,0,a.t ++ b.t⟩:=by unfold mrg;rw [ew]
     rw [hm]
     have hv:validD (a.t ++ b.t).data.toList = true:=by rw [wP,Ip _ a3,b3]
     refine ⟨cu.put a1 rfl hv,?_,?_,MC _ _,by simp only;omega⟩
     · unfold dV qo;simp only;rw [hk,a1];rfl
     · unfold dK kW;simp only;rw [hk,a1]
       simp only [show ¬ ((2:Int) = 1) by decide,if_false,if_true]
       rw [wP,PO a3 b3]
       have:=bU a3;have:=bU b3
       omega
theorem wQ:∀ (l:List Sp) (cur:Sp),cu cur -> (∀ s ∈ l,cu s) -> dV cur + bC dV l <= 1048576 ->
   (∀ s ∈ fK cur l,cu s) /\ bC dV (fK cur l) = dV cur + bC dV l /\ bC dK (fK cur l) = dK cur + bC dK l /\ dw (fK cur l) = cur.t.size + dw l /\ (fK cur l).length <= l.length + 1
 | [],cur,hc,hl,hs=>by
   refine ⟨fun s h=>?_,by simp [fK,bC],by simp [fK,bC],by simp [fK,dw],by simp [fK]⟩
   simp [fK] at h;subst h;exact hc
 | s :: l,cur,hc,hl,hs=>by
   have h1:=hl s (by simp)
   have h2:∀ x ∈ l,cu x:=fun x hx=>hl x (by simp [hx])
   have h3:0 <= bC dV l:=(kH dV 1048576 l (fun x hx=>(h2 x hx).dV)).1
   have h4:=h1.dV;have h5:=hc.dV
   rw [bZ] at hs
   simp only [fK,bZ,aQ,List.length_cons]
   by_cases he:emptyS s = true
   · rw [if_pos he]
     obtain ⟨e1,e2⟩:=vN he
     have e3:=Iq he
     obtain ⟨a,b,c,d,f⟩:=wQ l cur hc h2 (by omega)
     exact ⟨a,by omega,by omega,by omega,by omega⟩
   · rw [if_neg he]
     by_cases hk:s.k = cur.k
     · rw [if_pos hk]
       obtain ⟨m1,m2,m3,m4,_⟩:=JM hc h1 hk (by omega)
       obtain ⟨a,b,c,d,f⟩:=wQ l (mrg cur s) m1 h2 (by omega)
       exact ⟨a,by omega,by omega,by omega,by omega⟩
     · rw [if_neg hk]
       obtain ⟨a,b,c,d,f⟩:=wQ l s h1 h2 (by omega)
       refine ⟨fun x hx=>?_,by rw [bZ];omega,by rw [bZ];omega,by rw [aQ];omega,by rw [List.length_cons];omega⟩
       rcases List.mem_cons.1 hx with rfl | hx
       · exact hc
       · exact a x hx
theorem kX:∀ (l:List Sp),(∀ s ∈ l,cu s) -> bC dV l <= 1048576 ->
   (∀ s ∈ norm l,cu s) /\ bC dV (norm l) = bC dV l /\ bC dK (norm l) = bC dK l /\ dw (norm l) = dw l /\ (norm l).length <= l.length
 | [],hl,hs=>by simp [norm]
 | s :: l,hl,hs=>by
   have h1:=hl s (by simp)
   have h2:∀ x ∈ l,cu x:=fun x hx=>hl x (by simp [hx])
   rw [bZ] at hs
   simp only [norm,bZ,aQ,List.length_cons]
   by_cases he:emptyS s = true
   · rw [if_pos he]
     obtain ⟨e1,e2⟩:=vN he
     have e3:=Iq he
     obtain ⟨a,b,c,d,f⟩:=kX l h2 (by omega)
     exact ⟨a,by omega,by omega,by omega,by omega⟩
   · rw [if_neg he]
     exact wQ l s h1 h2 hs
theorem wR:∀ (l:List Sp) (cur:Sp) (p:Option Int),emptyS cur = false -> cu cur -> (∀ s ∈ l,cu s) -> dV cur + bC dV l <= 1048576 -> p ≠ some cur.k -> oW p (fK cur l) = true
 | [],cur,p,hc,_,_,_,hp=>by simp [fK,oW,hc,hp]
 | s :: l,cur,p,hc,ho,hl,hs,hp=>by
   have h1:=hl s (by simp)
   have h2:∀ x ∈ l,cu x:=fun x hx=>hl x (by simp [hx])
   have h3:0 <= bC dV l:=(kH dV 1048576 l (fun x hx=>(h2 x hx).dV)).1
   have h4:=h1.dV;have h5:=ho.dV
   rw [bZ] at hs
   simp only [fK]
   by_cases he:emptyS s = true
   · rw [if_pos he]
     exact wR l cur p hc ho h2 (by have:=(vN he).1;omega) hp
   · rw [if_neg he]
     by_cases hk:s.k = cur.k
     · rw [if_pos hk]
       obtain ⟨m1,m2,m3,m4,m5⟩:=JM ho h1 hk (by omega)
       refine wR l (mrg cur s) p ?_ m1 h2 (by omega) hp
       rw [Bool.eq_false_iff]
       intro hb
       obtain ⟨b1,b2⟩:=nO.1 hb
       rw [b2] at m4
       have:cur.t.size = 0:=by have:(⟨#[]⟩:ByteArray).size = 0:=rfl;omega
       have hct:cur.t = ⟨#[]⟩:=QE.2 (List.length_eq_zero_iff.1 (by rw [bM];exact this))
       have hn:cur.n ≠ 0:=fun hn=>by rw [<- Bool.not_eq_true] at hc;exact hc (nO.2 ⟨hn,hct⟩)
       rcases ho.cases with ⟨_,x,_⟩ | ⟨_,x,_⟩ <;> rcases h1.cases with ⟨_,y,_⟩ | ⟨_,y,_⟩ <;> omega
     · rw [if_neg hk]
       simp only [oW,hc,Bool.not_false,Bool.true_and,Bool.and_eq_true]
       refine ⟨by simp [hp],?_⟩
       exact wR l s (some cur.k) (by simpa using he) h1 h2 (by omega) (by intro e;exact hk (Option.some.inj e).symm)
theorem qZ:∀ (l:List Sp),(∀ s ∈ l,cu s) -> bC dV l <= 1048576 -> GH (norm l) = true
 | [],_,_=>rfl
 | s :: l,hl,hs=>by
   have h1:=hl s (by simp)
   have h2:∀ x ∈ l,cu x:=fun x hx=>hl x (by simp [hx])
   rw [bZ] at hs
   simp only [norm]
   by_cases he:emptyS s = true
   · rw [if_pos he];exact qZ l h2 (by have:=(vN he).1;omega)
   · rw [if_neg he];exact wR l s none (by simpa using he) h1 h2 hs (by simp)
theorem MF {l:List Sp} (h:aH l = 0) (hl:l.length <= 1000000000):aH (norm l) = 0:=by
 obtain ⟨h1,h2⟩:=(gG l).1 h
 rw [ku h1 hl] at h2
 obtain ⟨a,b,c,d,f⟩:=kX l h1 h2
 refine (gG _).2 ⟨a,?_⟩
 rw [ku a (by omega)];omega
theorem acQ {l:List Sp} (h:aH l = 0) (hl:l.length <= 1000000000):jV (norm l) = jV l:=by
 obtain ⟨h1,h2⟩:=(gG l).1 h
 rw [ku h1 hl] at h2 ⊢
 obtain ⟨a,b,c,d,f⟩:=kX l h1 h2
 rw [ku a (by omega)];omega
theorem MG {l:List Sp} (h:aH l = 0) (hl:l.length <= 1000000000):outW (norm l) = outW l:=by
 obtain ⟨h1,h2⟩:=(gG l).1 h
 rw [ku h1 hl] at h2
 obtain ⟨a,b,c,d,f⟩:=kX l h1 h2
 rw [jf,jf,c]
def bigT (l:List Sp):Bool:=l.any fun s=>decide (65536 < s.t.size)
def QF (l:List Sp):Int:=if aH l = 0 then (if GH l then (if 65536 < l.length then 2 else if bigT l then 2 else 0) else 8) else aH l
theorem XU {l:List Sp} (h1:aH l = 0) (h2:GH l = true) (h3:l.length <= 65536) (h4:∀ s ∈ l,s.t.size <= 65536):QF l = 0:=by
 have h5:bigT l = false:=by
   simp only [bigT,List.any_eq_false,decide_eq_true_eq]
   intro s hs;have:=h4 s hs;omega
 unfold QF;rw [if_pos h1,h2,if_pos rfl,if_neg (by omega),h5];rfl
def dM (was:Int):List Int -> Bool
 | []=>true
 | n :: l=>decide (was < n) && decide (n <= 268435455) && dM n l
def rises (l:List Int):Bool:=!l.isEmpty && decide (l.length <= 65536) && dM (-1) l
def rowB (was:Int):List Int -> List UInt8
 | []=>[]
 | n :: l=>uj (n - was - 1).toNat ++ rowB n l
def encR (l:List Int):List UInt8:=uj l.length ++ rowB (-1) l
def mZ (l:List Int):Int:=if rises l then 0 else 2
def afT (l:List Int):List UInt8:=if rises l then encR l else []
end Go.Proofs.YtadlnaljicikfaaDoor.aB
namespace Go.Proofs.YtadlnaljicikfaaDoor.aB
open Go
set_option maxRecDepth 100000
attribute [local irreducible] Ev.iE Ev.iG Ev.bW Ev.runK Ev.bY Ev.gq Ev.Side Ev.Wp Ev.Again Ev.To Ev.Fin
open Go.Lib Go.RowKit
theorem acR (a b:Nat) (ha:a < 9223372036854775808) (hb:b < 9223372036854775808):bitsOf .or .i64 a b = ((a ||| b:Nat):Int):=by
 have h1:(a ||| b) < 2 ^ 63:=Nat.or_lt_two_pow (by simpa using ha) (by simpa using hb)
 show IntKind.i64.wrap (((BitVec.ofInt 64 a ||| BitVec.ofInt 64 b:BitVec 64).toNat:Nat):Int) = _
 rw [BitVec.toNat_or,BitVec.ofInt_natCast,BitVec.ofInt_natCast,BitVec.toNat_ofNat,BitVec.toNat_ofNat]
 rw [Nat.mod_eq_of_lt (by omega),Nat.mod_eq_of_lt (by omega)]
 rw [Ev.wrap64];omega
theorem or_fin:∀ c:Fin 256,(c.val ||| 128) = 128 + c.val % 128:=by decide
theorem u8_or (m:Nat) (h:m < 268435456):IntKind.u8.wrap (bitsOf .or .i64 m 128) = ((UInt8.ofNat (128 + m % 128)).toNat:Int):=by
 have e:=acR m 128 (by omega) (by omega)
 rw [show ((128:Nat):Int) = 128 from rfl] at e
 rw [e,Ev.G8]
 have h1:(m ||| 128) % 2 ^ 8 = m % 2 ^ 8 ||| 128 % 2 ^ 8:=Nat.or_mod_two_pow ..
 have h2:=or_fin ⟨m % 256,Nat.mod_lt _ (by decide)⟩
 simp only at h2
 rw [ofNat_toNat (by omega)]
 simp only [show (2:Nat) ^ 8 = 256 from rfl,show 128 % 256 = 128 from rfl] at h1
 omega
theorem Ir {f m:Nat} (h:128 <= m):JK (f + 1) m = UInt8.ofNat (128 + m % 128) :: JK f (m / 128):=by simp only [JK];rw [if_neg (by omega)]
theorem MH (f:Nat) {m:Nat} (h:m < 128):JK f m = [UInt8.ofNat m]:=by cases f <;> simp only [JK];rw [if_pos h]
theorem ajb:∀ c,Tryd.f98.body = some c -> comp c = (.seq (.reg 0 [I.n 0 2 I.sn,I.n 1 3 (I.si 0)]) (.scope (.seq (.seq (.reg 1 [I.n 0 5 (I.mv 0),I.n 1 6 (I.bc .lss 3 5 0 3),I.n 2 7 (I.mv 6),I.w 3 8 (I.mv 0) 7 false,I.w 4 9 (I.bc .gtr 3 8 268435455 3) 7 false,I.n 5 10 (I.pb 7 true 9)]) (.cond (.tmp 10) (.seq (.reg 2 [I.n 0 2 I.sn,I.n 1 3 (I.si 2)]) .ret) .skip)) (.seq (.reg 3 [I.n 0 4 I.sn]) (.seq (.label 0) (.seq (.seq (.reg 4 [I.n 0 11 (I.mv 0),I.n 1 12 (I.bc .geq 3 11 128 3)]) (.cond (.tmp 12) (.seq (.reg 5 [I.n 0 13 (I.mv 4),I.n 1 14 (I.mv 0),I.n 2 15 (I.bc .or 3 14 128 3),I.n 3 16 (I.cv 3 5 15),I.n 4 17 (I.b1 56 16),I.n 5 18 (I.ap 13 17 56 56),I.n 6 4 (I.sa 18)]) (.seq (.reg 6 [I.n 0 19 (I.mv 0),I.n 1 20 (.binOp .shr 3 (.tmp 19) (.const (Value.int .u64 7)) 158),I.n 2 0 (I.sa 20)]) (.goto 0))) .skip)) (.seq (.reg 7 [I.n 0 21 (I.mv 4),I.n 1 22 (I.mv 0),I.n 2 23 (I.cv 3 5 22),I.n 3 24 (I.b1 56 23),I.n 4 25 (I.ap 21 24 56 56),I.n 5 2 (I.sa 25),I.n 6 3 (I.si 0)]) .ret))))))):=by
 intro c h
 have:c = Tryd.f98.body.get rfl:=by rw [<- Option.some_inj,<- h];rfl
 rw [this];rfl
def ajc (n:Int):AV:=if n < 0 ∨ 268435455 < n then .dB [nilA,.v (.int .i64 2)] else .dB [.lst 1 (wH (uj n.toNat)),.v (.int .i64 0)]
theorem MI {n:Int} (h:n < 0 ∨ 268435455 < n):ajc n = .dB [nilA,.v (.int .i64 2)]:=if_pos h
theorem JO {n:Int} (h:¬ n < 0) (h':¬ 268435455 < n):ajc n = .dB [.lst 1 (wH (uj n.toNat)),.v (.int .i64 0)]:=if_neg (by omega)
theorem QG (m:Nat):(m:Int).fdiv (2 ^ min (Int.toNat 7) IntKind.i64.bits) = ((m / 128:Nat):Int):=by
 show (m:Int).fdiv 128 = _
 rw [Int.fdiv_eq_ediv_of_nonneg _ (by decide)];omega
theorem XV {m:Nat} (h:m < 268435456):List.take 1 (List.drop 0 [[AV.v (.int .u8 (IntKind.u8.wrap (bitsOf .or .i64 m 128)))]]) = wH [UInt8.ofNat (128 + m % 128)]:=by rw [u8_or m h];rfl
theorem QH {m:Nat} (h:m < 128):List.take 1 (List.drop 0 [[AV.v (.int .u8 (IntKind.u8.wrap m))]]) = wH [UInt8.ofNat m]:=by
 have:IntKind.u8.wrap m = ((UInt8.ofNat m).toNat:Int):=by rw [ofNat_toNat (by omega),Ev.G8];omega
 rw [this];rfl
theorem acS {f m:Nat} (hf:f <= 3) (h:m < 128 ^ (f + 1)):m < 268435456:=by
 have:128 ^ (f + 1) <= 128 ^ 4:=Nat.pow_le_pow_right (by decide) (by omega)
 omega
theorem U0 (n:Int):aA env 98 [.v (.int .i64 n)] (fun r hs=>r = ajc n /\ hs = []):=by
 refine Ev.fn [0,2,3,4,10,12] 0 [.tmp 2,.tmp 3] Tryd.func98 (ajb _ rfl) ?_
 refine' Ev.zW
 refine Ev.jumps (r:=?_) 0 (fun k s=>∃ (f c m v:Nat) (acc:List UInt8),s = ⟨[(0,.v (.int .i64 m)),(2,nilA),(3,.v (.int .i64 0)),(4,.own 2600 v 0 acc.length)],[(2600,⟨1,5,v,0,false,wH acc⟩)],c⟩ /\ k = f /\ m < 128 ^ (f + 1) /\ acc.length + f = 4 /\ 1 <= acc.length /\ 0 <= n /\ n <= 268435455 /\ uj n.toNat = acc ++ JK f m) (by rfl) ?_ ?_
 · refine' Ev.zW
   · exact ⟨(MI (.inl (by assumption))).symm,rfl⟩
   · exact ⟨(MI (.inr (by assumption))).symm,rfl⟩
   · rename_i h1 h2 h3
     obtain ⟨m,rfl⟩:=Int.eq_ofNat_of_zero_le (show 0 <= n by omega)
     have hr:=XV (m:=m) (by omega)
     refine Ev.zB ⟨3,3,16,m / 128,8,[UInt8.ofNat (128 + m % 128)],rfl,?_⟩ (by refine' Ev.zp <;> first | (first | exact QG m | exact hr | rfl) | rfl | (refine' Ev.ze;(first | exact QG m | exact hr | rfl)) | fail)
     exact ⟨rfl,by simp;omega,rfl,by simp,by omega,by omega,by rw [Int.toNat_natCast];unfold uj;rw [Ir (by omega)];rfl⟩
   · rename_i h1 h2 h3
     obtain ⟨m,rfl⟩:=Int.eq_ofNat_of_zero_le (show 0 <= n by omega)
     refine ⟨?_,rfl⟩
     rw [JO h1 h2]
     unfold uj
     rw [MH 4 (by omega)]
     exact Ev.Ea (Ev.aZ (Ev.oJ rfl (QH (by omega)))) rfl
 · rintro k s1 ⟨f,c,m,v,acc,rfl,hk,hm,hl,hl1,h0,h1,hp⟩
   have hm4:=acS (by omega) hm
   refine' Ev.zW
   · rename_i h3
     have hr:=XV (m:=m) (by omega)
     cases f with
     | zero=>omega
     | succ f =>
       refine Ev.zA (k - 1) ⟨f,c + 16,m / 128,c + 8,acc ++ [UInt8.ofNat (128 + m % 128)],rfl,?_⟩ (by refine' Ev.zp <;> first | (first | exact QG m | (rw [D9,hr];done) | (simp;done) | rfl) | rfl | (refine' Ev.ze;(first | exact QG m | (rw [D9,hr];done) | (simp;done) | rfl)) | fail)
       refine ⟨by omega,?_,by simp;omega,by simp,h0,h1,by rw [hp,Ir (by omega)];simp⟩
       rw [Nat.pow_succ] at hm
       exact (Nat.div_lt_iff_lt_mul (by decide)).2 hm
   · rename_i h3
     refine ⟨?_,rfl⟩
     rw [JO (by omega) (by omega),hp,MH f (by omega)]
     exact Ev.Ea (Ev.aZ (Ev.oJ (by simp) (by rw [D9,QH (by omega)]))) rfl
theorem wrap_succ {i:Nat} (h:i <= 1000000000):IntKind.i64.wrap ((i:Int) + 1) = ((i + 1:Nat):Int):=by rw [aU (by omega)];omega
theorem ajd:∀ c,Tryd.f80.body = some c -> comp c = (.seq (.reg 0 [I.n 0 1 (.box 35 (.tmp 0)),I.n 1 2 (I.sb false)]) (.seq (.reg 1 [I.n 0 3 (I.fa 35 1 1),I.n 1 4 (I.ld 3 3),I.n 2 5 (I.bc .eql 3 4 0 3),I.n 3 6 (I.mv 5),I.w 4 7 (I.fa 35 1 2) 6 true,I.w 5 8 (I.ld 9 7) 6 true,I.w 6 9 (.binOp .eql 9 (.tmp 8) (.const (Value.string { data:=#[] })) 9) 6 true,I.n 7 10 (I.pc 6 9 false),I.n 8 2 (I.sa 10)]) .ret)):=by
 intro c h
 have:c = Tryd.f80.body.get rfl:=by rw [<- Option.some_inj,<- h];rfl
 rw [this];rfl
theorem aje:∀ c,Tryd.f65.body = some c -> comp c = (.seq (.reg 0 [I.n 0 2 (I.sb false)]) (.seq (.seq (.reg 1 [I.n 0 5 (I.mv 0),I.n 1 6 (I.ln 5 23),I.n 2 7 (.move (.const (Value.int .i64 0)))]) (.block 0 (.loop (.seq (.reg 2 [I.n 0 8 (I.bo .lss 3 7 6 3)]) (.seq (.cond (.tmp 8) .skip (.exit 0)) (.seq (.block 1 (.seq (.reg 3 [I.n 0 9 (I.mv 7),I.n 1 10 (I.ia 23 5 7),I.n 2 11 (I.ld 35 10),I.n 3 4 (.alloc 35),I.n 4 3 (I.sa 9),I.u 5 (I.st 35 4 11)]) (.seq (.draw 4 [I.n 0 12 (I.ld 35 4),I.n 1 13 (I.c1 80 12 35),I.n 2 14 (I.mv 13),I.w 3 15 (I.mv 3) 14 false,I.w 4 16 (I.bc .gtr 3 15 0 3) 14 false,I.w 5 17 (I.mv 16) 14 false,I.w 6 18 (I.fa 35 4 0) 17 true,I.w 7 19 (I.ld 3 18) 17 true,I.w 8 20 (I.mv 0) 17 true,I.w 9 21 (I.mv 3) 17 true,I.w 10 22 (I.bc .sub 3 21 1 3) 17 true,I.w 11 23 (I.ia 23 20 22) 17 true,I.w 12 24 (I.fa 35 23 0) 17 true,I.w 13 25 (I.ld 3 24) 17 true,I.w 14 26 (I.bo .eql 3 19 25 3) 17 true,I.w 15 27 (I.pc 17 26 false) 14 false,I.n 16 28 (I.pb 14 true 27)] [[],[0],[1,1],[2],[3,2],[4,2,2],[5],[6,5],[5],[5],[9,5],[8,10,5],[11,5],[12,5],[7,13,5],[5,14,2],[2,15]]) (.cond (.tmp 28) (.seq (.reg 5 [I.n 0 2 (I.sb false)]) .ret) .skip)))) (.reg 6 [I.n 0 29 (I.bc .add 3 7 1 3),I.n 1 7 (I.mv 29)]))))))) (.seq (.reg 7 [I.n 0 2 (I.sb true)]) .ret))):=by
 intro c h
 have:c = Tryd.f65.body.get rfl:=by rw [<- Option.some_inj,<- h];rfl
 rw [this];rfl
theorem acT:∀ c,Tryd.f126.body = some c -> comp c = (.seq (.reg 0 [I.n 0 2 (I.sb false)]) (.seq (.seq (.reg 1 [I.n 0 3 (I.si 0)]) (.block 0 (.loop (.seq (.seq (.reg 2 [I.n 0 4 (I.mv 3),I.n 1 5 (I.mv 0),I.n 2 6 (I.ln 5 23),I.n 3 7 (I.bo .lss 3 4 6 3)]) (.cond (.tmp 7) .skip (.exit 0))) (.seq (.block 1 (.seq (.draw 4 [I.n 0 10 (I.mv 0),I.n 1 11 (I.mv 3),I.n 2 12 (I.ia 23 10 11),I.n 3 13 (I.fa 35 12 1),I.n 4 14 (I.ld 3 13),I.n 5 15 (I.bc .eql 3 14 0 3),I.n 6 16 (I.mv 15),I.w 7 17 (I.mv 0) 16 true,I.w 8 18 (I.mv 3) 16 true,I.w 9 19 (I.ia 23 17 18) 16 true,I.w 10 20 (I.fa 35 19 2) 16 true,I.w 11 21 (I.ld 9 20) 16 true,I.w 12 22 (.binOp .eql 9 (.tmp 21) (.const (Value.string { data:=#[] })) 9) 16 true,I.n 13 23 (I.pc 16 22 false),I.n 14 24 (I.mv 23),I.w 15 25 (I.mv 3) 24 false,I.w 16 26 (I.bc .gtr 3 25 0 3) 24 false,I.w 17 27 (I.mv 26) 24 false,I.w 18 28 (I.mv 0) 27 true,I.w 19 29 (I.mv 3) 27 true,I.w 20 30 (I.bc .sub 3 29 1 3) 27 true,I.w 21 31 (I.ia 23 28 30) 27 true,I.w 22 32 (I.fa 35 31 0) 27 true,I.w 23 33 (I.ld 3 32) 27 true,I.w 24 34 (I.mv 0) 27 true,I.w 25 35 (I.mv 3) 27 true,I.w 26 36 (I.ia 23 34 35) 27 true,I.w 27 37 (I.fa 35 36 0) 27 true,I.w 28 38 (I.ld 3 37) 27 true,I.w 29 39 (I.bo .eql 3 33 38 3) 27 true,I.w 30 40 (I.pc 27 39 false) 24 false,I.n 31 41 (I.pb 24 true 40)] [[],[],[0,1],[2],[3],[4],[5],[6],[6],[7,8,6],[9,6],[10,6],[11,6],[6,12],[13,6],[14],[15,14],[16,14,14],[17],[17],[19,17],[18,20,17],[21,17],[22,17],[17],[17],[24,25,17],[26,17],[27,17],[23,28,17],[17,29,14],[14,30]]) (.cond (.tmp 41) (.seq (.reg 5 [I.n 0 2 (I.sb false)]) .ret) .skip))) (.reg 3 [I.n 0 8 (I.mv 3),I.n 1 9 (I.bc .add 3 8 1 3),I.n 2 3 (I.sa 9)])))))) (.seq (.reg 6 [I.n 0 2 (I.sb true)]) .ret))):=by
 intro c h
 have:c = Tryd.f126.body.get rfl:=by rw [<- Option.some_inj,<- h];rfl
 rw [this];rfl
theorem lU (s:Sp):aA env 80 [mY s.k s.n s.t] (fun r hs=>r = .v (.bool (emptyS s)) /\ hs = []):=by
 refine Ev.fn [0,1,2] 0 [.tmp 2] Tryd.func80 (ajd _ rfl) ?_
 refine' Ev.zW
 · rename_i h
   exact ⟨Ev.jd (by simp [emptyS,h]),rfl⟩
 · rename_i h
   exact ⟨Ev.jd (by simp [emptyS,h]),rfl⟩
def prevK (l:List Sp):Nat -> Option Int
 | 0=>none
 | i + 1=>(l[i]?).map Sp.k
theorem XW {l:List Sp} {i:Nat} (hi:i < l.length):oW (prevK l i) (l.drop i) = (!emptyS l[i] && !decide (prevK l i = some l[i].k) && oW (prevK l (i + 1)) (l.drop (i + 1))):=by
 rw [List.drop_eq_getElem_cons hi]
 simp only [oW,prevK,List.getElem?_eq_getElem hi,Option.map_some]
theorem acU {l:List Sp} {i:Nat} (h0:0 < i) (hi:i - 1 < l.length):prevK l i = some (l[i - 1]).k:=by
 cases i with
 | zero=>omega
 | succ i=>simp only [Nat.add_sub_cancel] at hi ⊢;simp only [prevK,List.getElem?_eq_getElem hi,Option.map_some]
theorem MJ {i:Nat} (h0:(0:Int) < i) (hi:i <= 1000000000):(IntKind.i64.wrap ((i:Int) - 1)).toNat = i - 1:=by rw [aU (by omega)];omega
theorem U1 {l:List Sp} {i:Nat} (h0:(0:Int) < i) (hi:i <= 1000000000) (hl:i < l.length):Ev.Side ((IntKind.i64.wrap ((i:Int) - 1)).toNat < l.length):=by
 refine Ev.Side.of ?_;rw [MJ h0 hi];omega
theorem Aj {l:List Sp} {i:Nat} (h0:(0:Int) < i) (hi:i <= 1000000000) (h':(IntKind.i64.wrap ((i:Int) - 1)).toNat < l.length):prevK l i = some (l[(IntKind.i64.wrap ((i:Int) - 1)).toNat]'h').k:=by
 have e:=MJ h0 hi
 rw [e] at h'
 simp only [e]
 exact acU (by omega) h'
theorem wS {l:List Sp} {i:Nat} (hi:i < l.length) (ht:GH l = oW (prevK l i) (l.drop i)) (h:emptyS l[i] = true ∨ prevK l i = some l[i].k):AV.v (Value.bool false) = AV.v (Value.bool (GH l)):=by
 refine Ev.jd ?_
 rw [ht,XW hi]
 rcases h with h | h <;> rw [h] <;> simp
theorem ru {l:List Sp} {i:Nat} (hi:i < l.length) (ht:GH l = oW (prevK l i) (l.drop i)) (h:emptyS l[i] = false) (h2:¬ prevK l i = some l[i].k):GH l = oW (prevK l (i + 1)) (l.drop (i + 1)):=by
 rw [ht,XW hi,h,decide_eq_false h2];simp
theorem Ed {s:Sp} (h:¬ s.n = 0 ∨ ¬ s.t = ⟨#[]⟩):emptyS s = false:=by rcases h with h | h <;> simp [emptyS,h]
theorem acV {s:Sp} (h:s.n = 0) (h':s.t = ⟨#[]⟩):emptyS s = true:=by simp [emptyS,h,h']
theorem JQ {l:List Sp} {i:Nat} (h:¬ (0:Int) < i) (hi:i < l.length):¬ prevK l i = some l[i].k:=by
 have:i = 0:=by omega
 subst this;simp [prevK]
theorem agp{G:Prop}(h:G:=by exact U1 (by assumption) (by omega) (by omega)):G:=h
theorem ahg{G:Prop}(h:G:=by
 rw [List.drop_of_length_le (by omega)] at ht
 exact ⟨Ev.jd ht.symm,rfl⟩):G:=h
theorem QI (l:List Sp) (hl:l.length <= 1000000000):aA env 65 [.lst 3 (bD l)] (fun r hs=>r = .v (.bool (GH l)) /\ hs = []):=by
 have hsl:=bH l
 refine Ev.fn [0,2,3,4,5,6,7,8,28] 0 [.tmp 2] Tryd.func65 (aje _ rfl) ?_
 repeat' (first | refine' Ev.zS | refine' Ev.zK | ((with_reducible refine Ev.dG ?_);(first | refine Ev.dr 4 [] [0,1,2,3,4,5,6,7,8,9,10,11,12,13,14,15,16] ?_);intro Q hQ;(simp only [Ev.ak,Ev.au]);conv=>whnf) | refine' Ev.zT | fail)
 refine Ev.loop (fun k s=>∃ i c:Nat,s = ⟨[(0,.lst 3 (bD l)),(2,.v (.bool false)),(5,.lst 3 (bD l)),(6,.v (.int .i64 l.length)),(7,.v (.int .i64 i))],[],c⟩ /\ k + i = l.length /\ GH l = oW (prevK l i) (l.drop i)) ?_ ?_
 · refine Ev.zB ⟨l.length,0,0,rfl,?_⟩
   exact ⟨by omega,rfl⟩
 rintro k s1 ⟨i,c,rfl,hk,ht⟩
 repeat' (first | refine' Ev.zS | refine' Ev.zK | ((with_reducible refine Ev.ca0 ?_);(first | refine Ev.aT (lU _) rfl rfl ?_ | refine Ev.ca (lU _) ?_);conv=>whnf) | ((with_reducible refine Ev.dG ?_);(first | refine Ev.dr 4 [] [0,1,2,3,4,5,6,7,8,9,10,11,12,13,14,15,16] ?_);intro Q hQ;(simp only [Ev.ak,Ev.au]);conv=>whnf) | refine' Ev.zT | fail)
 · rename_i h
   exact ⟨wS hi ht (.inl h),rfl⟩
 · rename_i hi' h h0 hq
   exact ⟨wS hi' ht (.inr ((Aj h0 (by omega) hi).trans (congrArg some hq.symm))),rfl⟩
 · rename_i hi' h h0 hq
   refine Ev.zA (k - 1) ⟨i + 1,c + 8,rfl,?_⟩
   exact ⟨by omega,ru hi' ht h (fun e=>hq (Option.some.inj (e.symm.trans (Aj h0 (by omega) hi))))⟩
 · refine' agp
 · rename_i h h0
   refine Ev.zA (k - 1) ⟨i + 1,c + 8,rfl,?_⟩
   exact ⟨by omega,ru hi ht h (JQ h0 hi)⟩
 · refine' ahg
theorem ac0{G:Prop}(h:G:=by (repeat' (first | refine' Ev.zS | refine' Ev.zK | ((with_reducible refine Ev.dG ?_);(first | refine Ev.dr 4 [] [0,1,2,3,4,5,6,7,8,9,10,11,12,13,14,15,16,17,18,19,24,25,26,27,28,20,21,22,23,29,30,31] ?_);intro Q hQ;(simp only [Ev.ak,Ev.au]);conv=>whnf) | refine' Ev.zT | fail));all_goals(rcases(⟨_⟩:PLift _)with⟨h⟩;exact h)):G:=h
theorem agx{G:Prop}(h:G:=by exact ⟨wS hi4 ht (.inr ((Aj h0 (by omega) hi).trans (congrArg some hq))),rfl⟩):G:=h
theorem ahh{G:Prop}(h:G:=by (refine Ev.zA (k - 1) ⟨i + 1,c,rfl,?_⟩);all_goals(rcases(⟨_⟩:PLift _)with⟨h⟩;exact h)):G:=h
theorem MK (l:List Sp) (hl:l.length <= 1000000000):aA env 126 [.lst 3 (bD l)] (fun r hs=>r = .v (.bool (GH l)) /\ hs = []):=by
 have hsl:=bH l
 refine Ev.fn [0,2,3,7,41] 0 [.tmp 2] Tryd.func126 (acT _ rfl) ?_
 refine' ac0
 refine Ev.loop (fun k s=>∃ i c:Nat,s = ⟨[(0,.lst 3 (bD l)),(2,.v (.bool false)),(3,.v (.int .i64 i))],[],c⟩ /\ k + i = l.length /\ GH l = oW (prevK l i) (l.drop i)) ?_ ?_
 · refine Ev.zB ⟨l.length,0,0,rfl,?_⟩
   exact ⟨by omega,rfl⟩
 rintro k s1 ⟨i,c,rfl,hk,ht⟩
 refine' ac0
 · rename_i hn h
   exact ⟨wS hi ht (.inl (acV (by assumption) h)),rfl⟩
 · rename_i hi2 hn hi3 h h0 hi4 hq
   refine' agx
 · rename_i hi2 hn hi3 h h0 hi4 hq
   refine' ahh
   exact ⟨by omega,ru hi4 ht (Ed (.inr h)) (fun e=>hq (Option.some.inj ((Aj h0 (by omega) hi).symm.trans e)))⟩
 · refine' agp
 · rename_i h h0
   refine' ahh
   exact ⟨by omega,ru hi ht (Ed (.inr h)) (JQ h0 hi)⟩
 · rename_i hi2 hn h0 hi4 hq
   refine' agx
 · rename_i hi2 hn h0 hi4 hq
   refine' ahh
   exact ⟨by omega,ru hi4 ht (Ed (.inl hn)) (fun e=>hq (Option.some.inj ((Aj h0 (by omega) hi).symm.trans e)))⟩
 · refine' agp
 · rename_i h h0
   refine' ahh
   exact ⟨by omega,ru hi ht (Ed (.inl h)) (JQ h0 hi)⟩
 · refine' ahg
theorem JR {n:Int} (h:0 <= n /\ n <= 268435455):aA env 98 [.v (.int .i64 n)] (fun r hs=>r = .dB [.lst 1 (wH (uj n.toNat)),.v (.int .i64 0)] /\ hs = []):=by
 rw [<- JO (by omega) (by omega)];exact U0 n
theorem Ak (l:List Sp) {i:Nat} (hi:i < l.length):dw (l.take (i + 1)) = dw (l.take i) + l[i].t.size:=by
 unfold dw;rw [List.take_succ_eq_append_getElem hi,List.map_append,List.sum_append];simp
theorem PS (l:List Sp) (i:Nat):dw (l.take i) <= dw l:=by
 have:dw l = dw (l.take i) + dw (l.drop i):=by
   conv=>lhs;rw [<- List.take_append_drop i l]
   unfold dw;rw [List.map_append,List.sum_append]
 omega
theorem ajf:∀ c,Tryd.f48.body = some c -> comp c = (.seq (.reg 0 [I.n 0 2 I.sn,I.n 1 3 (I.si 0)]) (.seq (.seq (.reg 1 [I.n 0 9 (I.mv 0),I.n 1 10 (I.ln 9 25),I.n 2 11 (I.bc .eql 3 10 0 3),I.n 3 12 (I.mv 11),I.w 4 13 (I.mv 0) 12 false,I.w 5 14 (I.ln 13 25) 12 false,I.w 6 15 (I.bc .gtr 3 14 65536 3) 12 false,I.n 7 16 (I.pb 12 true 15)]) (.cond (.tmp 16) (.seq (.reg 2 [I.n 0 2 I.sn,I.n 1 3 (I.si 2)]) .ret) .skip)) (.seq (.reg 3 [I.n 0 4 (.alloc 124)]) (.seq (.reg 4 [I.n 0 17 (.makeFunc (.func 96) #[.tmp 4] #[]),I.n 1 5 (I.sa 17)]) (.seq (.reg 5 [I.n 0 18 (I.mv 5),I.n 1 19 (I.mv 0),I.n 2 20 (I.ln 19 25),I.n 3 21 (.call { callee:=.value (.tmp 18),args:=#[.tmp 20],argTypes:=#[3] })]) (.seq (.reg 6 [I.n 0 6 (.assign (.const (Value.int .i64 (-1))))]) (.seq (.seq (.reg 7 [I.n 0 22 (I.mv 0),I.n 1 23 (I.ln 22 25),I.n 2 24 (.move (.const (Value.int .i64 0)))]) (.block 0 (.loop (.seq (.reg 8 [I.n 0 25 (I.bo .lss 3 24 23 3)]) (.seq (.cond (.tmp 25) .skip (.exit 0)) (.seq (.block 1 (.seq (.reg 9 [I.n 0 26 (I.ia 25 22 24),I.n 1 27 (I.ld 3 26),I.n 2 8 (I.sa 27)]) (.seq (.seq (.reg 10 [I.n 0 28 (I.mv 8),I.n 1 29 (I.mv 6),I.n 2 30 (I.bo .leq 3 28 29 3),I.n 3 31 (I.mv 30),I.w 4 32 (I.mv 8) 31 false,I.w 5 33 (I.bc .gtr 3 32 268435455 3) 31 false,I.n 6 34 (I.pb 31 true 33)]) (.cond (.tmp 34) (.seq (.reg 11 [I.n 0 2 I.sn,I.n 1 3 (I.si 2)]) .ret) .skip)) (.seq (.reg 12 [I.n 0 35 (I.mv 5),I.n 1 36 (I.mv 8),I.n 2 37 (I.mv 6),I.n 3 38 (I.bo .sub 3 36 37 3),I.n 4 39 (I.bc .sub 3 38 1 3),I.n 5 40 (.call { callee:=.value (.tmp 35),args:=#[.tmp 39],argTypes:=#[3] })]) (.reg 13 [I.n 0 41 (I.mv 8),I.n 1 6 (I.sa 41)]))))) (.reg 14 [I.n 0 42 (I.bc .add 3 24 1 3),I.n 1 24 (I.mv 42)]))))))) (.seq (.reg 15 [I.n 0 43 (I.fa 124 4 0),I.n 1 44 (I.ld 56 43),I.n 2 2 (I.sa 44),I.n 3 3 (I.si 0)]) .ret)))))))):=by
 intro c h
 have:c = Tryd.f48.body.get rfl:=by rw [<- Option.some_inj,<- h];rfl
 rw [this];rfl
theorem XY:∀ c,Tryd.f96.body = some c -> comp c = (.seq (.reg 0 [I.n 0 7 (I.mv 1),I.n 1 8 (I.c1 98 7 3),I.n 2 6 (I.mv 8),I.n 3 9 (I.ex 6 0),I.n 4 10 (I.ex 6 1),I.n 5 4 (I.sa 9),I.n 6 5 (I.sa 10)]) (.reg 1 [I.n 0 11 (I.mv 0),I.n 1 12 (I.mv 0),I.n 2 13 (I.nc 12),I.n 3 14 (I.fa 124 13 0),I.n 4 15 (I.ld 56 14),I.n 5 16 (I.mv 4),I.n 6 17 (I.ap 15 16 56 56),I.n 7 18 (I.nc 11),I.n 8 19 (I.fa 124 18 0),I.u 9 (I.st 56 19 17)])):=by
 intro c h
 have:c = Tryd.f96.body.get rfl:=by rw [<- Option.some_inj,<- h];rfl
 rw [this];rfl
def Iu (l:List Int):AV:=if mZ l = 0 then .dB [.lst 1 (wH (encR l)),.v (.int .i64 0)] else .dB [nilA,.v (.int .i64 2)]
@[simp] theorem bP (l:List Int):(ints l).length = l.length:=by simp [ints]
def iO (was:Int) (l:List Int):Int:=l.getLast?.getD was
theorem yH (was:Int) (l:List Int) (x:Int):iO was (l ++ [x]) = x:=by simp [iO]
theorem yI (was x:Int) (l:List Int):iO was (x :: l) = iO x l:=by
 cases l with
 | nil=>rfl
 | cons y l=>simp [iO,List.getLast?_cons]
theorem Iw:∀ (l:List Int) (was x:Int),rowB was (l ++ [x]) = rowB was l ++ uj (x - iO was l - 1).toNat
 | [],was,x=>by simp [rowB,iO]
 | y :: l,was,x=>by rw [List.cons_append];simp only [rowB];rw [Iw l,yI,List.append_assoc]
theorem mO:∀ (l:List Int) (was x:Int),dM was (l ++ [x]) = (dM was l && (decide (iO was l < x) && decide (x <= 268435455)))
 | [],was,x=>by simp only [List.nil_append,dM,iO,List.getLast?_nil,Option.getD_none,Bool.and_true,Bool.true_and];rfl
 | y :: l,was,x=>by rw [List.cons_append];simp only [dM];rw [mO l,yI];simp only [Bool.and_assoc]
theorem yJ:∀ (l:List Int) (was:Int),dM was l = true -> was <= iO was l /\ (iO was l <= was ∨ iO was l <= 268435455)
 | [],was,_=>by simp [iO]
 | y :: l,was,h=>by
   simp only [dM,Bool.and_eq_true,decide_eq_true_eq] at h
   have:=yJ l y h.2
   rw [yI];omega
theorem Dt:∀ (l:List Int) (was:Int) (i:Nat),dM was l = true -> dM was (l.take i) = true
 | l,was,0,_=>by simp [dM]
 | [],was,i + 1,_=>by simp [dM]
 | y :: l,was,i + 1,h=>by
   simp only [dM,Bool.and_eq_true] at h
   rw [List.take_succ_cons]
   simp only [dM,Bool.and_eq_true]
   exact ⟨h.1,Dt l y i h.2⟩
theorem Iy {x w:Int} (h1:w < x) (h2:x <= 268435455) (h3 : -1 <= w):aA env 98 [.v (.int .i64 (IntKind.i64.wrap (IntKind.i64.wrap (x - w) - 1)))] (fun r hs=>r = .dB [.lst 1 (wH (uj (x - w - 1).toNat)),.v (.int .i64 0)] /\ hs = []):=by
 rw [aU (a:=x - w) (by omega),aU (by omega)]
 exact JR (by omega)
def ng (l:List Int) (i:Nat):List UInt8:=uj l.length ++ rowB (-1) (l.take i)
theorem PU {l:List Int} {i:Nat} (hi:i < l.length):ng l (i + 1) = ng l i ++ uj (l[i] - iO (-1) (l.take i) - 1).toNat:=by
 unfold ng;rw [List.take_succ_eq_append_getElem hi,Iw,List.append_assoc]
theorem U2 {l:List Int} {i:Nat} (hi:l.length <= i):ng l i = encR l:=by
 unfold ng encR;rw [List.take_of_length_le hi]
theorem ML:∀ (l:List Int) (was:Int),-1 <= was -> dM was l = true -> (rowB was l).length <= 4 * l.length
 | [],was,_,_=>by simp [rowB]
 | y :: l,was,h1,h=>by
   simp only [dM,Bool.and_eq_true,decide_eq_true_eq] at h
   have:=ML l y (by omega) h.2
   have:=(Ag (n:=(y - was - 1).toNat) (by omega)).2
   simp only [rowB,List.length_append,List.length_cons];omega
theorem U3 {l:List Int} {i:Nat} (hl:l.length <= 65536) (h:dM (-1) (l.take i) = true):(ng l i).length <= 300000:=by
 have h1:=ML _ (-1) (by omega) h
 have h2:=(Ag (n:=l.length) (by omega)).2
 have h3:(l.take i).length <= l.length:=by rw [List.length_take];omega
 unfold ng;rw [List.length_append];omega
theorem wU {l:List Int} (h:rises l = false):Iu l = .dB [nilA,.v (.int .i64 2)]:=by
 unfold Iu mZ;rw [h];rfl
theorem XZ {l:List Int} (h:rises l = true):Iu l = .dB [.lst 1 (wH (encR l)),.v (.int .i64 0)]:=by
 unfold Iu mZ;rw [h];rfl
theorem um {l:List Int} (h:l.length = 0 ∨ 65536 < l.length):rises l = false:=by
 unfold rises
 rcases h with h | h
 · rw [List.eq_nil_of_length_eq_zero h];rfl
 · rw [decide_eq_false (by omega)];simp
theorem Am {l:List Int} {i:Nat} (hi:i < l.length) (h:l[i] <= iO (-1) (l.take i) ∨ 268435455 < l[i]):rises l = false:=by
 cases hr:rises l with
 | false=>rfl
 | true =>
   unfold rises at hr
   simp only [Bool.and_eq_true] at hr
   have:=Dt l (-1) (i + 1) hr.2
   rw [List.take_succ_eq_append_getElem hi,mO] at this
   simp at this;omega
theorem U4 (l:List Int) (hl:l.length <= 100000000):aA env 48 [.lst 1 (ints l)] (fun r hs=>r = Iu l /\ hs = []):=by
 have hil:=bP l
 have hmx:2000000003 <= maxLen:=by decide
 refine Ev.fn [0,2,3,4,5,6,8,16,22,23,24,25,34] 0 [.tmp 2,.tmp 3] Tryd.func48 (ajf _ rfl) ?_
 repeat' (first | refine' Ev.zS | ((with_reducible refine Ev.kr (hs:=[96]) (fun Q hQ=>?_));refine' Ev.zR) | ((with_reducible refine Ev.Ac 96 ?_);refine Ev.il 96 [0,1,4] [] Tryd.func96 (XY _ rfl) (fun bF=>?_)) | ((with_reducible refine Ev.ca0 ?_);(first | refine Ev.aT (JR (show 0 <= ((ints l).length:Int) /\ ((ints l).length:Int) <= 268435455 by omega)) rfl rfl ?_ | refine Ev.ca (JR (show 0 <= ((ints l).length:Int) /\ ((ints l).length:Int) <= 268435455 by omega)) ?_);conv=>whnf) | refine' Ev.zT | fail)
 · exact ⟨(wU (um (by omega))).symm,rfl⟩
 · exact ⟨(wU (um (by omega))).symm,rfl⟩
 · have hl6:l.length <= 65536:=by omega
   have h0:0 < l.length:=by omega
   have e0:wH (uj (((ints l).length:Nat):Int).toNat) = wH (ng l 0):=by rw [Int.toNat_natCast,hil];simp [ng,rowB]
   refine Ev.loop (fun k s=>∃ i c v:Nat,s = ⟨[(0,.lst 1 (ints l)),(2,nilA),(3,.v (.int .i64 0)),(4,.ptr 1536 0 0 0),(5,.clo (.func 96) [.ptr 1536 0 0 0] []),(6,.v (.int .i64 (iO (-1) (l.take i)))),(22,.lst 1 (ints l)),(23,.v (.int .i64 (ints l).length)),(24,.v (.int .i64 i))],
     [(1536,⟨1,124,0,0,true,[[.own 169411120 v 0 (ng l i).length]]⟩),(169411120,⟨1,5,v,0,false,wH (ng l i)⟩)],c⟩ /\ k + i = l.length /\ dM (-1) (l.take i) = true) ?_ ?_
   · have e1:(wH (uj (((ints l).length:Nat):Int).toNat)).length = (ng l 0).length:=by rw [e0,D7]
     refine Ev.zB ⟨l.length,0,?_,bF,rfl,?_⟩ (by refine' Ev.zp <;> first | (first | (exact congrArg (fun n=>aG.mk 1 124 0 0 true [[AV.own 169411120 _ 0 n]]) e1) | (exact congrArg (fun n=>aG.mk 1 5 _ 0 false n) e0) | (simp [iO];done) | rfl) | rfl | (refine' Ev.ze;(first | (exact congrArg (fun n=>aG.mk 1 124 0 0 true [[AV.own 169411120 _ 0 n]]) e1) | (exact congrArg (fun n=>aG.mk 1 5 _ 0 false n) e0) | (simp [iO];done) | rfl)) | fail)
     exact ⟨by omega,by simp [dM]⟩
   rintro k s1 ⟨i,c,v,rfl,hk,hr⟩
   have hrl:=yJ _ _ hr
   have hle:=U3 (l:=l) (i:=i) hl6 hr
   repeat' (first | refine' Ev.zS | ((with_reducible refine Ev.kr (hs:=[96]) (fun Q hQ=>?_));refine' Ev.zR) | ((with_reducible refine Ev.Ac 96 ?_);refine Ev.il 96 [0,1,4] [] Tryd.func96 (XY _ rfl) (fun bF=>?_)) | ((with_reducible refine Ev.ca0 ?_);(first | refine Ev.aT (Iy (by omega) (by omega) hrl.1) rfl rfl ?_ | refine Ev.ca (Iy (by omega) (by omega) hrl.1) ?_);conv=>whnf) | refine' Ev.zT | fail)
   · exact ⟨(wU (Am (by assumption) (by omega))).symm,rfl⟩
   · exact ⟨(wU (Am (by assumption) (by omega))).symm,rfl⟩
   · have hi:i < l.length:=by assumption
     have hsu:=PU hi
     have e1:(ng l i).length + (wH (uj (l[i] - iO (-1) (l.take i) - 1).toNat)).length = (ng l (i + 1)).length:=by rw [hsu];simp
     have e2:wH (ng l i) ++ wH (uj (l[i] - iO (-1) (l.take i) - 1).toNat) = wH (ng l (i + 1)):=by rw [hsu,D9]
     have e3:iO (-1) (l.take (i + 1)) = l[i]:=by rw [List.take_succ_eq_append_getElem hi,yH]
     refine Ev.zA (k - 1) ⟨i + 1,?_,bF,rfl,?_⟩ (by refine' Ev.zp <;> first | (first | (exact congrArg (fun n=>aG.mk 1 124 0 0 true [[AV.own 169411120 _ 0 n]]) e1) | (exact congrArg (fun n=>aG.mk 1 5 _ 0 false n) e2) | exact wrap_succ (by omega) | exact e3.symm | (rw [e3];done) | rfl) | rfl | (refine' Ev.ze;(first | (exact congrArg (fun n=>aG.mk 1 124 0 0 true [[AV.own 169411120 _ 0 n]]) e1) | (exact congrArg (fun n=>aG.mk 1 5 _ 0 false n) e2) | exact wrap_succ (by omega) | exact e3.symm | (rw [e3];done) | rfl)) | fail)
     refine ⟨by omega,?_⟩
     rw [List.take_succ_eq_append_getElem hi,mO,hr]
     simp;omega
   · have:=(Ag (n:=(l[i] - iO (-1) (l.take i) - 1).toNat) (by omega)).2
     refine Ev.mW (by simp) (D8 _) ?_ (by decide)
     rw [D7];omega
   · have hR:rises l = true:=by
       rw [List.take_of_length_le (by omega)] at hr
       unfold rises
       rw [hr,decide_eq_true hl6]
       cases l with
       | nil=>simp at h0
       | cons x l=>rfl
     refine ⟨?_,rfl⟩
     rw [XZ hR,U2 (by omega)]
     exact Ev.Ea (Ev.aZ (Ev.oJ (by simp) rfl)) rfl
 · have:=(Ag (n:=l.length) (by omega)).2
   refine Ev.Side.of ⟨D8 _,?_,?_⟩
   · rw [D7,Int.toNat_natCast,hil];omega
   · rw [D7,Int.toNat_natCast,hil];omega
end Go.Proofs.YtadlnaljicikfaaDoor.aB
