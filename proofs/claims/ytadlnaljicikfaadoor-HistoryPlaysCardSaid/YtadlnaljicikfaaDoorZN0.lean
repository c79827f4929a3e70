/- A part of the proof: a calculus over values, and contracts of functions. No condition. -/
import Derived.WalkKit
import Derived.Laws.AppendOwn
import Derived.Laws.MakeOwn
import Derived.Laws.OwnMore
import Derived.Laws.Rows
import Derived.Laws.Slices
import Derived.Laws.BytesString
import Derived.Laws.IdiomStrings
import Derived.Laws.Cover4
import Derived.Laws.Tables
import Derived.Lib.ConvBytes
set_option linter.unusedVariables false
set_option linter.unusedSimpArgs false
namespace Go.Proofs.YtadlnaljicikfaaDoor.aI
open Go
inductive AV where
 | v (x:Value)
 | agg (cs:List AV)
 | dM (vs:List AV)
 | lst (sz:Nat) (xs:List (List AV))
 | fO (cs:List AV)
 | own (r ver off len:Nat)
 | ptr (r ver i o:Nat)
 | clo (fn:Fn) (first caps:List AV)
 deriving Inhabited
structure aG where
 sz:Nat
 ty:TypeId
 ver:Nat
 fH:Nat
 box:Bool
 es:List (List AV)
structure St where
 sl:List (Nat × AV)
 hp:List (Nat × aG)
 ctr:Nat
structure Env where
 P:Program
 G:Nat -> Option (List AV)
 keep:List Nat
 N:Nat
def Env.base (E:Env):Env:={ E with keep:=[],N:=0 }
def get {α:Type}:List (Nat × α) -> Nat -> Option α
 | [],_=>none
 | (k,x) :: l,t=>match Nat.beq t k with | true=>some x | false=>get l t
theorem get_nil {α:Type} (t:Nat):get ([]:List (Nat × α)) t = none:=rfl
theorem au {α:Type} (l:List (Nat × α)) (k t:Nat) (x:α):get ((k,x) :: l) t = if t = k then some x else get l t:=by
 simp only [get]
 split
 · rename_i h;rw [if_pos (Nat.eq_of_beq_eq_true h)]
 · rename_i h;rw [if_neg (Nat.ne_of_beq_eq_false h)]
def del {α:Type}:List (Nat × α) -> Nat -> List (Nat × α)
 | [],_=>[]
 | (k,x) :: l,t=>if t = k then del l t else (k,x) :: del l t
def set {α:Type} (l:List (Nat × α)) (t:Nat) (y:α):List (Nat × α):=(t,y) :: l
def St.put (s:St) (d:Option Tmp) (x:AV):St :=
 match d with
 | some t=>{ s with sl:=(t,x) :: s.sl }
 | none=>s
def St.drop (s:St) (d:Option Tmp):St :=
 match d with
 | some t=>{ s with sl:=del s.sl t }
 | none=>s
def PW:Value -> AV
 | .agg cs=>if cs.toList.all Value.oneCell' then .agg (cs.toList.map AV.v) else .v (.agg cs)
 | x=>.v x
def oper (E:Env) (s:St):Operand -> Option AV
 | .tmp t=>get s.sl t
 | .const v=>some (PW v)
 | .global g=>(E.G g).map .fO
 | .func f=>some (.clo (.func f) [] [])
def cellsOf:AV -> Option (List AV)
 | .agg cs=>some cs
 | .dM _=>none
 | .v x=>if x.oneCell' then some [.v x] else none
 | x=>some [x]
def ti (P:Program) (t:TypeId):Option (Option Value × Nat × Nat):=(P.info? t).map fun i=>(i.zero,i.size,i.bytes)
def Iy:TypeDesc -> Bool
 | .struct _ | .array _ _=>true
 | _=>false
def elems (s:St):AV -> Option (List (List AV))
 | .lst _ xs=>some xs
 | .v (.slice none 0 0)=>some []
 | .own r ver off len =>
   match get s.hp r with
   | some k=>if k.ver = ver /\ off + len <= k.es.length /\ k.box = false then some ((k.es.drop off).take len) else none
   | none=>none
 | _=>none
def lenOf:AV -> Option Nat
 | .lst _ xs=>some xs.length
 | .v (.slice none 0 0)=>some 0
 | .own _ _ _ len=>some len
 | .v (.string b)=>some b.size
 | _=>none
def iK (P:Program) (t:TypeId):Option (Bool × Nat) :=
 match P.underlying t,ti P t with
 | some d,some (_,n,_)=>some (Iy d,n)
 | _,_=>none
def iY (P:Program) (t:TypeId) (f:Nat):Option (Nat × TypeId × Nat) :=
 match P.underlying t with
 | some (.struct fields)=>(match fields[f]? with | some fd=>(ti P fd.type).map fun x=>(fd.offset,fd.type,x.2.1) | none=>none)
 | _=>none
def sle (P:Program) (t:TypeId):Option (TypeId × Option Value × Nat × Nat) :=
 match P.underlying t with
 | some (.slice e)=>(ti P e).map fun x=>(e,x)
 | _=>none
def arr (P:Program) (t:TypeId):Option (Nat × TypeId × Nat) :=
 match P.underlying t with
 | some (.array n e)=>(ti P e).map fun x=>(n,e,x.2.1)
 | _=>none
def lay (P:Program) (t:TypeId):Option (List AV × List (Nat × Nat)) :=
 match P.underlying t,ti P t with
 | some (.struct fields),some (some (.agg z),_,_) =>
   if z.toList.all Value.oneCell' then (fields.toList.mapM fun f=>(P.info? f.type).map fun i=>(f.offset,i.size)).map fun l=>(z.toList.map .v,l) else none
 | some (.array n e),some (some (.agg z),_,_)=>if z.toList.all Value.oneCell' then (P.info? e).map fun i=>(z.toList.map .v,(List.range n).map fun j=>(j * i.size,i.size)) else none
 | _,_=>none
def partOf (P:Program) (t:TypeId) (cs:List AV):Option AV :=
 match iK P t with
 | some (true,n)=>if n <= cs.length then some (.agg (cs.take n)) else none
 | some (false,_)=>cs.head?
 | none=>none
def qc (s:St):AV -> Option (List AV)
 | .fO cs=>some cs
 | .ptr r ver i o =>
   match get s.hp r with
   | some k=>if k.ver = ver then (k.es[i]?).map (·.drop o) else none
   | none=>none
 | _=>none
def dN (e:List AV) (o:Nat) (cs:List AV):List AV:=e.take o ++ cs ++ e.drop (o + cs.length)
def iE (s:St):Nat -> AV -> Option AV
 | 0,_=>none
 | n + 1,.agg cs=>(cs.mapM (iE s n)).map .agg
 | n + 1,.dM cs=>(cs.mapM (iE s n)).map .dM
 | n + 1,.clo f a b =>
   match a.mapM (iE s n),b.mapM (iE s n) with
   | some a',some b'=>some (.clo f a' b')
   | _,_=>none
 | _ + 1,.own r ver off len =>
   match get s.hp r with
   | some k=>if k.ver = ver /\ off + len <= k.es.length /\ k.box = false then some (.lst k.sz ((k.es.drop off).take len)) else none
   | none=>none
 | _ + 1,.ptr _ _ _ _=>none
 | _ + 1,x=>some x
def reads:Nat -> AV -> List (Nat × Nat)
 | 0,_=>[]
 | n + 1,.agg cs=>cs.flatMap (reads n)
 | n + 1,.dM cs=>cs.flatMap (reads n)
 | n + 1,.clo _ a b=>a.flatMap (reads n) ++ b.flatMap (reads n)
 | _ + 1,.own r _ off len=>[(r,off + len)]
 | _ + 1,_=>[]
def St.freeze (s:St):List (Nat × Nat) -> St
 | []=>s
 | (r,n) :: l =>
   match get s.hp r with
   | some k=>St.freeze { s with hp:=set s.hp r { k with fH:=max k.fH (min n k.es.length) } } l
   | none=>St.freeze s l
def deep:Nat:=6
def St.pure (s:St) (x:AV) (K:AV -> St -> Prop):Prop :=
 match iE s deep x with
 | some y=>K y (s.freeze (reads deep x))
 | none=>False
def St.nP (s:St):List AV -> (List AV -> St -> Prop) -> Prop
 | [],K=>K [] s
 | x :: l,K=>s.pure x fun y s'=>s'.nP l fun l' s''=>K (y :: l') s''
end Go.Proofs.YtadlnaljicikfaaDoor.aI
namespace Go.Proofs.YtadlnaljicikfaaDoor.aI
open Go Go.RowKit
abbrev Mem:=Nat -> Nat -> Option Value
structure Loc where
 b:Nat
 cap:Nat
 sz:Nat
 nil:Bool
inductive cZ (M:Mem):AV -> Value -> Prop
 | v (x:Value):cZ M (.v x) x
 | agg {cs:List AV} {vs:Array Value} (hn:vs.size = cs.length) (h1:∀ (i:Nat) (v:Value),vs[i]? = some v -> v.oneCell' = true)
     (h:∀ (i:Nat) (c:AV) (v:Value),cs[i]? = some c -> vs[i]? = some v -> cZ M c v):cZ M (.agg cs) (.agg vs)
 | dM {cs:List AV} {vs:Array Value} (hn:vs.size = cs.length)
     (h:∀ (i:Nat) (c:AV) (v:Value),cs[i]? = some c -> vs[i]? = some v -> cZ M c v):cZ M (.dM cs) (.tuple vs)
 | lst {sz:Nat} {xs:List (List AV)} {A:Option Addr} {n cap:Nat} (u:Nat -> Nat -> Value) (hn:n = xs.length) (hc:xs.length <= cap)
     (hz:∀ (i:Nat) (e:List AV),xs[i]? = some e -> e.length = sz) (hA:xs ≠ [] -> ∃ b o,A = some ⟨b,o,none⟩)
     (hM:∀ (b o i:Nat) (e:List AV) (j:Nat) (c:AV),A = some ⟨b,o,none⟩ -> xs[i]? = some e -> e[j]? = some c -> M b (o + i * sz + j) = some (u i j))
     (h:∀ (i:Nat) (e:List AV) (j:Nat) (c:AV),xs[i]? = some e -> e[j]? = some c -> cZ M c (u i j)):cZ M (.lst sz xs) (.slice A n cap)
 | fO {cs:List AV} {b o:Nat} (u:Nat -> Value) (hM:∀ (j:Nat) (c:AV),cs[j]? = some c -> M b (o + j) = some (u j))
     (h:∀ (j:Nat) (c:AV),cs[j]? = some c -> cZ M c (u j)):cZ M (.fO cs) (.pointer (some ⟨b,o,none⟩))
 | clo {fn:Fn} {a b:List AV} {fs cs:Array Value} (hn:fs.size = a.length) (hm:cs.size = b.length)
     (h:∀ (i:Nat) (c:AV) (v:Value),a[i]? = some c -> fs[i]? = some v -> cZ M c v) (h':∀ (i:Nat) (c:AV) (v:Value),b[i]? = some c -> cs[i]? = some v -> cZ M c v) :
     cZ M (.clo fn a b) (.func fn fs cs)
abbrev bJ:=Nat -> Option Loc
inductive Rel (M:Mem) (J:bJ):AV -> Value -> Prop
 | pure {a:AV} {v:Value} (h:cZ M a v):Rel M J a v
 | agg {cs:List AV} {vs:Array Value} (hn:vs.size = cs.length) (h1:∀ (i:Nat) (v:Value),vs[i]? = some v -> v.oneCell' = true)
     (h:∀ (i:Nat) (c:AV) (v:Value),cs[i]? = some c -> vs[i]? = some v -> Rel M J c v):Rel M J (.agg cs) (.agg vs)
 | dM {cs:List AV} {vs:Array Value} (hn:vs.size = cs.length)
     (h:∀ (i:Nat) (c:AV) (v:Value),cs[i]? = some c -> vs[i]? = some v -> Rel M J c v):Rel M J (.dM cs) (.tuple vs)
 | clo {fn:Fn} {a b:List AV} {fs cs:Array Value} (hn:fs.size = a.length) (hm:cs.size = b.length)
     (h:∀ (i:Nat) (c:AV) (v:Value),a[i]? = some c -> fs[i]? = some v -> Rel M J c v) (h':∀ (i:Nat) (c:AV) (v:Value),b[i]? = some c -> cs[i]? = some v -> Rel M J c v) :
     Rel M J (.clo fn a b) (.func fn fs cs)
 | own {r ver off len:Nat} {L:Loc} {A:Option Addr} {c:Nat} (hL:J ver = some L) (hl:off + len <= L.cap) (hN:L.nil = true -> A = none)
     (hA:L.nil = false -> off = 0 ∨ off < L.cap -> A = some ⟨L.b,off * L.sz,none⟩) (hc:c = L.cap - off):Rel M J (.own r ver off len) (.slice A len c)
 | ptr {r ver i o:Nat} {L:Loc} (hL:J ver = some L) (hN:L.nil = false):Rel M J (.ptr r ver i o) (.pointer (some ⟨L.b,i * L.sz + o,none⟩))
theorem cZ.mono {M M':Mem} (hM:∀ b o u,M b o = some u -> M' b o = some u) {a:AV} {v:Value} (h:cZ M a v):cZ M' a v:=by
 induction h with
 | v x=>exact .v x
 | agg hn h1 _ ih=>exact .agg hn h1 ih
 | dM hn _ ih=>exact .dM hn ih
 | lst u hn hc hz hA hM' _ ih=>exact .lst u hn hc hz hA (fun b o i e j c h1 h2 h3=>hM _ _ _ (hM' b o i e j c h1 h2 h3)) ih
 | fO u hM' _ ih=>exact .fO u (fun j c h=>hM _ _ _ (hM' j c h)) ih
 | clo hn hm _ _ ih ih'=>exact .clo hn hm ih ih'
theorem Rel.mono {M M':Mem} {J J':bJ} (hM:∀ b o u,M b o = some u -> M' b o = some u) (hJ:∀ r L,J r = some L -> J' r = some L)
   {a:AV} {v:Value} (h:Rel M J a v):Rel M' J' a v:=by
 induction h with
 | pure h=>exact .pure (h.mono hM)
 | agg hn h1 _ ih=>exact .agg hn h1 ih
 | dM hn _ ih=>exact .dM hn ih
 | clo hn hm _ _ ih ih'=>exact .clo hn hm ih ih'
 | own hL hl hN hA hc=>exact .own (hJ _ _ hL) hl hN hA hc
 | ptr hL hN=>exact .ptr (hJ _ _ hL) hN
def dh (M:Mem) (J:bJ) (box:Bool) (c:AV) (u:Value):Prop:=if box then Rel M J c u else cZ M c u
theorem dh.rel {M:Mem} {J:bJ} {box:Bool} {c:AV} {u:Value} (h:dh M J box c u):Rel M J c u:=by
 unfold dh at h;split at h
 · exact h
 · exact .pure h
theorem dh.mono {M M':Mem} {J J':bJ} (hM:∀ b o u,M b o = some u -> M' b o = some u) (hJ:∀ r L,J r = some L -> J' r = some L)
   {box:Bool} {a:AV} {v:Value} (h:dh M J box a v):dh M' J' box a v:=by
 unfold dh at h ⊢;split at h
 · rename_i hb;rw [if_pos hb];exact h.mono hM hJ
 · rename_i hb;rw [if_neg hb];exact h.mono hM
structure rE (M:Mem) (J:bJ) (w:World) (L:Loc) (k:aG) (C:Array Value):Prop where
 blk:L.nil = false -> w.heap[L.b]? = some (.cells C k.ty (0,0))
 none:L.nil = true -> L.cap = 0
 size:C.size = L.cap * k.sz
 fits:k.es.length <= L.cap
 fH:k.fH <= k.es.length
 sz:L.sz = k.sz
 len:∀ (i:Nat) (e:List AV),k.es[i]? = some e -> e.length = k.sz
 cell:∀ (i:Nat) (e:List AV) (j:Nat) (c:AV),k.es[i]? = some e -> e[j]? = some c -> ∃ u,C[i * k.sz + j]? = some u /\ u.oneCell' = true /\ dh M J k.box c u
 cap:L.cap <= maxLen
structure qV where
 m:Mem
 j:bJ
 x:Nat -> Option Obj
 d:List Deferred
structure Inv (E:Env) (M0:qV) (w0:World) (c:Nat) (M:Mem) (J:bJ) (s:St) (tm:Array Value) (w:World):Prop where
 below:Below w0.heap.size w0 w
 mem:∀ b o u,M b o = some u -> w.cell? ⟨b,o,none⟩ = some u /\ u.oneCell' = true
 kH:∀ b o u,M b o = some u -> M0.m b o = some u ∨ (w0.heap.size <= b /\ M0.x b = none)
 jV:∀ b o u,M0.m b o = some u -> M b o = some u
 glob:∀ g cs,E.G g = some cs -> cZ M (.fO cs) (.pointer (some ⟨g,0,none⟩))
 slot:∀ (t:Nat) (x:AV),get s.sl t = some x -> ∃ v,tm[t]? = some v /\ Rel M J x v
 heap:∀ (r:Nat) (k:aG),get s.hp r = some k -> ∃ L C,J k.ver = some L /\ (L.nil = false -> w0.heap.size <= L.b /\ M0.x L.b = none) /\ rE M J w L k C
 apart:∀ (r r':Nat) (k k':aG) (L L':Loc),get s.hp r = some k -> get s.hp r' = some k' -> J k.ver = some L -> J k'.ver = some L' -> L.nil = false -> L'.nil = false -> r ≠ r' -> L.b ≠ L'.b
 owns:∀ (r:Nat) (k:aG) (L:Loc) (o:Nat) (u:Value),get s.hp r = some k -> J k.ver = some L -> L.nil = false -> M L.b o = some u -> o < k.fH * k.sz
 vers:∀ r L,J r = some L -> r < c
 jF:∀ r L,M0.j r = some L -> J r = some L
 far:∀ b o,M0.x b = some o -> w.heap[b]? = some o
theorem Inv.oN {E:Env} {M0:qV} {w0:World} {c:Nat} {M:Mem} {J:bJ} {s:St} {tm:Array Value} {w:World} (inv:Inv E M0 w0 c M J s tm w) {b:Nat} (h:w.heap.size <= b):M0.x b = none:=by
 cases hx:M0.x b with
 | none=>rfl
 | some o=>have:=inv.far b o hx;rw [Array.getElem?_eq_none h] at this;cases this
theorem Inv.Ep {E:Env} {M0:qV} {w0:World} {c:Nat} {M:Mem} {J:bJ} {s:St} {tm:Array Value} {w:World} (inv:Inv E M0 w0 c M J s tm w) {b:Nat} {o:Obj} (h:M0.x b = some o):b < w.heap.size :=
 Decidable.byContradiction fun hn=>by rw [inv.oN (by omega)] at h;cases h
def Sub (M M':Mem):Prop:=∀ b o u,M b o = some u -> M' b o = some u
def iG (J J':bJ):Prop:=∀ r L,J r = some L -> J' r = some L
theorem Sub.refl (M:Mem):Sub M M:=fun _ _ _ h=>h
theorem iG.refl (J:bJ):iG J J:=fun _ _ h=>h
theorem Sub.trans {M M' M'':Mem} (h:Sub M M') (h':Sub M' M''):Sub M M'':=fun b o u x=>h' b o u (h b o u x)
theorem iG.trans {J J' XT:bJ} (h:iG J J') (h':iG J' XT):iG J XT:=fun b o x=>h' b o (h b o x)
def Es (P:Program) (t:TypeId):Prop:=∀ (a b a' b':Int) (x x':ByteArray) (w:World),
 (Op.equal t (.agg #[.int .i64 a,.int .i64 b,.string x]) (.agg #[.int .i64 a',.int .i64 b',.string x'])).run P w = .ok (decide (a = a' /\ b = b' /\ x = x')) w /\
 P.eqGuardType P.depth t = false
def bitsOf (op:BinOp) (k:IntKind) (x y:Int):Int :=
 match op with
 | .and=>k.wrap (BitVec.ofInt k.bits x &&& BitVec.ofInt k.bits y).toNat
 | .or=>k.wrap (BitVec.ofInt k.bits x ||| BitVec.ofInt k.bits y).toNat
 | .xor=>k.wrap (BitVec.ofInt k.bits x ^^^ BitVec.ofInt k.bits y).toNat
 | _=>k.wrap (BitVec.ofInt k.bits x &&& ~~~BitVec.ofInt k.bits y).toNat
def P5 (op:BinOp) (k:IntKind) (a b:Int) (K:Value -> Prop):Prop :=
 match op with
 | .add=>K (.int k (k.wrap (a + b)))
 | .sub=>K (.int k (k.wrap (a - b)))
 | .mul=>K (.int k (k.wrap (a * b)))
 | .quo=>b ≠ 0 /\ K (.int k (k.wrap (a.tdiv b)))
 | .rem=>b ≠ 0 /\ K (.int k (a.tmod b))
 | .and | .or | .xor | .andNot=>K (.int k (bitsOf op k a b))
 | .shl=>0 <= b /\ K (.int k (k.wrap (a * 2 ^ min b.toNat k.bits)))
 | .shr=>0 <= b /\ K (.int k (a.fdiv (2 ^ min b.toNat k.bits)))
 | .eql=>K (.bool (decide (a = b)))
 | .neq=>K (.bool (decide (a ≠ b)))
 | .lss=>K (.bool (decide (a < b)))
 | .leq=>K (.bool (decide (a <= b)))
 | .gtr=>K (.bool (decide (b < a)))
 | .geq=>K (.bool (decide (b <= a)))
def UJ (op:BinOp) (a b:ByteArray) (K:Value -> Prop):Prop :=
 match op with
 | .add=>a.size + b.size <= maxLen /\ K (.string (a ++ b))
 | .eql=>K (.bool (decide (a = b)))
 | .neq=>K (.bool (decide (a ≠ b)))
 | _=>False
def vW:AV -> Bool
 | .fO _ | .ptr _ _ _ _=>true
 | _=>false
def Cm (P:Program) (op:BinOp) (t:TypeId) (x y:AV) (K:Value -> Prop):Prop :=
 match x,y with
 | .v (.int k a),.v (.int k' b)=>(k = k' ∨ op = .shl ∨ op = .shr) /\ P5 op k a b K
 | .v (.string a),.v (.string b)=>UJ op a b K
 | .v (.bool a),.v (.bool b) =>
   match op,P.underlying t with
   | .eql,some .bool=>K (.bool (a == b))
   | .neq,some .bool=>K (.bool (a != b))
   | _,_=>False
 | .agg [.v (.int .i64 a),.v (.int .i64 b),.v (.string s)],.agg [.v (.int .i64 a'),.v (.int .i64 b'),.v (.string s')] =>
   match op with
   | .eql=>Es P t /\ K (.bool (decide (a = a' /\ b = b' /\ s = s')))
   | .neq=>Es P t /\ K (.bool (!decide (a = a' /\ b = b' /\ s = s')))
   | _=>False
 | .v (.pointer none),.v (.pointer none) =>
   match op,P.underlying t with
   | .eql,some (.pointer _)=>K (.bool true)
   | .neq,some (.pointer _)=>K (.bool false)
   | _,_=>False
 | p,.v (.pointer none) =>
   match op,P.underlying t with
   | .eql,some (.pointer _)=>vW p = true /\ K (.bool false)
   | .neq,some (.pointer _)=>vW p = true /\ K (.bool true)
   | _,_=>False
 | _,_=>False
def iV (b:ByteArray):List (List AV):=b.data.toList.map fun c=>[AV.v (.int .u8 c.toNat)]
def toByte:List AV -> Option UInt8
 | [.v (.int .u8 n)]=>some (UInt8.ofNat n.toNat)
 | _=>none
def jh (b:ByteArray):List (List AV):=(Conv.runesFrom b b.size 0 #[]).toList.map fun v=>[AV.v v]
def rF:List AV -> Option Int
 | [.v (.int .i32 n)]=>some n
 | _=>none
def uF (P:Program) (src dst:TypeId) (s:St) (x:AV) (K:AV -> Prop):Prop :=
 match P.underlying src,P.underlying dst,x with
 | some _,some (.int k),.v (.int _ n)=>K (.v (.int k (k.wrap n)))
 | some .string,some .string,.v (.string b)=>K (.v (.string b))
 | some (.slice e),some .string,x =>
   (P.underlying e = some (.int .u8) /\ ∃ xs bs,elems s x = some xs /\ xs.mapM toByte = some bs /\ K (.v (.string ⟨bs.toArray⟩))) ∨
   (P.underlying e = some (.int .i32) /\ ∃ xs ns,elems s x = some xs /\ xs.mapM rF = some ns /\ K (.v (.string (runesBytes ns))))
 | some .string,some (.slice e),.v (.string b)=>(P.underlying e = some (.int .u8) /\ K (.lst 1 (iV b))) ∨ (P.underlying e = some (.int .i32) /\ b.size <= 70368744177664 /\ K (.lst 1 (jh b)))
 | _,_,_=>False
def Iz (r:Nat):List (Nat × aG) -> List (Nat × aG)
 | []=>[]
 | (k,b) :: l=>match Nat.beq r k with | true=>Iz r l | false=>(k,b) :: Iz r l
theorem Aj (r:Nat):∀ (l:List (Nat × aG)) (r':Nat) (k:aG),get (Iz r l) r' = some k -> r' ≠ r /\ get l r' = some k
 | [],r',k,h=>by cases h
 | (q,b) :: l,r',k,h=>by
   simp only [Iz] at h
   split at h
   · rename_i e
     have e:=Nat.eq_of_beq_eq_true e
     obtain ⟨h1,h2⟩:=Aj r l r' k h
     exact ⟨h1,by rw [au,if_neg (by rw [<- e];exact h1)];exact h2⟩
   · rename_i e
     have e:=Nat.ne_of_beq_eq_false e
     rw [au] at h ⊢
     split at h
     · rename_i e2;rw [if_pos e2];exact ⟨by rw [e2];exact fun x=>e x.symm,h⟩
     · rename_i e2;rw [if_neg e2];exact Aj r l r' k h
def P6 (P:Program) (src dst:TypeId) (s:St) (x:AV) (K:AV -> St -> Prop):Prop :=
 match x with
 | .own r v off len =>
   match get s.hp r with
   | some k=>src = dst /\ 0 < len /\ k.ver = v /\ k.box = false /\ off + len <= k.es.length /\ (∃ e,P.underlying src = some (.slice e) /\ P.underlying e = some (.int .u8)) /\
       K (.lst k.sz ((k.es.drop off).take len)) { s with hp:=Iz r s.hp }
   | none=>False
 | _=>False
def St.new (s:St) (nm ver:Nat) (sz:Nat) (ty:TypeId) (box:Bool) (es:List (List AV)):St :=
 { s with hp:=(nm,⟨sz,ty,ver,0,box,es⟩) :: s.hp,ctr:=ver + 8 }
def qg (place:Nat -> Option (Nat × Nat)) (cells:List AV):List (Nat × AV) -> Option (List AV)
 | []=>some cells
 | (i,x) :: rest =>
   match place i,cellsOf x with
   | some (off,size),some cs=>if cs.length = size /\ off + size <= cells.length then qg place (dN cells off cs) rest else none
   | _,_=>none
def vX (E:Env) (s:St):List (Nat × Operand) -> Option (List (Nat × AV))
 | []=>some []
 | (i,x) :: rest =>
   match oper E s x,vX E s rest with
   | some a,some l=>some ((i,a) :: l)
   | _,_=>none
def rG (E:Env) (s:St):List Operand -> Option (List AV)
 | []=>some []
 | x :: rest =>
   match oper E s x,rG E s rest with
   | some a,some l=>some (a :: l)
   | _,_=>none
def oO (n:Nat):List AV -> Option (List (List AV))
 | []=>some []
 | x :: rest =>
   match cellsOf x,oO n rest with
   | some cs,some l=>if cs.length = n then some (cs :: l) else none
   | _,_=>none
def bnd (E:Env) (s:St):Option Operand -> Option (Option Int)
 | none=>some none
 | some x=>match oper E s x with | some (.v (.int _ n))=>some (some n) | _=>none
def IB (len:Nat) (lo hi:Option Int) (K:Nat -> Nat -> Prop):Prop :=
 match lo,hi with
 | none,none=>K 0 len
 | some l,none=>0 <= l /\ l <= len /\ K l.toNat len
 | none,some h=>0 <= h /\ h <= len /\ K 0 h.toNat
 | some l,some h=>0 <= l /\ l <= h /\ h <= len /\ K l.toNat h.toNat
def xW (E:Env) (t:TypeId) (s:St) (x:AV) (lo hi mx:Option Int) (K:AV -> St -> Prop):Prop :=
 match x with
 | .v (.string b)=>E.P.underlying t = some .string /\ mx = none /\ IB b.size lo hi fun l h=>K (.v (.string (b.extract l h))) s
 | .v (.slice none 0 0)=>(sle E.P t).isSome = true /\ mx = none /\ IB 0 lo hi fun _ _=>K (.v (.slice none 0 0)) s
 | .lst sz xs =>
   match sle E.P t with
   | some (_,_,sz',_)=>sz = sz' /\ IB xs.length lo hi fun l h=>(match mx with | none=>True | some m=>hi.isSome = true /\ (h:Int) <= m /\ m <= xs.length) /\ K (.lst sz ((xs.drop l).take (h - l))) s
   | none=>False
 | .own r ver off len =>
   match sle E.P t,get s.hp r with
   | some (_,_,sz',_),some k=>k.ver = ver /\ k.sz = sz' /\ mx = none /\ IB len lo hi fun l h=>K (.own r ver (off + l) (h - l)) s
   | _,_=>False
 | _=>False
mutual
/-- A value that was told of a heap of its own,told of ours. -/
def shift (nm ver:Nat):AV -> AV
  | .agg cs=>.agg (shifts nm ver cs)
  | .dM cs=>.dM (shifts nm ver cs)
  | .clo f a b=>.clo f (shifts nm ver a) (shifts nm ver b)
  | .own r v off len=>.own (nm + r) (ver + v) off len
  | .ptr r v i o=>.ptr (nm + r) (ver + v) i o
  | x=>x
def shifts (nm ver:Nat):List AV -> List AV
  | []=>[]
  | c :: cs=>shift nm ver c :: shifts nm ver cs
end
def aG.shift (nm ver j:Nat) (k:aG):aG:={ k with ver:=ver + j,es:=if k.box then k.es.map (shifts nm ver) else k.es }
def St.adds (nm ver:Nat):Nat -> List aG -> St -> St
 | _,[],s=>s
 | j,k :: ks,s=>St.adds nm ver (j + 1) ks { s with hp:=s.hp ++ [(nm + j,k.shift nm ver j)] }
def eX:Nat -> List aG -> List (Nat × aG)
 | _,[]=>[]
 | j,k :: ks=>(j,{ k with ver:=j }) :: eX (j + 1) ks
def free (hp:List (Nat × aG)) (nm:Nat):Nat -> Prop
 | 0=>True
 | n + 1=>get hp (nm + n) = none /\ free hp nm n
def aO (E:Env) (f:FuncId) (args:List AV) (R:AV -> List aG -> Prop):Prop :=
 ∀ (M:Mem) (w:World) (vs:Array Value),(∀ b o u,M b o = some u -> w.cell? ⟨b,o,none⟩ = some u /\ u.oneCell' = true) ->
   (∀ g cs,E.G g = some cs -> cZ M (.fO cs) (.pointer (some ⟨g,0,none⟩))) -> vs.size = args.length ->
   (∀ (i:Nat) (x:AV) (v:Value),args[i]? = some x -> vs[i]? = some v -> cZ M x v) ->
   (callFunc f vs).run E.P w = .ok (.enter f vs) w /\
   Calls E.P f vs w fun e w'=>∃ v r hs M' J',e = .returned v /\ R r hs /\ Inv E ⟨M,fun _=>none,fun _=>none,[]⟩ w hs.length M' J' ⟨[],eX 0 hs,0⟩ #[] w' /\ Rel M' J' r v
def dn (E:Env) (N:Nat) (f:FuncId) (args:List AV) (hp:List (Nat × aG)) (R:AV -> List (Nat × aG) -> Prop):Prop :=
 ∀ (M0:qV) (w0:World) (c:Nat) (M:Mem) (J:bJ) (w:World) (vs:Array Value),Inv E M0 w0 c M J ⟨[],hp,0⟩ #[] w -> vs.size = args.length ->
   (∀ (i:Nat) (x:AV) (v:Value),args[i]? = some x -> vs[i]? = some v -> Rel M J x v) ->
   (callFunc f vs).run E.P w = .ok (.enter f vs) w /\
   Calls E.P f vs w fun e w'=>∃ v r hp' c' M' J',e = .returned v /\ R r hp' /\ Inv E M0 w0 c' M' J' ⟨[],hp',0⟩ #[] w' /\ Rel M' J' r v /\ Sub M M' /\ iG J J'
def IC (E:Env) (nm ver:Nat) (t:TypeId) (s:St) (x:AV) (ys:List (List AV)) (K:AV -> St -> Prop):Prop :=
 match sle E.P t with
 | some (e,some z,n,by') =>
   0 < n /\ z.cells.size = n /\ (∀ y ∈ ys,y.length = n) /\
   (match x with
   | .v (.slice none 0 0)=>ys.length <= maxLen /\ ys.length * by' <= 140737488355328 /\ get s.hp nm = none /\ K (.own nm ver 0 ys.length) (s.new nm ver n e false ys)
   | .own r v off len =>
     (match get s.hp r with
     | some k=>k.ver = v /\ k.box = false /\ k.sz = n /\ k.ty = e /\ off = 0 /\ len = k.es.length /\ len + ys.length <= maxLen /\ (len + ys.length) * by' <= 140737488355328 /\
         K (.own r ver 0 (len + ys.length)) { s with hp:=set s.hp r { k with ver:=ver,es:=k.es ++ ys },ctr:=ver + 8 }
     | none=>False)
   | _=>False)
 | _=>False
def Yh (P:Program) (t:TypeId):AV -> Prop
 | .v (.string _)=>P.underlying t = some .string
 | _=>(sle P t).isSome = true
def Kz (E:Env) (nm ver:Nat) (cl:Call) (s:St) (K:AV -> St -> Prop):Prop :=
 match cl.callee,cl.args.toList,cl.argTypes.toList with
 | .builtin .len,[x],[t] =>
   (match oper E s x with
   | some a=>(match lenOf a with | some n=>Yh E.P t a /\ K (.v (.int .i64 n)) s | none=>False)
   | none=>False)
 | .builtin .min,[x,y],_ =>
   (match oper E s x,oper E s y with
   | some (.v (.int k a)),some (.v (.int _ b))=>K (.v (.int k (min a b))) s
   | _,_=>False)
 | .builtin .max,[x,y],_ =>
   (match oper E s x,oper E s y with
   | some (.v (.int k a)),some (.v (.int _ b))=>K (.v (.int k (max a b))) s
   | _,_=>False)
 | .builtin .append,[x,y],[t,t'] =>
   (match oper E s x,oper E s y with
   | some a,some (.v (.string b))=>E.P.underlying t' = some .string /\ IC E nm ver t s a (iV b) K
   | some a,some b=>(sle E.P t').isSome = true /\ (match elems s b with | some ys=>IC E nm ver t s a ys K | none=>False)
   | _,_=>False)
 | .builtin .copy,[x,y],[t,t'] =>
   (match oper E s x,oper E s y,sle E.P t with
   | some (.own r v off len),some b,some (_,_,n,_) =>
     (match elems s b,get s.hp r with
     | some ys,some k=>(k.ver = v /\ k.sz = n /\ 0 < n /\ k.fH <= off /\ off + len <= k.es.length /\ ys.length = len /\ (∀ y ∈ ys,y.length = n)) /\
         K (.v (.int .i64 len)) { s with hp:=set s.hp r { k with es:=k.es.take off ++ ys ++ k.es.drop (off + len) } }
     | _,_=>False)
   | _,_,_=>False)
 | .builtin .clear,[x],[t] =>
   (match oper E s x,sle E.P t with
   | some (.own r v off len),some (_,some z,n,_) =>
     (match get s.hp r,cellsOf (PW z) with
     | some k,some cs=>(k.ver = v /\ k.sz = n /\ 0 < n /\ cs.length = n /\ k.fH <= off /\ off + len <= k.es.length) /\
         K (.v undef) { s with hp:=set s.hp r { k with es:=k.es.take off ++ List.replicate len cs ++ k.es.drop (off + len) } }
     | _,_=>False)
   | _,_=>False)
 | .value f,args,_ =>
   (match oper E s f,rG E s args with
   | some (.clo (.func g) first caps),some as =>
     (s.nP (first ++ as ++ caps) fun ys s'=>aO E.base g ys fun r hs=>hs.length <= 8 /\ free s'.hp nm hs.length /\ K (shift nm ver r) { s'.adds nm ver 0 hs with ctr:=ver + hs.length }) ∨
     ∃ N,dn E.base N g (first ++ as ++ caps) s.hp fun r hp'=>∀ c',ver + 8 <= c' -> K r { s with hp:=hp',ctr:=c' }
   | _,_=>False)
 | _,_,_=>False
def pY (E:Env) (nm ver:Nat) (op:Op) (s:St) (K:AV -> St -> Prop):Prop :=
 match op with
 | .move x | .assign x=>match oper E s x with | some a=>K a s | none=>False
 | .pick c a b =>
   match oper E s c with
   | some (.v (.bool t))=>(t = true -> match oper E s a with | some x=>K x s | none=>False) /\ (t = false -> match oper E s b with | some x=>K x s | none=>False)
   | _=>False
 | .alloc t =>
   match ti E.P t with
   | some (some z,n,_)=>(match cellsOf (PW z) with | some cs=>get s.hp nm = none /\ K (.ptr nm ver 0 0) (s.new nm ver cs.length t true [cs]) | none=>False)
   | _=>False
 | .box t x =>
   match oper E s x with
   | some a=>(match cellsOf a with | some cs=>get s.hp nm = none /\ K (.ptr nm ver 0 0) (s.new nm ver cs.length t true [cs]) | none=>False)
   | none=>False
 | .build t parts =>
   match lay E.P t,vX E s parts.toList with
   | some (z,places),some l=>(match qg (places[·]?) z l with | some cs=>K (.agg cs) s | none=>False)
   | _,_=>False
 | .buildSlice t len parts =>
   match sle E.P t,vX E s parts.toList with
   | some (e,some z,n,_),some l=>(n * len <= 16777216 /\ 0 < n /\ l.map Prod.fst = List.range len /\ z.cells.size = n) /\
         ((s.nP (l.map Prod.snd) fun ys s'=>match oO n ys with | some es=>get s'.hp nm = none /\ K (.own nm ver 0 len) (s'.new nm ver n e false es) | none=>False) ∨
           ∃ es,oO n (l.map Prod.snd) = some es /\ get s.hp nm = none /\ K (.own nm ver 0 len) (s.new nm ver n e true es))
   | _,_=>False
 | .load t p =>
   match oper E s p with
   | some a=>(match qc s a with | some cs=>(match partOf E.P t cs with | some x=>K x s | none=>False) | none=>False)
   | none=>False
 | .nilCheck x =>
   match oper E s x with
   | some (.v (.pointer none)) | some (.v .nilFunc) | some (.v .nilIface)=>False
   | some a=>vW a = true /\ K a s
   | none=>False
 | .binOp op t x y _=>match oper E s x,oper E s y with | some a,some b=>Cm E.P op t a b fun v=>K (.v v) s | _,_=>False
 | .unOp op _ x =>
   match op,oper E s x with
   | .not,some (.v (.bool b))=>K (.v (.bool (!b))) s
   | .neg,some (.v (.int k n))=>K (.v (.int k (k.wrap (0 - n)))) s
   | _,_=>False
 | .convert src dst x=>match oper E s x with | some a=>(uF E.P src dst s a fun y=>K y s) ∨ P6 E.P src dst s a K | none=>False
 | .makeFunc fn first caps=>match rG E s first.toList,rG E s caps.toList with | some a,some b=>K (.clo fn a b) s | _,_=>False
 | .fieldAddr t x f =>
   match iY E.P t f,oper E s x with
   | some (o,_,n),some (.fO cs)=>0 < n /\ K (.fO (cs.drop o)) s
   | some (o,_,n),some (.ptr r Et i o')=>0 < n /\ K (.ptr r Et i (o' + o)) s
   | _,_=>False
 | .field t x f =>
   match iY E.P t f,oper E s x with
   | some (o,t',_),some (.agg cs)=>(match partOf E.P t' (cs.drop o) with | some y=>K y s | none=>False)
   | _,_=>False
 | .indexAddr t x i =>
   match sle E.P t,arr E.P t,oper E s x,oper E s i with
   | some (_,_,sz,_),_,some (.lst z xs),some (.v (.int _ n))=>z = sz /\ 0 <= n /\ n < xs.length /\ K (.fO (xs.getD n.toNat [])) s
   | some (_,_,sz,_),_,some (.own r Et off len),some (.v (.int _ n)) =>
     0 <= n /\ n < len /\ (match get s.hp r with | some k=>k.ver = Et /\ k.sz = sz | none=>False) /\ K (.ptr r Et (off + n.toNat) 0) s
   | _,some (m,_,sz),some (.fO cs),some (.v (.int _ n))=>0 <= n /\ n < m /\ K (.fO (cs.drop (n.toNat * sz))) s
   | _,some (m,_,sz),some (.ptr r Et j o),some (.v (.int _ n))=>0 <= n /\ n < m /\ K (.ptr r Et j (o + n.toNat * sz)) s
   | _,_,_,_=>False
 | .index t x i =>
   match E.P.underlying t,oper E s x,oper E s i with
   | some .string,some (.v (.string b)),some (.v (.int _ n))=>0 <= n /\ ∃ h:n.toNat < b.size,K (.v (.int .u8 (b[n.toNat]'h).toNat)) s
   | _,some (.agg cs),some (.v (.int _ n)) =>
     (match arr E.P t with
     | some (m,e,sz)=>0 <= n /\ n < m /\ (match partOf E.P e (cs.drop (n.toNat * sz)) with | some y=>K y s | none=>False)
     | none=>False)
   | _,_,_=>False
 | .extract x i=>match oper E s x with | some (.dM xs)=>(match xs[i]? with | some a=>K a s | none=>False) | _=>False
 | .slice t x lo hi mx =>
   match oper E s x,bnd E s lo,bnd E s hi,bnd E s mx with
   | some a,some l,some h,some m=>xW E t s a l h m K
   | _,_,_,_=>False
 | .makeSlice t l cp =>
   match sle E.P t,oper E s l,oper E s cp with
   | some (e,some z,n,by'),some (.v (.int .i64 a)),some (.v (.int .i64 b)) =>
     (match cellsOf (PW z) with
     | some cs=>b = a /\ 0 <= a /\ a <= maxLen /\ a * by' <= 140737488355328 /\ 0 < n /\ cs.length = n /\ get s.hp nm = none /\ K (.own nm ver 0 a.toNat) (s.new nm ver n e false (List.replicate a.toNat cs))
     | none=>False)
   | _,_,_=>False
 | .call cl=>Kz E nm ver cl s K
 | _=>False
theorem Rel.bZ {M:Mem} {J:bJ} {x u:Value} (h:Rel M J (.v x) u):u = x:=by
 cases h with | pure h=>cases h;rfl
theorem Rel.vY {M:Mem} {J:bJ} {cs:List AV} {u:Value} (h:Rel M J (.agg cs) u) :
   ∃ vs:Array Value,u = .agg vs /\ vs.size = cs.length /\ (∀ (i:Nat) (v:Value),vs[i]? = some v -> v.oneCell' = true) /\
     ∀ (i:Nat) (c:AV) (v:Value),cs[i]? = some c -> vs[i]? = some v -> Rel M J c v:=by
 cases h with
 | pure h=>cases h with | agg hn h1 h=>exact ⟨_,rfl,hn,h1,fun i c v a b=>.pure (h i c v a b)⟩
 | agg hn h1 h=>exact ⟨_,rfl,hn,h1,h⟩
theorem Rel.KA {M:Mem} {J:bJ} {cs:List AV} {u:Value} (h:Rel M J (.dM cs) u) :
   ∃ vs:Array Value,u = .tuple vs /\ vs.size = cs.length /\ ∀ (i:Nat) (c:AV) (v:Value),cs[i]? = some c -> vs[i]? = some v -> Rel M J c v:=by
 cases h with
 | pure h=>cases h with | dM hn h=>exact ⟨_,rfl,hn,fun i c v a b=>.pure (h i c v a b)⟩
 | dM hn h=>exact ⟨_,rfl,hn,h⟩
theorem Rel.qh {M:Mem} {J:bJ} {sz:Nat} {xs:List (List AV)} {u:Value} (h:Rel M J (.lst sz xs) u):cZ M (.lst sz xs) u:=by
 cases h with | pure h=>exact h
theorem Rel.l7 {M:Mem} {J:bJ} {cs:List AV} {u:Value} (h:Rel M J (.fO cs) u):cZ M (.fO cs) u:=by
 cases h with | pure h=>exact h
theorem Rel.sS {M:Mem} {J:bJ} {r ver off len:Nat} {u:Value} (h:Rel M J (.own r ver off len) u) :
   ∃ L A,u = .slice A len (L.cap - off) /\ J ver = some L /\ off + len <= L.cap /\ (L.nil = true -> A = none) /\ (L.nil = false -> off = 0 ∨ off < L.cap -> A = some ⟨L.b,off * L.sz,none⟩):=by
 cases h with
 | pure h=>cases h
 | own hL hl hN hA hc=>subst hc;exact ⟨_,_,rfl,hL,hl,hN,hA⟩
theorem Rel.qj {M:Mem} {J:bJ} {r ver i o:Nat} {u:Value} (h:Rel M J (.ptr r ver i o) u) :
   ∃ L:Loc,u = .pointer (some ⟨L.b,i * L.sz + o,none⟩) /\ J ver = some L /\ L.nil = false:=by
 cases h with
 | pure h=>cases h
 | ptr hL hN=>exact ⟨_,rfl,hL,hN⟩
theorem Rel.zQ {M:Mem} {J:bJ} {fn:Fn} {a b:List AV} {u:Value} (h:Rel M J (.clo fn a b) u) :
   ∃ fs cs:Array Value,u = .func fn fs cs /\ fs.size = a.length /\ cs.size = b.length /\
     (∀ (i:Nat) (c:AV) (v:Value),a[i]? = some c -> fs[i]? = some v -> Rel M J c v) /\ (∀ (i:Nat) (c:AV) (v:Value),b[i]? = some c -> cs[i]? = some v -> Rel M J c v):=by
 cases h with
 | pure h=>cases h with | clo hn hm h h'=>exact ⟨_,_,rfl,hn,hm,fun i c v a b=>.pure (h i c v a b),fun i c v a b=>.pure (h' i c v a b)⟩
 | clo hn hm h h'=>exact ⟨_,_,rfl,hn,hm,h,h'⟩
theorem afs{G:Prop}(h:G:=by
 rw [List.all_eq_true] at h
 exact h v (by rw [Array.mem_toList_iff];exact Array.mem_of_getElem? hv)):G:=h
theorem vZ (M:Mem) (J:bJ) (x:Value):Rel M J (PW x) x:=by
 cases x <;> try exact .pure (.v _)
 rename_i cs
 simp only [PW]
 split
 · rename_i h
   refine .agg (by simp) (fun i v hv=>?_) (fun i c v hc hv=>?_)
   · refine' afs
   · simp only [List.getElem?_map,Array.getElem?_toList,hv,Option.map_some,Option.some.injEq] at hc
     subst hc;exact .pure (.v _)
 · exact .pure (.v _)
section
variable {E:Env} {M0:qV} {w0:World} {c:Nat} {M:Mem} {J:bJ} {s:St} {tm:Array Value} {w:World}
theorem Inv.oper (inv:Inv E M0 w0 c M J s tm w) {ds:List Deferred} {x:Operand} {a:AV} (h:oper E s x = some a) :
   Rel M J a (Act.eval ⟨tm,ds⟩ x):=by
 cases x with
 | tmp t =>
   obtain ⟨v,hv,hr⟩:=inv.slot t a h
   simpa [Act.eval,Array.getD_eq_getD_getElem?,hv] using hr
 | const v=>simp only [aI.oper,Option.some.injEq] at h;subst h;exact vZ _ _ _
 | global g =>
   simp only [aI.oper,Option.map_eq_some_iff] at h
   obtain ⟨cs,hg,rfl⟩:=h
   exact .pure (inv.glob g cs hg)
 | func f =>
   simp only [aI.oper,Option.some.injEq] at h;subst h
   exact .pure (.clo (by rfl) (by rfl) (fun i c v a _=>by simp at a) (fun i c v a _=>by simp at a))
theorem iL {a:AV} {u:Value} {cs:List AV} (hr:Rel M J a u) (h:cellsOf a = some cs) :
   u.cells.size = cs.length /\ (∀ (j:Nat) (v:Value),u.cells[j]? = some v -> v.oneCell' = true) /\
     ∀ (j:Nat) (c:AV) (v:Value),cs[j]? = some c -> u.cells[j]? = some v -> Rel M J c v:=by
 have one:∀ {x:Value} {y:AV},x.oneCell' = true -> Rel M J y x -> cs = [y] -> x.cells.size = cs.length /\ (∀ (j:Nat) (v:Value),x.cells[j]? = some v -> v.oneCell' = true) /\
     ∀ (j:Nat) (c:AV) (v:Value),cs[j]? = some c -> x.cells[j]? = some v -> Rel M J c v:=by
   intro x y hx hy e
   have hc:x.cells = #[x]:=by cases x <;> first | rfl | simp [Value.oneCell'] at hx
   subst e;rw [hc]
   refine ⟨rfl,fun j v hv=>?_,fun j c v h1 h2=>?_⟩
   · cases j with
     | zero=>simp at hv;subst hv;exact hx
     | succ j=>simp at hv
   · cases j with
     | zero=>simp at h1 h2;subst h1;subst h2;exact hy
     | succ j=>simp at h1
 cases a with
 | v x =>
   obtain rfl:=hr.bZ
   simp only [cellsOf] at h
   split at h
   · rename_i hx;exact one hx (.pure (.v _)) (Option.some.inj h).symm
   · cases h
 | agg xs =>
   obtain ⟨vs,rfl,hn,h1,h2⟩:=hr.vY
   obtain rfl:=Option.some.inj h
   exact ⟨hn,h1,h2⟩
 | dM xs=>cases h
 | lst sz xs =>
   have:=hr.qh
   cases this;exact one rfl hr (Option.some.inj h).symm
 | fO xs =>
   have:=hr.l7
   cases this;exact one rfl hr (Option.some.inj h).symm
 | own r ver off len=>obtain ⟨L,A,rfl,_⟩:=hr.sS;exact one rfl hr (Option.some.inj h).symm
 | ptr r ver i o=>obtain ⟨L,rfl,_⟩:=hr.qj;exact one rfl hr (Option.some.inj h).symm
 | clo f a b=>obtain ⟨fs,cs',rfl,_⟩:=hr.zQ;exact one rfl hr (Option.some.inj h).symm
theorem nR {P:Program} {t:TypeId} {z:Option Value} {n b:Nat} (h:ti P t = some (z,n,b)) :
   ∃ i,P.info? t = some i /\ i.zero = z /\ i.size = n /\ i.bytes = b:=by
 simp only [ti,Option.map_eq_some_iff,Prod.mk.injEq] at h
 obtain ⟨i,h1,h2,h3,h4⟩:=h
 exact ⟨i,h1,h2,h3,h4⟩
theorem yX (inv:Inv E M0 w0 c M J s tm w) {a:AV} {u:Value} {cs:List AV} (hr:Rel M J a u) (h:qc s a = some cs) :
   ∃ b o,u = .pointer (some ⟨b,o,none⟩) /\ ∀ (j:Nat) (x:AV),cs[j]? = some x -> ∃ v,w.cell? ⟨b,o + j,none⟩ = some v /\ v.oneCell' = true /\ Rel M J x v:=by
 cases a <;> simp only [qc] at h <;> try (cases h;done)
 · obtain rfl:=Option.some.inj h
   have hp:=hr.l7
   cases hp with
   | fO u hM hx=>exact ⟨_,_,rfl,fun j x hj=>⟨_,(inv.mem _ _ _ (hM j x hj)).1,(inv.mem _ _ _ (hM j x hj)).2,.pure (hx j x hj)⟩⟩
 · rename_i r ver i o
   obtain ⟨L,rfl,hL,hN⟩:=hr.qj
   split at h
   · rename_i k hk
     split at h
     · rename_i hv
       simp only [Option.map_eq_some_iff] at h
       obtain ⟨e,he,rfl⟩:=h
       obtain ⟨L',C,hL',hb,ok⟩:=inv.heap r k hk
       rw [hv,hL] at hL'
       obtain rfl:=Option.some.inj hL'
       refine ⟨_,_,rfl,fun j x hj=>?_⟩
       rw [List.getElem?_drop] at hj
       obtain ⟨v,h1,h2,h3⟩:=ok.cell i e (o + j) x he hj
       refine ⟨v,?_,h2,h3.rel⟩
       simp only [World.cell?,ok.blk hN,Option.isSome_none,Bool.false_eq_true,if_false]
       rw [ok.sz,Nat.add_assoc];exact h1
     · cases h
   · cases h
end
theorem get_append {α:Type} (l:List (Nat × α)) (k t:Nat) (x:α) :
   get (l ++ [(k,x)]) t = match get l t with | some y=>some y | none=>if t = k then some x else none:=by
 induction l with
 | nil=>simp [get_nil,au]
 | cons p l ih =>
   obtain ⟨k',x'⟩:=p
   simp only [List.cons_append,get_nil,au]
   split
   · rfl
   · exact ih
theorem nS {α:Type} (l:List (Nat × α)) (k t:Nat) (x y:α) (h:get l k = some y):get (set l k x) t = if t = k then some x else get l t:=au _ _ _ _
theorem mapM_some {α β:Type} {f:α -> Option β}:∀ {l:List α} {l':List β},l.mapM f = some l' ->
   l'.length = l.length /\ ∀ (i:Nat) (y:β),l'[i]? = some y -> ∃ x,l[i]? = some x /\ f x = some y
 | [],l',h=>by simp at h;subst h;simp
 | x :: l,l',h=>by
   rw [List.mapM_cons] at h
   cases hx:f x with
   | none=>simp [hx] at h
   | some y =>
     cases hl:l.mapM f with
     | none=>simp [hx,hl] at h
     | some ys =>
       simp [hx,hl] at h
       subst h
       obtain ⟨h1,h2⟩:=mapM_some hl
       refine ⟨by simp [h1],fun i z hz=>?_⟩
       cases i with
       | zero=>simp at hz;subst hz;exact ⟨x,rfl,hx⟩
       | succ i=>simpa using h2 i z (by simpa using hz)
section
variable {E:Env} {M0:qV} {w0:World} {c:Nat} {M:Mem} {J:bJ} {s:St} {tm:Array Value} {w:World}
theorem rE.mono {M':Mem} {J':bJ} {L:Loc} {k:aG} {C:Array Value} (hM:Sub M M') (hJ:iG J J') (h:rE M J w L k C):rE M' J' w L k C :=
 { h with cell:=fun i e j x h1 h2=>let ⟨u,a,b,d⟩:=h.cell i e j x h1 h2;⟨u,a,b,d.mono hM hJ⟩ }
theorem rE.world {w':World} {L:Loc} {k:aG} {C:Array Value} (h:rE M J w L k C) (hw:L.nil = false -> w'.heap[L.b]? = w.heap[L.b]?):rE M J w' L k C :=
 { h with blk:=fun hn=>(hw hn).trans (h.blk hn) }
theorem gY {L:Loc} {k:aG} {C:Array Value} (h:rE M J w L k C) (hn:L.nil = false):L.b < w.heap.size:=by
 have:=h.blk hn
 rcases Nat.lt_or_ge L.b w.heap.size with h | h
 · exact h
 · rw [Array.getElem?_eq_none h] at this;cases this
theorem Inv.weaken {c':Nat} (inv:Inv E M0 w0 c M J s tm w) (h:c <= c'):Inv E M0 w0 c' M J s tm w :=
 { inv with vers:=fun r L hr=>Nat.lt_of_lt_of_le (inv.vers r L hr) h }
theorem MB (w:World) (o:Obj) (b off:Nat) (u:Value) (h:w.cell? ⟨b,off,none⟩ = some u):(w.alloc o).cell? ⟨b,off,none⟩ = some u:=by
 have:=World.block_lt_of_cell? w ⟨b,off,none⟩ h
 rw [World.cell?_alloc_lt w _ (a:=⟨b,off,none⟩) this];exact h
theorem ac9{G:Prop}(h:G:=by
 have:=inv.vers r L h
 simp only
 rw [if_neg (by omega)];exact h):G:=h
theorem adv{G:Prop}(h:G:=by
 obtain ⟨v,h1,h2⟩:=inv.slot t x hx
 exact ⟨v,h1,h2.mono (Sub.refl M) hJ⟩):G:=h
theorem aev{G:Prop}(h:G:=by
 obtain ⟨L1,C1,e1,_,ok⟩:=inv.heap r k h1
 rw [e1] at hL;obtain rfl:=Option.some.inj hL
 all_goals(rcases(⟨_⟩:PLift _)with⟨h⟩;exact h)):G:=h
theorem ae3{G:Prop}(h:G:=by
 have hold:∀ r k,get s.hp r = some k -> k.ver ≠ ver:=by
   intro r k hk e
   obtain ⟨L,C',hL,_⟩:=inv.heap r k hk
   have:=inv.vers _ _ hL
   omega
 all_goals(rcases(⟨_⟩:PLift _)with⟨h⟩;exact h)):G:=h
theorem afq{G:Prop}(h:G:=by
 simp only [if_neg n1,if_neg n2] at hL hL'
 exact inv.apart r r' k k' L L' h1 h2 hL hL' hN hN' hne):G:=h
theorem Inv.new (inv:Inv E M0 w0 c M J s tm w) {nm ver sz:Nat} {ty:TypeId} {box:Bool} {es:List (List AV)} {C:Array Value} {cap:Nat}
   (hnm:get s.hp nm = none) (hv:c <= ver) (hC:C.size = cap * sz) (hes:es.length <= cap) (hlen:∀ (i:Nat) (e:List AV),es[i]? = some e -> e.length = sz)
   (hcell:∀ (i:Nat) (e:List AV) (j:Nat) (x:AV),es[i]? = some e -> e[j]? = some x -> ∃ u,C[i * sz + j]? = some u /\ u.oneCell' = true /\ dh M J box x u)
   (hcap:cap <= maxLen) :
   ∃ J',iG J J' /\ J' ver = some ⟨w.heap.size,cap,sz,false⟩ /\ Inv E M0 w0 (ver + 1) M J' (s.new nm ver sz ty box es) tm (w.alloc (.cells C ty)):=by
 refine ⟨fun r=>if r = ver then some ⟨w.heap.size,cap,sz,false⟩ else J r,?_,by simp,?_⟩
 · intro r L h
   refine' ac9
 · have hJ:iG J (fun r=>if r = ver then some ⟨w.heap.size,cap,sz,false⟩ else J r):=by
     intro r L h
     refine' ac9
   refine' ae3
   have hget:∀ r k,get (s.new nm ver sz ty box es).hp r = some k -> (get s.hp r = some k /\ k.ver ≠ ver) ∨ (r = nm /\ k = ⟨sz,ty,ver,0,box,es⟩):=by
     intro r k hk
     simp only [St.new,get_nil,au] at hk
     split at hk
     · rename_i hr;exact .inr ⟨hr,(Option.some.inj hk).symm⟩
     · exact .inl ⟨hk,hold r _ hk⟩
   refine ⟨inv.below.alloc inv.below.size _,fun b o u h=>⟨MB _ _ _ _ _ (inv.mem b o u h).1,(inv.mem b o u h).2⟩,inv.kH,inv.jV,inv.glob,?_,?_,?_,?_,?_,fun r L h=>hJ _ _ (inv.jF r L h),fun b o h=>(Below.heap_alloc w _ _ (inv.Ep h)).trans (inv.far b o h)⟩
   · intro t x hx
     refine' adv
   · intro r k hk
     rcases hget r k hk with ⟨hk',hne⟩ | ⟨rfl,rfl⟩
     · obtain ⟨L,C',hL,hb,ok⟩:=inv.heap r k hk'
       refine ⟨L,C',by rw [if_neg hne];exact hL,hb,?_⟩
       exact (ok.mono (Sub.refl M) hJ).world (fun hn=>Below.heap_alloc w _ _ (gY ok hn))
     · refine ⟨⟨w.heap.size,cap,sz,false⟩,C,by simp,fun _=>⟨inv.below.size,inv.oN (Nat.le_refl _)⟩,⟨fun _=>heap_alloc_new w _,fun h=>by simp at h,hC,hes,Nat.zero_le _,rfl,hlen,?_,hcap⟩⟩
       intro i e j x h1 h2
       obtain ⟨u,a1,a2,a3⟩:=hcell i e j x h1 h2
       exact ⟨u,a1,a2,a3.mono (Sub.refl M) hJ⟩
   · intro r r' k k' L L' hk hk' hL hL' hN hN' hne
     rcases hget r k hk with ⟨h1,n1⟩ | ⟨rfl,rfl⟩ <;> rcases hget r' k' hk' with ⟨h2,n2⟩ | ⟨rfl,rfl⟩
     · refine' afq
     · simp only [if_neg n1,if_true,Option.some.injEq] at hL hL'
       refine' aev
       have:=gY ok hN
       subst hL';simp;omega
     · simp only [if_neg n2,if_true,Option.some.injEq] at hL hL'
       obtain ⟨L1,C1,e1,_,ok⟩:=inv.heap r' k' h2
       rw [e1] at hL';obtain rfl:=Option.some.inj hL'
       have:=gY ok hN'
       subst hL;simp;omega
     · exact absurd rfl hne
   · intro r k L o u hk hL hN hu
     rcases hget r k hk with ⟨h1,n1⟩ | ⟨rfl,rfl⟩
     · simp only [if_neg n1] at hL;exact inv.owns r k L o u h1 hL hN hu
     · simp only [if_true,Option.some.injEq] at hL
       subst hL
       have:=World.block_lt_of_cell? w _ (inv.mem _ _ _ hu).1
       simp at this
   · intro r L h
     split at h
     · omega
     · have:=inv.vers r L h;omega
theorem Inv.Yi (inv:Inv E M0 w0 c M J s tm w) {nm ver sz:Nat} {ty:TypeId} {box:Bool} 
   (hnm:get s.hp nm = none) (hv:c <= ver) :
   ∃ J',iG J J' /\ J' ver = some ⟨0,0,sz,true⟩ /\ Inv E M0 w0 (ver + 1) M J' (s.new nm ver sz ty box []) tm w:=by
 refine ⟨fun r=>if r = ver then some ⟨0,0,sz,true⟩ else J r,?_,by simp,?_⟩
 · intro r L h
   refine' ac9
 · have hJ:iG J (fun r=>if r = ver then some ⟨0,0,sz,true⟩ else J r):=by
     intro r L h
     refine' ac9
   refine' ae3
   have hget:∀ r k,get (s.new nm ver sz ty box []).hp r = some k -> (get s.hp r = some k /\ k.ver ≠ ver) ∨ (r = nm /\ k = ⟨sz,ty,ver,0,box,[]⟩):=by
     intro r k hk
     simp only [St.new,get_nil,au] at hk
     split at hk
     · rename_i hr;exact .inr ⟨hr,(Option.some.inj hk).symm⟩
     · exact .inl ⟨hk,hold r _ hk⟩
   refine ⟨inv.below,inv.mem,inv.kH,inv.jV,inv.glob,?_,?_,?_,?_,?_,fun r L h=>hJ _ _ (inv.jF r L h),inv.far⟩
   · intro t x hx
     refine' adv
   · intro r k hk
     rcases hget r k hk with ⟨hk',hne⟩ | ⟨rfl,rfl⟩
     · obtain ⟨L,C',hL,hb,ok⟩:=inv.heap r k hk'
       refine ⟨L,C',by rw [if_neg hne];exact hL,hb,?_⟩
       exact ok.mono (Sub.refl M) hJ
     · exact ⟨⟨0,0,sz,true⟩,#[],by simp,fun h=>by simp at h,⟨fun h=>by simp at h,fun _=>rfl,by simp,by simp,Nat.zero_le _,rfl,fun i e h=>by simp at h,fun i e j x h=>by simp at h,Nat.zero_le _⟩⟩
   · intro r r' k k' L L' hk hk' hL hL' hN hN' hne
     rcases hget r k hk with ⟨h1,n1⟩ | ⟨rfl,rfl⟩ <;> rcases hget r' k' hk' with ⟨h2,n2⟩ | ⟨rfl,rfl⟩
     · refine' afq
     · simp only [if_true,Option.some.injEq] at hL'
       subst hL';simp at hN'
     · simp only [if_true,Option.some.injEq] at hL
       subst hL;simp at hN
     · exact absurd rfl hne
   · intro r k L o u hk hL hN hu
     rcases hget r k hk with ⟨h1,n1⟩ | ⟨rfl,rfl⟩
     · simp only [if_neg n1] at hL;exact inv.owns r k L o u h1 hL hN hu
     · simp only [if_true,Option.some.injEq] at hL
       subst hL;simp at hN
   · intro r L h
     split at h
     · omega
     · have:=inv.vers r L h;omega
theorem agc{G:Prop}(h:G:=by
 obtain ⟨v,h1,h2⟩:=inv.slot t x hx
 exact ⟨v,h1,h2.mono hsub (iG.refl J)⟩):G:=h
theorem Inv.UK (inv:Inv E M0 w0 c M J s tm w) {r n:Nat} {k:aG} (hk:get s.hp r = some k) :
   ∃ M',Sub M M' /\ Inv E M0 w0 c M' J { s with hp:=set s.hp r { k with fH:=max k.fH (min n k.es.length) } } tm w /\
     ∀ L C,J k.ver = some L -> L.nil = false -> w.heap[L.b]? = some (.cells C k.ty (0,0)) -> ∀ i j,i < n -> i < k.es.length -> j < k.sz -> M' L.b (i * k.sz + j) = C[i * k.sz + j]?:=by
 obtain ⟨L,C,hL,hb,ok⟩:=inv.heap r k hk
 have hgs:∀ r',get (set s.hp r { k with fH:=max k.fH (min n k.es.length) }) r' = if r' = r then some { k with fH:=max k.fH (min n k.es.length) } else get s.hp r':=fun r'=>nS _ _ _ _ _ hk
 have hcell:L.nil = false -> ∀ o,w.cell? ⟨L.b,o,none⟩ = C[o]?:=fun hn o=>cell_of_row w L.b o C k.ty (0,0) (ok.blk hn)
 have hsub:Sub M (fun b o=>if L.nil = false /\ b = L.b /\ o < min n k.es.length * k.sz then C[o]? else M b o):=by
   intro b o u h
   show (if L.nil = false /\ b = L.b /\ o < min n k.es.length * k.sz then C[o]? else M b o) = some u
   split
   · rename_i hc;obtain ⟨hn,rfl,_⟩:=hc;rw [<- hcell hn];exact (inv.mem _ _ _ h).1
   · exact h
 have hone:∀ o u,o < min n k.es.length * k.sz -> C[o]? = some u -> u.oneCell' = true:=by
   intro o u ho hu
   have hz:0 < k.sz:=by
                            rcases Nat.eq_zero_or_pos k.sz with h | h;· rw [h] at ho;simp at ho
                            · exact h
   have hq:o / k.sz < k.es.length:=by
     have:o / k.sz < min n k.es.length:=(Nat.div_lt_iff_lt_mul hz).2 ho
     omega
   have hm:o % k.sz < k.sz:=Nat.mod_lt _ hz
   obtain ⟨e,he⟩:∃ e,k.es[o / k.sz]? = some e:=⟨_,List.getElem?_eq_getElem hq⟩
   have hl:=ok.len _ _ he
   obtain ⟨x,hx⟩:∃ x,e[o % k.sz]? = some x:=⟨_,List.getElem?_eq_getElem (by omega)⟩
   obtain ⟨u',h1,h2,_⟩:=ok.cell _ _ _ _ he hx
   rw [Nat.div_add_mod' o k.sz] at h1
   rw [h1] at hu;obtain rfl:=Option.some.inj hu;exact h2
 refine ⟨_,hsub,⟨inv.below,?_,?_,fun b o u h=>hsub _ _ _ (inv.jV b o u h),fun g cs h=>(inv.glob g cs h).mono hsub,?_,?_,?_,?_,inv.vers,inv.jF,inv.far⟩,?_⟩
 · intro b o u h
   split at h
   · rename_i hc;obtain ⟨hn,rfl,ho⟩:=hc;exact ⟨by rw [hcell hn];exact h,hone o u ho h⟩
   · exact inv.mem b o u h
 · intro b o u h
   split at h
   · rename_i hc;obtain ⟨hn,rfl,ho⟩:=hc;exact .inr (hb hn)
   · exact inv.kH b o u h
 · intro t x hx
   refine' agc
 · intro r' k' hk'
   rw [hgs] at hk'
   split at hk'
   · obtain rfl:=Option.some.inj hk'
     exact ⟨L,C,hL,hb,{ (ok.mono hsub (iG.refl J)) with fH:=by have:=ok.fH;simp only;omega }⟩
   · obtain ⟨L',C',a1,a2,a3⟩:=inv.heap r' k' hk'
     exact ⟨L',C',a1,a2,a3.mono hsub (iG.refl J)⟩
 · intro r1 r2 k1 k2 L1 L2 h1 h2 hL1 hL2 hN1 hN2 hne
   rw [hgs] at h1 h2
   have f:∀ r' k',(if r' = r then some { k with fH:=max k.fH (min n k.es.length) } else get s.hp r') = some k' -> ∃ k0,get s.hp r' = some k0 /\ k0.ver = k'.ver:=by
     intro r' k' h
     split at h
     · rename_i e;subst e;exact ⟨k,hk,by rw [<- Option.some.inj h]⟩
     · exact ⟨k',h,rfl⟩
   obtain ⟨a,ha,ea⟩:=f _ _ h1
   obtain ⟨b,hb',eb⟩:=f _ _ h2
   exact inv.apart r1 r2 a b L1 L2 ha hb' (by rw [ea];exact hL1) (by rw [eb];exact hL2) hN1 hN2 hne
 · intro r' k' L' o u hk' hL' hN' hu
   rw [hgs] at hk'
   split at hk'
   · obtain rfl:=Option.some.inj hk'
     have acU:J k.ver = some L':=hL'
     rw [hL] at acU;obtain rfl:=Option.some.inj acU
     show o < max k.fH (min n k.es.length) * k.sz
     split at hu
     · rename_i hc
       refine Nat.lt_of_lt_of_le hc.2.2 (Nat.mul_le_mul_right _ ?_)
       omega
     · refine Nat.lt_of_lt_of_le (inv.owns r k L o u hk hL hN' hu) (Nat.mul_le_mul_right _ ?_)
       omega
   · rename_i hr
     split at hu
     · rename_i hc
       exact absurd hc.2.1 (inv.apart r' r k' k L' L hk' hk hL' hL hN' hc.1 hr)
     · exact inv.owns r' k' L' o u hk' hL' hN' hu
 · intro L' C' hL' hN' hC' i j hi hi' hj
   rw [hL] at hL';obtain rfl:=Option.some.inj hL'
   rw [ok.blk hN'] at hC';cases hC'
   have:(i + 1) * k.sz <= min n k.es.length * k.sz:=Nat.mul_le_mul_right _ (by omega)
   rw [Nat.add_mul] at this
   exact if_pos ⟨hN',rfl,by omega⟩
theorem Inv.freeze:∀ (l:List (Nat × Nat)) {M:Mem} {s:St},Inv E M0 w0 c M J s tm w ->
   ∃ M',Sub M M' /\ Inv E M0 w0 c M' J (s.freeze l) tm w /\
     ∀ r n k L C,(r,n) ∈ l -> get s.hp r = some k -> J k.ver = some L -> L.nil = false -> w.heap[L.b]? = some (.cells C k.ty (0,0)) ->
       ∀ i j u,i < n -> i < k.es.length -> j < k.sz -> C[i * k.sz + j]? = some u -> M' L.b (i * k.sz + j) = some u
 | [],M,s,inv=>⟨M,Sub.refl M,inv,fun _ _ _ _ _ h=>by simp at h⟩
 | (r,n) :: l,M,s,inv=>by
   simp only [St.freeze]
   split
   · rename_i k hk
     obtain ⟨M1,h1,i1,f1⟩:=inv.UK (n:=n) hk
     obtain ⟨M2,h2,i2,f2⟩:=Inv.freeze l i1
     refine ⟨M2,h1.trans h2,i2,fun r' n' k' L C hm hk' hL hN hC i j u hi hi' hj hu=>?_⟩
     rcases List.mem_cons.1 hm with e | hm2
     · obtain ⟨rfl,rfl⟩:=Prod.mk.inj e
       rw [hk] at hk';obtain rfl:=Option.some.inj hk'
       exact h2 _ _ _ (by rw [f1 L C hL hN hC i j hi hi' hj,hu])
     · by_cases e:r' = r
       · subst e
         rw [hk] at hk';obtain rfl:=Option.some.inj hk'
         exact f2 r' n' { k with fH:=max k.fH (min n k.es.length) } L C hm2 (by rw [nS _ _ _ _ _ hk,if_pos rfl]) hL hN hC i j u hi hi' hj hu
       · exact f2 r' n' k' L C hm2 (by rw [nS _ _ _ _ _ hk,if_neg e];exact hk') hL hN hC i j u hi hi' hj hu
   · rename_i hk
     obtain ⟨M2,h2,i2,f2⟩:=Inv.freeze l inv
     refine ⟨M2,h2,i2,fun r' n' k' L C hm hk' hL hN hC i j u hi hi' hj hu=>?_⟩
     rcases List.mem_cons.1 hm with e | hm2
     · obtain ⟨rfl,rfl⟩:=Prod.mk.inj e
       rw [hk] at hk';cases hk'
     · exact f2 r' n' k' L C hm2 hk' hL hN hC i j u hi hi' hj hu
theorem CU (inv:Inv E M0 w0 c M J s tm w) {M':Mem} (hM:Sub M M'):∀ (n:Nat) (x y:AV) (v:Value),iE s n x = some y -> Rel M J x v ->
   (∀ r m k L C,(r,m) ∈ reads n x -> get s.hp r = some k -> J k.ver = some L -> L.nil = false -> w.heap[L.b]? = some (.cells C k.ty (0,0)) ->
       ∀ i j u,i < m -> i < k.es.length -> j < k.sz -> C[i * k.sz + j]? = some u -> M' L.b (i * k.sz + j) = some u) -> cZ M' y v
 | 0,_,_,_,h,_,_=>by simp [iE] at h
 | n + 1,x,y,v,h,hr,hf=>by
   have row:∀ {cs cs':List AV} {vs:Array Value},cs.mapM (iE s n) = some cs' -> vs.size = cs.length ->
       (∀ (i:Nat) (c:AV) (v:Value),cs[i]? = some c -> vs[i]? = some v -> Rel M J c v) -> (∀ c ∈ cs,∀ p,p ∈ reads n c -> p ∈ reads (n + 1) x) ->
       vs.size = cs'.length /\ ∀ (i:Nat) (c:AV) (v:Value),cs'[i]? = some c -> vs[i]? = some v -> cZ M' c v:=by
     intro cs cs' vs hm hs hp hin
     obtain ⟨h1,h2⟩:=mapM_some hm
     refine ⟨by rw [hs,h1],fun i c v hc hv=>?_⟩
     obtain ⟨c0,hc0,hp0⟩:=h2 i c hc
     exact CU inv hM n c0 c v hp0 (hp i c0 v hc0 hv) (fun r m k L C hm'=>hf r m k L C (hin c0 (List.mem_of_getElem? hc0) _ hm'))
   cases x with
   | v x=>simp only [iE,Option.some.injEq] at h;subst h;obtain rfl:=hr.bZ;exact .v _
   | lst sz xs=>simp only [iE,Option.some.injEq] at h;subst h;exact hr.qh.mono hM
   | fO xs=>simp only [iE,Option.some.injEq] at h;subst h;exact hr.l7.mono hM
   | ptr r ver i o=>simp [iE] at h
   | agg cs =>
     simp only [iE,Option.map_eq_some_iff] at h
     obtain ⟨cs',hm,rfl⟩:=h
     obtain ⟨vs,rfl,hn,h1,h2⟩:=hr.vY
     obtain ⟨a,b⟩:=row hm hn h2 (fun c hc p hp=>by simp only [reads,List.mem_flatMap];exact ⟨c,hc,hp⟩)
     exact .agg a h1 b
   | dM cs =>
     simp only [iE,Option.map_eq_some_iff] at h
     obtain ⟨cs',hm,rfl⟩:=h
     obtain ⟨vs,rfl,hn,h2⟩:=hr.KA
     obtain ⟨a,b⟩:=row hm hn h2 (fun c hc p hp=>by simp only [reads,List.mem_flatMap];exact ⟨c,hc,hp⟩)
     exact .dM a b
   | clo f a b =>
     simp only [iE] at h
     split at h
     · rename_i a' b' ha hb
       obtain rfl:=Option.some.inj h
       obtain ⟨fs,cs,rfl,hn,hm,h1,h2⟩:=hr.zQ
       obtain ⟨x1,x2⟩:=row ha hn h1 (fun c hc p hp=>by simp only [reads,List.mem_append,List.mem_flatMap];exact .inl ⟨c,hc,hp⟩)
       obtain ⟨y1,y2⟩:=row hb hm h2 (fun c hc p hp=>by simp only [reads,List.mem_append,List.mem_flatMap];exact .inr ⟨c,hc,hp⟩)
       exact .clo x1 y1 x2 y2
     · cases h
   | own r ver off len =>
     simp only [iE] at h
     split at h
     · rename_i k hk
       split at h
       · rename_i hc
         obtain ⟨hv,hl,hb⟩:=hc
         obtain rfl:=Option.some.inj h
         obtain ⟨L,A,rfl,hL,hcap,hN,hA⟩:=hr.sS
         obtain ⟨L',C,hL',_,ok⟩:=inv.heap r k hk
         rw [hv,hL] at hL';obtain rfl:=Option.some.inj hL'
         have hlen:((k.es.drop off).take len).length = len:=by simp;omega
         have hget:∀ (i:Nat) (e:List AV),((k.es.drop off).take len)[i]? = some e -> i < len /\ k.es[off + i]? = some e:=by
           intro i e he
           have hi:i < len:=by have:=(List.getElem?_eq_some_iff.1 he).1;omega
           rw [List.getElem?_take,if_pos hi,List.getElem?_drop] at he
           exact ⟨hi,he⟩
         have hnn:0 < len -> L.nil = false:=by
           intro h0
           cases hb:L.nil with
           | false=>rfl
           | true=>have:=ok.none hb;omega
         refine .lst (fun i j=>C.getD ((off + i) * k.sz + j) undef) hlen.symm (by rw [hlen];omega) (fun i e he=>ok.len _ _ (hget i e he).2) ?_ ?_ ?_
         · intro hne
           have:0 < len:=by
                                rcases Nat.eq_zero_or_pos len with h0 | h0
                                · subst h0;simp at hne
                                · exact h0
           exact ⟨_,_,hA (hnn this) (by omega)⟩
         · intro b o i e j c P7 he hj
           obtain ⟨hi,he'⟩:=hget i e he
           have hn:=hnn (by omega)
           rw [hA hn (by omega)] at P7
           simp only [Option.some.injEq,Addr.mk.injEq,and_true] at P7
           obtain ⟨rfl,rfl⟩:=P7
           obtain ⟨u,hu,_,_⟩:=ok.cell _ _ _ _ he' hj
           have hjz:j < k.sz:=by rw [<- ok.len _ _ he'];exact (List.getElem?_eq_some_iff.1 hj).1
           have h1:=hf r (off + len) k L C (by simp [reads]) hk (by rw [hv];exact hL) hn (ok.blk hn) (off + i) j u (by omega) (by have:=(List.getElem?_eq_some_iff.1 he').1;exact this) hjz hu
           rw [Array.getD_eq_getD_getElem?,hu,Option.getD_some,ok.sz,<- h1,Nat.add_mul]
         · intro i e j c he hj
           obtain ⟨hi,he'⟩:=hget i e he
           obtain ⟨u,hu,_,hc⟩:=ok.cell _ _ _ _ he' hj
           rw [Array.getD_eq_getD_getElem?,hu,Option.getD_some]
           unfold dh at hc
           rw [hb] at hc
           exact (show cZ M c u from by simpa using hc).mono hM
       · cases h
     · cases h
theorem ql:∀ (l:List (Nat × Nat)) (s:St),(s.freeze l).ctr = s.ctr
 | [],_=>rfl
 | (r,n) :: l,s=>by
   simp only [St.freeze]
   split
   · rw [ql l]
   · rw [ql l]
theorem Inv.pure (inv:Inv E M0 w0 c M J s tm w) {x:AV} {v:Value} {K:AV -> St -> Prop} (hr:Rel M J x v) (h:s.pure x K) :
   ∃ y s' M',K y s' /\ Sub M M' /\ Inv E M0 w0 c M' J s' tm w /\ cZ M' y v /\ s'.ctr = s.ctr:=by
 unfold St.pure at h
 split at h
 · rename_i y hy
   obtain ⟨M',h1,h2,h3⟩:=inv.freeze (reads deep x)
   exact ⟨y,_,M',h,h1,h2,CU inv h1 deep x y v hy hr h3,ql _ _⟩
 · exact h.elim
theorem Inv.nP:∀ (l:List AV) {M:Mem} {s:St} {vs:List Value} {K:List AV -> St -> Prop},Inv E M0 w0 c M J s tm w -> vs.length = l.length ->
   (∀ (i:Nat) (x:AV) (v:Value),l[i]? = some x -> vs[i]? = some v -> Rel M J x v) -> s.nP l K ->
   ∃ l' s' M',K l' s' /\ Sub M M' /\ Inv E M0 w0 c M' J s' tm w /\ l'.length = l.length /\ ∀ (i:Nat) (x:AV) (v:Value),l'[i]? = some x -> vs[i]? = some v -> cZ M' x v
 | [],M,s,vs,K,inv,_,_,h=>⟨[],s,M,h,Sub.refl M,inv,rfl,fun i x v hx=>by simp at hx⟩
 | x :: l,M,s,[],K,inv,hl,_,h=>by simp at hl
 | x :: l,M,s,v :: vs,K,inv,hl,hr,h=>by
   simp only [St.nP] at h
   obtain ⟨y,s1,M1,hK,hs1,i1,r1,_⟩:=inv.pure (hr 0 x v rfl rfl) h
   obtain ⟨l',s2,M2,hK2,hs2,i2,hl2,r2⟩:=Inv.nP l (vs:=vs) i1 (by simpa using hl) (fun i x' v' hx hv=>(hr (i + 1) x' v' (by simpa using hx) (by simpa using hv)).mono hs1 (iG.refl J)) hK
   refine ⟨y :: l',s2,M2,hK2,hs1.trans hs2,i2,by simp [hl2],fun i x' v' hx hv=>?_⟩
   cases i with
   | zero=>simp at hx hv;subst hx;subst hv;exact r1.mono hs2
   | succ i=>exact r2 i x' v' (by simpa using hx) (by simpa using hv)
theorem Inv.mark (inv:Inv E M0 w0 c M J s tm w) {r:Nat} {k:aG} {L:Loc} {C:Array Value} (hk:get s.hp r = some k) (hL:J k.ver = some L) (hn:L.nil = false) (hblk:w.heap[L.b]? = some (.cells C k.ty (0,0)))
   {hp':List (Nat × aG)} (hsub:∀ r' k',get hp' r' = some k' -> r' ≠ r /\ get s.hp r' = some k'):Inv E M0 w0 c M J { s with hp:=hp' } tm (w.freeze ⟨L.b,C.size,none⟩ 1):=by
 have hw:(w.freeze ⟨L.b,C.size,none⟩ 1) = { w with heap:=w.heap.modify L.b fun | .cells c elem (lo,hi)=>.cells c elem (if lo == hi then (C.size,C.size + 1) else (min lo C.size,max hi (C.size + 1))) | o=>o }:=by
   unfold World.freeze;rw [if_neg (by decide)];rfl
 obtain ⟨L1,C1,e1,hb1,ok1⟩:=inv.heap r k hk
 rw [hL] at e1;obtain rfl:=Option.some.inj e1
 have hother:∀ b,b ≠ L.b -> (w.freeze ⟨L.b,C.size,none⟩ 1).heap[b]? = w.heap[b]?:=by
   intro b hb
   rw [hw];simp only [Array.getElem?_modify];rw [if_neg (fun e=>hb e.symm)]
 have hsize:(w.freeze ⟨L.b,C.size,none⟩ 1).heap.size = w.heap.size:=by rw [hw];simp
 have hcell:∀ a:Addr,(w.freeze ⟨L.b,C.size,none⟩ 1).cell? ⟨a.block,a.off,none⟩ = w.cell? ⟨a.block,a.off,none⟩:=by
   intro a
   by_cases hb:a.block = L.b
   · have:(w.freeze ⟨L.b,C.size,none⟩ 1).heap[L.b]? = some (.cells C k.ty (C.size,C.size + 1)):=by
       rw [hw];simp only [Array.getElem?_modify,if_true,hblk,Option.map_some];rfl
     simp only [World.cell?,hb,this,hblk]
   · exact World.cell?_of_block (a:=⟨a.block,a.off,none⟩) (hother _ hb)
 refine ⟨?_,fun b o u h=>⟨by rw [hcell ⟨b,o,none⟩];exact (inv.mem b o u h).1,(inv.mem b o u h).2⟩,inv.kH,inv.jV,inv.glob,inv.slot,?_,?_,?_,inv.vers,inv.jF,fun b o h=>(hother b (fun e=>by rw [e,(hb1 hn).2] at h;cases h)).trans (inv.far b o h)⟩
 · refine inv.below.trans ⟨by rw [hw],by rw [hw],by rw [hw],by omega,fun b hb=>hother b ?_⟩
   intro e;have:=(hb1 hn).1;omega
 · intro r' k' h'
   obtain ⟨h1,h2⟩:=hsub r' k' h'
   obtain ⟨L2,C2,a1,a2,a3⟩:=inv.heap r' k' h2
   refine ⟨L2,C2,a1,a2,a3.world fun hn2=>hother _ fun e=>inv.apart r' r k' k L2 L h2 hk a1 hL hn2 hn h1 e⟩
 · intro r1 r2 k1 k2 L1 L2 h1 h2
   exact inv.apart r1 r2 k1 k2 L1 L2 (hsub _ _ h1).2 (hsub _ _ h2).2
 · intro r' k' L' o u h'
   exact inv.owns r' k' L' o u (hsub _ _ h').2
end
def Goes (E:Env) (M0:qV) (w0:World) (c n ver:Nat) (M:Mem) (J:bJ) (tm:Array Value) (r:Result Next) (K:AV -> St -> Prop):Prop :=
 ∃ v w' M' J' x s' c',r = .ok (.value v) w' /\ K x s' /\ Inv E M0 w0 c' M' J' s' tm w' /\ Rel M' J' x v /\ Sub M M' /\ iG J J' /\ (c' = c /\ s'.ctr = n ∨ c' = ver + 1 /\ s'.ctr = ver + 8)
section
variable {E:Env} {M0:qV} {w0:World} {c:Nat} {M:Mem} {J:bJ} {s:St} {tm:Array Value} {w:World} {K:AV -> St -> Prop}
theorem Goes.here (inv:Inv E M0 w0 c M J s tm w) {ver:Nat} {v:Value} {x:AV} (hk:K x s) (hr:Rel M J x v) :
 Goes E M0 w0 c s.ctr ver M J tm (.ok (.value v) w) K:=⟨v,w,M,J,x,s,c,rfl,hk,inv,hr,Sub.refl M,iG.refl J,.inl ⟨rfl,rfl⟩⟩
theorem xX (inv:Inv E M0 w0 c M J s tm w) {ds:List Deferred}:∀ {parts:List (Nat × Operand)} {l:List (Nat × AV)},vX E s parts = some l ->
   l.length = parts.length /\ ∀ (i j:Nat) (x:AV),l[i]? = some (j,x) -> ∃ o,parts[i]? = some (j,o) /\ Rel M J x (Act.eval ⟨tm,ds⟩ o)
 | [],l,h=>by simp only [vX,Option.some.injEq] at h;subst h;simp
 | (k,x) :: rest,l,h=>by
   simp only [vX] at h
   split at h
   · rename_i a l' ha hl
     obtain rfl:=Option.some.inj h
     obtain ⟨h1,h2⟩:=xX inv hl
     refine ⟨by simp [h1],fun i j y hy=>?_⟩
     cases i with
     | zero=>simp at hy;obtain ⟨rfl,rfl⟩:=hy;exact ⟨x,rfl,inv.oper ha⟩
     | succ i=>simpa using h2 i j y (by simpa using hy)
   · cases h
theorem sU (inv:Inv E M0 w0 c M J s tm w) {ds:List Deferred}:∀ {parts:List Operand} {l:List AV},rG E s parts = some l ->
   l.length = parts.length /\ ∀ (i:Nat) (x:AV),l[i]? = some x -> ∃ o,parts[i]? = some o /\ Rel M J x (Act.eval ⟨tm,ds⟩ o)
 | [],l,h=>by simp only [rG,Option.some.injEq] at h;subst h;simp
 | x :: rest,l,h=>by
   simp only [rG] at h
   split at h
   · rename_i a l' ha hl
     obtain rfl:=Option.some.inj h
     obtain ⟨h1,h2⟩:=sU inv hl
     refine ⟨by simp [h1],fun i y hy=>?_⟩
     cases i with
     | zero=>simp at hy;subst hy;exact ⟨x,rfl,inv.oper ha⟩
     | succ i=>simpa using h2 i y (by simpa using hy)
   · cases h
theorem foldl_set (off:Nat):∀ (l:List Value) (n:Nat) (C:Array Value),off + n + l.length <= C.size ->
   ((l.zipIdx n).foldl (fun cs p=>cs.setIfInBounds (off + p.2) p.1) C).size = C.size /\
     ∀ k,((l.zipIdx n).foldl (fun cs p=>cs.setIfInBounds (off + p.2) p.1) C)[k]? = if off + n <= k /\ k < off + n + l.length then l[k - (off + n)]? else C[k]?
 | [],n,C,_=>by
   refine ⟨rfl,fun k=>?_⟩
   simp only [List.zipIdx_nil,List.foldl_nil,List.length_nil]
   rw [if_neg (by omega)]
 | v :: l,n,C,h=>by
   simp only [List.length_cons] at h
   obtain ⟨h1,h2⟩:=foldl_set off l (n + 1) (C.setIfInBounds (off + n) v) (by simp;omega)
   simp only [List.zipIdx_cons,List.foldl_cons]
   refine ⟨by simpa using h1,fun k=>?_⟩
   rw [h2 k]
   simp only [List.length_cons]
   by_cases hk:k = off + n
   · subst hk
     rw [if_neg (by omega),if_pos (by omega),Nat.sub_self]
     simp only [List.getElem?_cons_zero]
     rw [Array.getElem?_setIfInBounds]
     simp;omega
   · by_cases hk2:off + (n + 1) <= k /\ k < off + (n + 1) + l.length
     · rw [if_pos hk2,if_pos (by omega)]
       rw [show k - (off + n) = (k - (off + (n + 1))) + 1 by omega,List.getElem?_cons_succ]
     · rw [if_neg hk2,if_neg (by omega),Array.getElem?_setIfInBounds,if_neg (by omega)]
theorem uG (A:List AV) (off:Nat) (cs:List AV) (h:off + cs.length <= A.length) (k:Nat) :
   (dN A off cs)[k]? = if off <= k /\ k < off + cs.length then cs[k - off]? else A[k]?:=by
 unfold dN
 by_cases h1:k < off
 · rw [if_neg (by omega),List.append_assoc,List.getElem?_append_left (by simp;omega),List.getElem?_take,if_pos h1]
 · rw [List.append_assoc,List.getElem?_append_right (by simp;omega)]
   have hl:(List.take off A).length = off:=by simp;omega
   rw [hl]
   by_cases h2:k < off + cs.length
   · rw [if_pos (by omega),List.getElem?_append_left (by omega)]
   · rw [if_neg (by omega),List.getElem?_append_right (by omega),List.getElem?_drop]
     congr 1;omega
def Row (M:Mem) (J:bJ) (A:List AV) (C:Array Value):Prop :=
 C.size = A.length /\ (∀ (j:Nat) (v:Value),C[j]? = some v -> v.oneCell' = true) /\ ∀ (j:Nat) (x:AV) (v:Value),A[j]? = some x -> C[j]? = some v -> Rel M J x v
theorem Row.with {A cs:List AV} {C:Array Value} {u:Value} {off:Nat} (hA:Row M J A C) (hc:Row M J cs u.cells) (h:off + cs.length <= A.length) :
   Row M J (dN A off cs) (u.cells.zipIdx.foldl (fun cs (c,j)=>cs.setIfInBounds (off + j) c) C):=by
 obtain ⟨a1,a2,a3⟩:=hA
 obtain ⟨c1,c2,c3⟩:=hc
 have he:(u.cells.zipIdx.foldl (fun cs (c,j)=>cs.setIfInBounds (off + j) c) C) = ((u.cells.toList.zipIdx 0).foldl (fun cs p=>cs.setIfInBounds (off + p.2) p.1) C):=by
   rw [<- Array.foldl_toList,Array.toList_zipIdx]
 rw [he]
 have hlen:u.cells.toList.length = cs.length:=by simp [c1]
 obtain ⟨f1,f2⟩:=foldl_set off u.cells.toList 0 C (by rw [hlen];omega)
 refine ⟨?_,fun j v hv=>?_,fun j x v hx hv=>?_⟩
 · rw [f1,a1];simp [dN];omega
 · rw [f2] at hv
   split at hv
   · exact c2 _ v (by simpa using hv)
   · exact a2 _ v hv
 · rw [f2,hlen] at hv
   rw [uG A off cs h] at hx
   simp only [Nat.add_zero] at hv
   split at hx
   · rename_i hc'
     rw [if_pos hc'] at hv
     exact c3 _ x v hx (by simpa using hv)
   · rename_i hc'
     rw [if_neg hc'] at hv
     exact a3 _ x v hx hv
theorem FU {place:Nat -> Option (Nat × Nat)}:∀ {l:List (Nat × AV)} {ps:List (Nat × Value)} {A cs:List AV} {C:Array Value},ps.length = l.length ->
   (∀ (i j:Nat) (x:AV),l[i]? = some (j,x) -> ∃ v,ps[i]? = some (j,v) /\ Rel M J x v) -> Row M J A C -> qg place A l = some cs ->
   ∃ C',Instr.fill place C ps = some C' /\ Row M J cs C'
 | [],ps,A,cs,C,hl,_,hA,h=>by
   simp only [qg,Option.some.injEq] at h;subst h
   have:ps = []:=List.eq_nil_of_length_eq_zero (by simpa using hl)
   subst this
   exact ⟨C,rfl,hA⟩
 | (i,x) :: rest,ps,A,cs,C,hl,hr,hA,h=>by
   match ps,hl with
   | (i',v) :: ps',hl =>
     obtain ⟨v',hv',hrx⟩:=hr 0 i x rfl
     simp only [List.getElem?_cons_zero,Option.some.injEq,Prod.mk.injEq] at hv'
     obtain ⟨rfl,rfl⟩:=hv'
     simp only [qg] at h
     split at h
     · rename_i off size cs' hp hcs
       split at h
       · rename_i hc
         have hcr:=iL hrx hcs
         have hrow:Row M J cs' v.cells:=⟨hcr.1,hcr.2.1,hcr.2.2⟩
         obtain ⟨C',e1,e2⟩:=FU (l:=rest) (ps:=ps') (by simpa using hl) (fun k j y hy=>by simpa using hr (k + 1) j y (by simpa using hy)) (hA.with hrow (by omega)) h
         refine ⟨C',?_,e2⟩
         simp only [Instr.fill,hp]
         rw [if_neg]
         · exact e1
         · simp only [hcr.1,bne_iff_ne,ne_eq,gt_iff_lt,Bool.or_eq_true,decide_eq_true_eq,hA.1];omega
       · cases h
     · cases h
theorem MC (vs:Array Value) (h:vs.toList.all Value.oneCell' = true):Row M J (vs.toList.map .v) vs:=by
 refine ⟨by simp,fun j v hv=>?_,fun j x v hx hv=>?_⟩
 · refine' afs
 · simp only [List.getElem?_map,Array.getElem?_toList,hv,Option.map_some,Option.some.injEq] at hx
   subst hx;exact .pure (.v _)
theorem ae7{G:Prop}(h:G:=by (simp only [Option.map_eq_some_iff,Prod.mk.injEq] at h);all_goals(rcases(⟨_⟩:PLift _)with⟨h⟩;exact h)):G:=h
theorem MF {P:Program} {t:TypeId} {z:List AV} {places:List (Nat × Nat)} (h:lay P t = some (z,places)) :
   ∃ i zs,P.info? t = some i /\ i.zero = some (.agg zs) /\ z = zs.toList.map .v /\ zs.toList.all Value.oneCell' = true /\
     ∀ parts C,Instr.fill (places[·]?) zs parts = some C -> (∀ p ∈ parts,p.1 < places.length) -> P.built t parts = some C:=by
 unfold lay at h
 split at h
 · rename_i fields zs n b hu ht
   obtain ⟨i,hi,hz,hs,_⟩:=nR ht
   split at h
   case isFalse=>cases h
   rename_i hone
   refine' ae7
   obtain ⟨l,hl,rfl,rfl⟩:=h
   refine ⟨i,zs,hi,hz,rfl,hone,fun parts C hC _=>?_⟩
   simp only [Program.built,hi,hu,hz,hl]
   simpa [Value.cells] using hC
 · rename_i n e zs m b hu ht
   obtain ⟨i,hi,hz,hs,_⟩:=nR ht
   split at h
   case isFalse=>cases h
   rename_i hone
   refine' ae7
   obtain ⟨ie,hie,rfl,rfl⟩:=h
   refine ⟨i,zs,hi,hz,rfl,hone,fun parts C hC hlt=>?_⟩
   simp only [Program.built,hi,hu,hz,hie]
   have:∀ (ps:List (Nat × Value)) (A:Array Value),(∀ p ∈ ps,p.1 < n) ->
       Instr.fill (fun i=>some (i * ie.size,ie.size)) A ps = Instr.fill (((List.range n).map fun j=>(j * ie.size,ie.size))[·]?) A ps:=by
     intro ps
     induction ps with
     | nil=>intro A _;rfl
     | cons p ps ih =>
       intro A hp
       obtain ⟨k,v⟩:=p
       have hk:k < n:=hp (k,v) (by simp)
       have e:((List.range n).map fun j=>(j * ie.size,ie.size))[k]? = some (k * ie.size,ie.size):=by simp [hk]
       simp only [Instr.fill]
       rw [e]
       simp only
       split
       · rfl
       · exact ih _ (fun p hp'=>hp p (by simp [hp']))
   show Instr.fill (fun i=>some (i * ie.size,ie.size)) (Value.agg zs).cells parts = some C
   rw [show (Value.agg zs).cells = zs from rfl,this parts zs (by simpa using hlt)]
   exact hC
 · cases h
end
section
variable {E:Env} {M0:qV} {w0:World} {c:Nat} {M:Mem} {J:bJ} {s:St} {tm:Array Value} {w:World} {K:AV -> St -> Prop} {ds:List Deferred} {nm ver:Nat}
theorem FV {place:Nat -> Option (Nat × Nat)}:∀ {l:List (Nat × AV)} {A cs:List AV},qg place A l = some cs -> ∀ p ∈ l,place p.1 ≠ none
 | [],_,_,_,p,hp=>by simp at hp
 | (i,x) :: rest,A,cs,h,p,hp=>by
   simp only [qg] at h
   split at h
   · rename_i off size cs' hpl _
     split at h
     · rcases List.mem_cons.1 hp with rfl | hp
       · simp [hpl]
       · exact FV h p hp
     · cases h
   · cases h
theorem jv {P:Program} {t:TypeId} {z:Option Value} {n b:Nat} (h:ti P t = some (z,n,b)) (w:World):(sizeOf t).run P w = .ok n w:=by
 obtain ⟨i,hi,_,hs,_⟩:=nR h
 simp [sizeOf,typeInfo,hi,hs]
theorem Ak {P:Program} {t:TypeId} {z:Value} {n b:Nat} (h:ti P t = some (some z,n,b)) (w:World):(zeroValue t).run P w = .ok z w:=by
 obtain ⟨i,hi,hz,_,_⟩:=nR h
 simp [zeroValue,typeInfo,hi,hz]
theorem FW {P:Program} {t:TypeId} {g:Bool} {n:Nat} (h:iK P t = some (g,n)) :
   ∃ d z b,P.underlying t = some d /\ ti P t = some (z,n,b) /\ Iy d = g:=by
 unfold iK at h
 split at h
 · rename_i d z n' b h1 h2
   simp only [Option.some.injEq,Prod.mk.injEq] at h
   obtain ⟨rfl,rfl⟩:=h
   exact ⟨d,z,b,h1,h2,rfl⟩
 · cases h
theorem sV {P:Program} {t:TypeId} {d:TypeDesc} (h:P.underlying t = some d) (w:World):(isAgg t).run P w = .ok (Iy d) w:=by
 unfold isAgg
 simp only [Sem.run_bind,run_underlying h,Result.andThen_ok]
 cases d <;> rfl
theorem FX {P:Program} {t:TypeId} {f o:Nat} {t':TypeId} {n:Nat} (h:iY P t f = some (o,t',n)) :
   ∃ fields fd z b,P.underlying t = some (.struct fields) /\ fields[f]? = some fd /\ fd.offset = o /\ fd.type = t' /\ ti P t' = some (z,n,b):=by
 unfold iY at h
 split at h
 · rename_i fields hu
   split at h
   · rename_i fd hf
     refine' ae7
     obtain ⟨⟨z,n',b⟩,h1,h2,h3,h4⟩:=h
     subst h3
     simp only at h4;subst h4
     exact ⟨fields,fd,z,b,hu,hf,h2,rfl,h1⟩
   · cases h
 · cases h
theorem oP {P:Program} {t e:TypeId} {z:Option Value} {n b:Nat} (h:sle P t = some (e,z,n,b)) :
   P.underlying t = some (.slice e) /\ ti P e = some (z,n,b):=by
 unfold sle at h
 split at h
 · rename_i e' hu
   refine' ae7
   obtain ⟨x,h1,rfl,rfl⟩:=h
   exact ⟨hu,h1⟩
 · cases h
theorem Am {P:Program} {t e:TypeId} {m n:Nat} (h:arr P t = some (m,e,n)) :
   P.underlying t = some (.array m e) /\ ∃ z b,ti P e = some (z,n,b):=by
 unfold arr at h
 split at h
 · rename_i m' e' hu
   refine' ae7
   obtain ⟨⟨z,n',b⟩,h1,rfl,rfl,rfl⟩:=h
   exact ⟨hu,z,b,h1⟩
 · cases h
theorem ab9{G:Prop}(h:G:=by
 have hadd:∀ j,(⟨b,o,none⟩:Addr).add j = ⟨b,o + j,none⟩:=by
   intro j;unfold Addr.add;split
   · rename_i h0;subst h0;rfl
   · rfl
 all_goals(rcases(⟨_⟩:PLift _)with⟨h⟩;exact h)):G:=h
theorem adl{G:Prop}(h:G:=by
 simp only [List.getElem?_toArray,List.getElem?_map,Option.map_eq_some_iff] at hv
 obtain ⟨j,hj,rfl⟩:=hv
 obtain ⟨hlt,rfl⟩:=List.getElem?_eq_some_iff.1 hj
 simp at hlt ⊢
 all_goals(rcases(⟨_⟩:PLift _)with⟨h⟩;exact h)):G:=h
theorem ae1{G:Prop}(h:G:=by
 rename_i n ht
 obtain ⟨d,z,by',hu,hti,hg⟩:=FW ht
 all_goals(rcases(⟨_⟩:PLift _)with⟨h⟩;exact h)):G:=h
theorem FY {a:AV} {u:Value} {cs:List AV} {t:TypeId} {x:AV} (inv:Inv E M0 w0 c M J s tm w) (hr:Rel M J a u) (h1:qc s a = some cs) (h2:partOf E.P t cs = some x) :
   ∃ v,(Instr.loadAt t u).run E.P w = .ok v w /\ Rel M J x v:=by
 obtain ⟨b,o,rfl,hc⟩:=yX inv hr h1
 unfold partOf at h2
 split at h2
 · refine' ae1
   split at h2
   · rename_i hn
     obtain rfl:=Option.some.inj h2
     have hf:∀ j,j < n -> ∃ v,w.cell? ⟨b,o + j,none⟩ = some v /\ v.oneCell' = true /\ ∀ y,cs[j]? = some y -> Rel M J y v:=by
       intro j hj
       obtain ⟨y,hy⟩:∃ y,cs[j]? = some y:=⟨_,List.getElem?_eq_getElem (by omega)⟩
       obtain ⟨v,a1,a2,a3⟩:=hc j y hy
       exact ⟨v,a1,a2,fun y' hy'=>by rw [hy] at hy';obtain rfl:=Option.some.inj hy';exact a3⟩
     have hfun:∃ f:Nat -> Value,∀ j,j < n -> w.cell? ⟨b,o + j,none⟩ = some (f j) /\ (f j).oneCell' = true /\ ∀ y,cs[j]? = some y -> Rel M J y (f j):=by
       refine ⟨fun j=>if h:j < n then Classical.choose (hf j h) else undef,fun j hj=>?_⟩
       simp only [dif_pos hj]
       exact Classical.choose_spec (hf j hj)
     obtain ⟨f,hf⟩:=hfun
     refine' ab9
     have hrun:=run_loadCells (P:=E.P) (w:=w) ⟨b,o,none⟩ n f (fun j hj=>by rw [hadd];exact (hf j hj).1)
     refine ⟨.agg ((List.range n).map f).toArray,?_,?_⟩
     · simp [Instr.loadAt,Instr.sureAddr,loadVar,sV hu,hg,jv hti,hrun]
     · refine .agg (by simp;omega) (fun i v hv=>?_) (fun i y v hy hv=>?_)
       · refine' adl
         exact (hf _ (by simpa using hlt)).2.1
       · refine' adl
         rw [List.getElem?_take,if_pos hlt] at hy
         exact (hf _ (by simpa using hlt)).2.2 y hy
   · cases h2
 · refine' ae1
   obtain ⟨v,a1,a2,a3⟩:=hc 0 x (by rw [<- List.head?_eq_getElem?];exact h2)
   refine ⟨v,?_,a3⟩
   simp only [Nat.add_zero] at a1
   simp [Instr.loadAt,Instr.sureAddr,loadVar,sV hu,hg,a1]
 · cases h2
theorem FZ {vs:Array Value} {cs:List AV} {t:TypeId} {o:Nat} {x:AV} (hn:vs.size = cs.length) (h1:∀ (i:Nat) (v:Value),vs[i]? = some v -> v.oneCell' = true)
   (h:∀ (i:Nat) (c:AV) (v:Value),cs[i]? = some c -> vs[i]? = some v -> Rel M J c v) (hp:partOf E.P t (cs.drop o) = some x) (w:World) :
   ∃ v,(part t vs o).run E.P w = .ok v w /\ Rel M J x v:=by
 unfold partOf at hp
 split at hp
 · refine' ae1
   split at hp
   · rename_i hl
     obtain rfl:=Option.some.inj hp
     simp only [List.length_drop] at hl
     refine ⟨.agg (vs.extract o (o + n)),by simp [part,sV hu,hg,jv hti],?_⟩
     have hg:∀ i v,(vs.extract o (o + n))[i]? = some v -> vs[o + i]? = some v /\ i < n:=by
       intro i v hv
       rw [Array.getElem?_extract] at hv
       split at hv
       · exact ⟨hv,by omega⟩
       · cases hv
     refine .agg (by simp;omega) (fun i v hv=>h1 _ v (hg i v hv).1) (fun i y v hy hv=>?_)
     obtain ⟨hv',hi⟩:=hg i v hv
     rw [List.getElem?_take,if_pos hi,List.getElem?_drop] at hy
     exact h _ y v hy hv'
   · cases hp
 · refine' ae1
   rw [List.head?_eq_getElem?,List.getElem?_drop,Nat.add_zero] at hp
   have hlt:o < vs.size:=by rw [hn];exact (List.getElem?_eq_some_iff.1 hp).1
   refine ⟨vs[o],?_,h o x _ hp (Array.getElem?_eq_getElem hlt)⟩
   simp [part,sV hu,hg,Array.getElem?_eq_getElem hlt]
 · cases hp
theorem af6{G:Prop}(h:G:=by
 rw [List.getElem?_take,if_pos hi,List.getElem?_drop] at he
 exact ⟨hi,he⟩):G:=h
theorem sW (inv:Inv E M0 w0 c M J s tm w) {a:AV} {u:Value} {xs:List (List AV)} (hr:Rel M J a u) (h:elems s a = some xs) :
   ∃ A cap sz,u = .slice A xs.length cap /\ xs.length <= cap /\ (∀ (i:Nat) (e:List AV),xs[i]? = some e -> e.length = sz) /\ (xs ≠ [] -> ∃ b o,A = some ⟨b,o,none⟩) /\
     ∀ (b o i:Nat) (e:List AV) (j:Nat) (x:AV),A = some ⟨b,o,none⟩ -> xs[i]? = some e -> e[j]? = some x ->
       ∃ v,w.cell? ⟨b,o + i * sz + j,none⟩ = some v /\ v.oneCell' = true /\ cZ M x v:=by
 unfold elems at h
 split at h
 · rename_i sz xs'
   obtain rfl:=Option.some.inj h
   have hp:=hr.qh
   cases hp with
   | lst u hn hc hz hA hM hx =>
     subst hn
     exact ⟨_,_,sz,rfl,hc,hz,hA,fun b o i e j x h1 h2 h3=>⟨_,(inv.mem _ _ _ (hM b o i e j x h1 h2 h3)).1,(inv.mem _ _ _ (hM b o i e j x h1 h2 h3)).2,hx i e j x h2 h3⟩⟩
 · obtain rfl:=Option.some.inj h
   obtain rfl:=hr.bZ
   exact ⟨none,0,0,rfl,Nat.le_refl _,fun i e he=>by simp at he,fun hne=>absurd rfl hne,fun b o i e j x h1=>by cases h1⟩
 · rename_i r ver off len
   split at h
   · rename_i k hk
     split at h
     · rename_i hc
       obtain ⟨hv,hl,hb⟩:=hc
       obtain rfl:=Option.some.inj h
       obtain ⟨L,A,rfl,hL,hcap,hN,hA⟩:=hr.sS
       obtain ⟨L',C,hL',_,ok⟩:=inv.heap r k hk
       rw [hv,hL] at hL';obtain rfl:=Option.some.inj hL'
       have hlen:((k.es.drop off).take len).length = len:=by simp;omega
       have hget:∀ (i:Nat) (e:List AV),((k.es.drop off).take len)[i]? = some e -> i < len /\ k.es[off + i]? = some e:=by
         intro i e he
         have hi:i < len:=by have:=(List.getElem?_eq_some_iff.1 he).1;omega
         refine' af6
       have hnn:0 < len -> L.nil = false:=by
         intro h0
         cases hb:L.nil with
         | false=>rfl
         | true=>have:=ok.none hb;omega
       refine ⟨A,L.cap - off,k.sz,by rw [hlen],by rw [hlen];omega,fun i e he=>ok.len _ _ (hget i e he).2,?_,?_⟩
       · intro hne
         have:0 < len:=by
                              rcases Nat.eq_zero_or_pos len with h0 | h0
                              · subst h0;simp at hne
                              · exact h0
         exact ⟨_,_,hA (hnn this) (by omega)⟩
       · intro b o i e j x P7 he hj
         obtain ⟨hi,he'⟩:=hget i e he
         have hn:=hnn (by omega)
         rw [hA hn (by omega)] at P7
         simp only [Option.some.injEq,Addr.mk.injEq,and_true] at P7
         obtain ⟨rfl,rfl⟩:=P7
         obtain ⟨v,hv1,hv2,hv3⟩:=ok.cell _ _ _ _ he' hj
         refine ⟨v,?_,hv2,?_⟩
         · rw [cell_of_row w _ _ C k.ty (0,0) (ok.blk hn),ok.sz,<- hv1,Nat.add_mul]
         · unfold dh at hv3;rw [hb] at hv3;simpa using hv3
     · cases h
   · cases h
 · cases h
end
section
variable {P:Program} {w:World}
theorem ad9{G:Prop}(h:G:=by exact ⟨_,by simp [binOp,Op.intBits,bitsOf],h,rfl⟩):G:=h
theorem afa{G:Prop}(h:G:=by exact ⟨_,by simp [binOp,Op.intCmp],h,rfl⟩):G:=h
theorem agp{G:Prop}(h:G:=by exact ⟨_,by simp [binOp,Op.intArith],h,rfl⟩):G:=h
theorem P8 {op:BinOp} {t:TypeId} {k k':IntKind} {a b:Int} {K:Value -> Prop} (hk:k = k' ∨ op = .shl ∨ op = .shr) (h:P5 op k a b K) (w:World) :
   ∃ v,(binOp op t (.int k a) (.int k' b)).run P w = .ok v w /\ K v /\ v.oneCell' = true:=by
 cases op <;> simp only [P5] at h
 case add =>
             obtain rfl:k = k':=by simpa using hk
             refine' agp
 case sub =>
             obtain rfl:k = k':=by simpa using hk
             refine' agp
 case mul =>
             obtain rfl:k = k':=by simpa using hk
             refine' agp
 case quo =>
             obtain rfl:k = k':=by simpa using hk
             exact ⟨_,by simp [binOp,Op.intDiv,h.1],h.2,rfl⟩
 case rem =>
             obtain rfl:k = k':=by simpa using hk
             exact ⟨_,by simp [binOp,Op.intDiv,h.1],h.2,rfl⟩
 case and =>
             obtain rfl:k = k':=by simpa using hk
             refine' ad9
 case or =>
            obtain rfl:k = k':=by simpa using hk
            refine' ad9
 case xor =>
             obtain rfl:k = k':=by simpa using hk
             refine' ad9
 case andNot =>
                obtain rfl:k = k':=by simpa using hk
                refine' ad9
 case shl=>exact ⟨_,by simp [binOp,Op.shift,show ¬ b < 0 by omega],h.2,rfl⟩
 case shr=>exact ⟨_,by simp [binOp,Op.shift,show ¬ b < 0 by omega],h.2,rfl⟩
 case eql =>
             obtain rfl:k = k':=by simpa using hk
             exact ⟨_,by simp [binOp,Op.intCmp];rfl,h,rfl⟩
 case neq =>
             obtain rfl:k = k':=by simpa using hk
             refine ⟨_,?_,h,rfl⟩
             simp only [binOp,Op.intCmp,ne_eq,not_true_eq_false,if_false,Sem.run_pure]
             congr 2
             by_cases e:a = b <;> simp [e]
 case lss =>
             obtain rfl:k = k':=by simpa using hk
             refine' afa
 case leq =>
             obtain rfl:k = k':=by simpa using hk
             refine' afa
 case gtr =>
             obtain rfl:k = k':=by simpa using hk
             refine' afa
 case geq =>
             obtain rfl:k = k':=by simpa using hk
             refine' afa
theorem toList_inj {a b:ByteArray}:a.toList = b.toList ↔ a = b:=by
 rw [ByteArray.toList_eq,ByteArray.toList_eq]
 constructor
 · intro h
   cases a;cases b
   simp only [ByteArray.mk.injEq]
   simpa using h
 · rintro rfl;rfl
theorem aeh{G:Prop}(h:G:=by
 refine ⟨_,?_,h,rfl⟩
 simp only [binOp,Op.stringOp,Sem.run_pure]
 congr 2
 rw [Bool.eq_iff_iff];simp [toList_inj]):G:=h
theorem P9 {op:BinOp} {t:TypeId} {a b:ByteArray} {K:Value -> Prop} (h:UJ op a b K) (w:World) :
   ∃ v,(binOp op t (.string a) (.string b)).run P w = .ok v w /\ K v /\ v.oneCell' = true:=by
 cases op <;> simp only [UJ] at h <;> try (exact h.elim)
 · refine ⟨_,?_,h.2,rfl⟩
   have h1:=h.1
   unfold maxLen at h1
   simp only [binOp,Op.stringOp]
   rw [if_neg]
   · rfl
   · simp only [IntKind.max,IntKind.signed,IntKind.bits];simp;omega
 · refine' aeh
 · refine' aeh
theorem qP (op:BinOp) (t:TypeId) (x y:Operand) (a b:Value) (ha:a ≠ .nilIface) (h:∀ cs,a ≠ .agg cs) (w:World) :
   (eqGuard op t x y a b).run P w = .ok () w:=by
 unfold eqGuard
 cases a <;> first | exact absurd rfl ha | exact absurd rfl (h _) | (cases op <;> rfl)
theorem F5 {M:Mem} {J:bJ} {a b:Int} {x:ByteArray} {u:Value} (h:Rel M J (.agg [.v (.int .i64 a),.v (.int .i64 b),.v (.string x)]) u) :
   u = .agg #[.int .i64 a,.int .i64 b,.string x]:=by
 obtain ⟨vs,rfl,hn,_,h2⟩:=h.vY
 simp at hn
 obtain ⟨l⟩:=vs
 match l,hn with
 | [x0,x1,x2],_ =>
   have e0:=(h2 0 _ x0 rfl rfl).bZ
   have e1:=(h2 1 _ x1 rfl rfl).bZ
   have e2:=(h2 2 _ x2 rfl rfl).bZ
   rw [e0,e1,e2]
theorem uH {t e:TypeId} (he:P.underlying t = some (.pointer e)) (a:Option Addr) (w:World):(Op.equal t (.pointer a) (.pointer none)).run P w = .ok a.isNone w:=by
 have key:∀ d,(Op.equalIn (d + 1) t (.pointer a) (.pointer none)).run P w = .ok a.isNone w:=by
   intro d
   simp only [Op.equalIn,Sem.run_bind,run_underlying he,Result.andThen_ok]
   cases a <;> rfl
 exact key 9999
theorem run_equal_bool {t:TypeId} (he:P.underlying t = some .bool) (a b:Bool) (w:World):(Op.equal t (.bool a) (.bool b)).run P w = .ok (a == b) w:=by
 have key:∀ d,(Op.equalIn (d + 1) t (.bool a) (.bool b)).run P w = .ok (a == b) w:=by
   intro d
   simp only [Op.equalIn,Sem.run_bind,run_underlying he,Result.andThen_ok,Sem.run_pure]
 exact key 9999
theorem afn{G:Prop}(h:G:=by
 rename_i hu
 refine ⟨_,CB (by simp) (by simp) ?_,h,rfl⟩
 simp only [binOp,Sem.run_bind,run_equal_bool hu,Result.andThen_ok,Sem.run_pure]
 all_goals(rcases(⟨_⟩:PLift _)with⟨h⟩;exact h)):G:=h
theorem Qa {M:Mem} {J:bJ} {op:BinOp} {t:TypeId} {x y:AV} {u v:Value} {X Y:Operand} {K:Value -> Prop} (hx:Rel M J x u) (hy:Rel M J y v) (h:Cm P op t x y K) (w:World) :
   ∃ r,(do eqGuard op t X Y u v;binOp op t u v:Sem Value).run P w = .ok r w /\ K r /\ r.oneCell' = true:=by
 have CB:∀ {r:Value},u ≠ .nilIface -> (∀ cs,u ≠ .agg cs) -> (binOp op t u v).run P w = .ok r w -> (do eqGuard op t X Y u v;binOp op t u v:Sem Value).run P w = .ok r w:=by
   intro r h1 h2 h3
   simp only [Sem.run_bind,qP op t X Y u v h1 h2 w,Result.andThen_ok,h3]
 have ptrs:∀ {a:Option Addr} {e:TypeId},u = .pointer a -> v = .pointer none -> P.underlying t = some (.pointer e) ->
     (op = .eql -> (binOp op t u v).run P w = .ok (.bool a.isNone) w) /\ (op = .neq -> (binOp op t u v).run P w = .ok (.bool (!a.isNone)) w):=by
   intro a e e1 e2 he
   subst e1;subst e2
   refine ⟨fun ho=>?_,fun ho=>?_⟩ <;> subst ho
   · simp only [binOp,Sem.run_bind,uH he,Result.andThen_ok,Sem.run_pure]
   · simp only [binOp,Sem.run_bind,uH he,Result.andThen_ok,Sem.run_pure]
 have isp:∀ {p:AV},Rel M J p u -> vW p = true -> ∃ a,u = .pointer (some a):=by
   intro p hp hi
   cases p <;> simp [vW] at hi
   · have:=hp.l7;cases this;exact ⟨_,rfl⟩
   · obtain ⟨L,rfl,_,_⟩:=hp.qj;exact ⟨_,rfl⟩
 unfold Cm at h
 split at h
 · obtain rfl:=hx.bZ;obtain rfl:=hy.bZ
   obtain ⟨r,a,b,c⟩:=P8 (P:=P) (t:=t) h.1 h.2 w
   exact ⟨r,CB (by simp) (by simp) a,b,c⟩
 · obtain rfl:=hx.bZ;obtain rfl:=hy.bZ
   obtain ⟨r,a,b,c⟩:=P9 (P:=P) (t:=t) h w
   exact ⟨r,CB (by simp) (by simp) a,b,c⟩
 · obtain rfl:=hx.bZ;obtain rfl:=hy.bZ
   rename_i a b
   split at h
   · refine' afn
   · refine' afn
     cases a <;> cases b <;> rfl
   · exact h.elim
 · obtain rfl:=F5 hx;obtain rfl:=F5 hy
   rename_i a b s a' b' s'
   split at h
   · obtain ⟨he,hk⟩:=h
     refine ⟨_,?_,hk,rfl⟩
     have:=he a b a' b' s s' w
     simp only [Sem.run_bind,run_eqGuard_agg w .eql t X Y _ _ this.2,Result.andThen_ok,binOp,this.1,Sem.run_pure]
   · obtain ⟨he,hk⟩:=h
     refine ⟨_,?_,hk,rfl⟩
     have:=he a b a' b' s s' w
     simp only [Sem.run_bind,run_eqGuard_agg w .neq t X Y _ _ this.2,Result.andThen_ok,binOp,this.1,Sem.run_pure]
   · exact h.elim
 · obtain rfl:=hx.bZ;obtain rfl:=hy.bZ
   split at h
   · rename_i hu
     exact ⟨_,CB (by simp) (by simp) ((ptrs rfl rfl hu).1 rfl),h,rfl⟩
   · rename_i hu
     exact ⟨_,CB (by simp) (by simp) ((ptrs rfl rfl hu).2 rfl),h,rfl⟩
   · exact h.elim
 · obtain rfl:=hy.bZ
   split at h
   · rename_i hu
     obtain ⟨a,rfl⟩:=isp hx h.1
     exact ⟨_,CB (by simp) (by simp) ((ptrs rfl rfl hu).1 rfl),h.2,rfl⟩
   · rename_i hu
     obtain ⟨a,rfl⟩:=isp hx h.1
     exact ⟨_,CB (by simp) (by simp) ((ptrs rfl rfl hu).2 rfl),h.2,rfl⟩
   · exact h.elim
 · exact h.elim
end
section
variable {E:Env} {M0:qV} {w0:World} {c:Nat} {M:Mem} {J:bJ} {s:St} {tm:Array Value} {w:World}
theorem Inv.lay (inv:Inv E M0 w0 c M J s tm w) {w':World} (hb:Below w.heap.size w w') {X:Mem}
   (hX:∀ b o u,X b o = some u -> w.heap.size <= b -> w'.cell? ⟨b,o,none⟩ = some u /\ u.oneCell' = true) :
   Sub M (fun b o=>if b < w.heap.size then M b o else X b o) /\ Inv E M0 w0 c (fun b o=>if b < w.heap.size then M b o else X b o) J s tm w':=by
 have hlt:∀ b o u,M b o = some u -> b < w.heap.size:=fun b o u h=>World.block_lt_of_cell? w _ (inv.mem b o u h).1
 have hsub:Sub M (fun b o=>if b < w.heap.size then M b o else X b o):=by
   intro b o u h
   show (if b < w.heap.size then M b o else X b o) = some u
   rw [if_pos (hlt b o u h)];exact h
 refine ⟨hsub,⟨inv.below.trans (hb.mono inv.below.size),?_,?_,fun b o u h=>hsub _ _ _ (inv.jV b o u h),fun g cs h=>(inv.glob g cs h).mono hsub,?_,?_,inv.apart,?_,inv.vers,inv.jF,fun b o h=>(hb.block _ (inv.Ep h)).trans (inv.far b o h)⟩⟩
 · intro b o u h
   split at h
   · rename_i hl
     obtain ⟨h1,h2⟩:=inv.mem b o u h
     exact ⟨by rw [hb.cell (p:=⟨b,o,none⟩) hl];exact h1,h2⟩
   · rename_i hl;exact hX b o u h (by omega)
 · intro b o u h
   split at h
   · exact inv.kH b o u h
   · rename_i hl;have:=inv.below.size;exact .inr ⟨by omega,inv.oN (by omega)⟩
 · intro t x hx
   refine' agc
 · intro r k hk
   obtain ⟨L,C,a1,a2,a3⟩:=inv.heap r k hk
   exact ⟨L,C,a1,a2,(a3.mono hsub (iG.refl J)).world (fun hn=>hb.block _ (gY a3 hn))⟩
 · intro r k L o u hk hL hN hu
   obtain ⟨L',C,a1,a2,a3⟩:=inv.heap r k hk
   rw [hL] at a1;obtain rfl:=Option.some.inj a1
   rw [if_pos (gY a3 hN)] at hu
   exact inv.owns r k L o u hk hL hN hu
theorem F6 (w:World) (e:TypeId) (b:ByteArray):Below w.heap.size w (Lib.bytesWorld w e b):=by
 refine ⟨?_,?_,?_,by rw [Lib.bytesWorld_size];omega,fun k hk=>Lib.bytesWorld_at_old w e b k hk⟩ <;>
   simp [Lib.bytesWorld,World.freeze,World.alloc,World.drew,-World.alloc_eq,-World.drew_eq]
theorem jL {b:ByteArray} {i:Nat} {e:List AV} (h:(iV b)[i]? = some e):∃ hi:i < b.size,e = [.v (.int .u8 (b[i]'hi).toNat)]:=by
 simp only [iV,List.getElem?_map,Option.map_eq_some_iff] at h
 obtain ⟨x,hx,rfl⟩:=h
 obtain ⟨hi,rfl⟩:=List.getElem?_eq_some_iff.1 hx
 exact ⟨by simpa using hi,rfl⟩
theorem MG (inv:Inv E M0 w0 c M J s tm w) (e:TypeId) (b:ByteArray) :
   ∃ M',Sub M M' /\ Inv E M0 w0 c M' J s tm (Lib.bytesWorld w e b) /\ cZ M' (.lst 1 (iV b)) (.slice (some ⟨w.heap.size,0,none⟩) b.size (grownCap w b.size 0 e)):=by
 obtain ⟨h1,h2⟩:=inv.lay (F6 w e b) (X:=fun b' o=>if b' = w.heap.size /\ o < b.size then some (.int .u8 (b.data.toList.getD o 0).toNat) else none) (by
   intro b' o u h hb
   split at h
   · rename_i hc
     obtain ⟨rfl,ho⟩:=hc
     obtain rfl:=Option.some.inj h
     exact ⟨Lib.bytesWorld_cell w e b o ho,rfl⟩
   · cases h)
 refine ⟨_,h1,h2,?_⟩
 have hl:(iV b).length = b.size:=by simp [iV]
 refine .lst (fun i _=>.int .u8 (b.data.toList.getD i 0).toNat) hl.symm (by rw [hl];exact grownCap_ge w _ _ _) (fun i x hx=>?_) (fun _=>⟨_,_,rfl⟩) ?_ ?_
 · obtain ⟨_,rfl⟩:=jL hx;rfl
 · intro b' o i x j y hA hx hy
   simp only [Option.some.injEq,Addr.mk.injEq,and_true] at hA
   obtain ⟨rfl,rfl⟩:=hA
   obtain ⟨hi,rfl⟩:=jL hx
   cases j with
   | zero=>simp [hi]
   | succ j=>simp at hy
 · intro i x j y hx hy
   obtain ⟨hi,rfl⟩:=jL hx
   cases j with
   | zero =>
     simp at hy;subst hy
     have:b.data.toList.getD i 0 = b[i]'hi:=by
       simp only [List.getD_eq_getElem?_getD]
       rw [List.getElem?_eq_getElem (by simpa using hi)]
       rfl
     simp only [this]
     exact .v _
   | succ j=>simp at hy
theorem agz{G:Prop}(h:G:=by rw [List.getElem?_eq_none (by simpa using hi),List.getElem?_eq_none (by omega)];rfl):G:=h
theorem IE (inv:Inv E M0 w0 c M J s tm w) {x:AV} {u:Value} {xs:List (List AV)} {bs:List UInt8} (hr:Rel M J x u) (h:elems s x = some xs) (hb:xs.mapM toByte = some bs) :
   (Conv.bytesToString u).run E.P w = .ok (.string ⟨bs.toArray⟩) w:=by
 obtain ⟨A,cap,sz,rfl,hc,hz,hA,hcell⟩:=sW inv hr h
 obtain ⟨hl,hg⟩:=mapM_some hb
 rcases Nat.eq_zero_or_pos xs.length with h0 | h0
 · have:bs = []:=List.eq_nil_of_length_eq_zero (by omega)
   subst this
   rw [h0]
   cases A with
   | none=>simp [Conv.bytesToString];rfl
   | some a=>simp [Conv.bytesToString,loadCells,loadCellsFrom];rfl
 · have hne:xs ≠ []:=by intro e;subst e;simp at h0
   obtain ⟨b,o,rfl⟩:=hA hne
   have hx:∀ i,i < xs.length -> ∃ n:Int,xs[i]? = some [.v (.int .u8 n)] /\ bs[i]? = some (UInt8.ofNat n.toNat):=by
     intro i hi
     obtain ⟨y,hy⟩:∃ y,bs[i]? = some y:=⟨_,List.getElem?_eq_getElem (by omega)⟩
     obtain ⟨e,he,hf⟩:=hg i y hy
     unfold toByte at hf
     split at hf
     · rename_i n;obtain rfl:=Option.some.inj hf;exact ⟨n,he,hy⟩
     · cases hf
   have hsz:sz = 1:=by
     obtain ⟨n,h1,_⟩:=hx 0 h0
     have:=hz 0 _ h1
     simpa using this.symm
   subst hsz
   have hf:∃ f:Nat -> Int,∀ i,i < xs.length -> xs[i]? = some [.v (.int .u8 (f i))] /\ bs[i]? = some (UInt8.ofNat (f i).toNat) :=
     ⟨fun i=>if h:i < xs.length then Classical.choose (hx i h) else 0,fun i hi=>by simp only [dif_pos hi];exact Classical.choose_spec (hx i hi)⟩
   obtain ⟨f,hf⟩:=hf
   refine' ab9
   have hld:=run_loadCells (P:=E.P) (w:=w) ⟨b,o,none⟩ xs.length (fun i=>.int .u8 (f i)) (fun j hj=>by
     obtain ⟨v,h1,_,h3⟩:=hcell b o j _ 0 _ rfl (hf j hj).1 rfl
     rw [hadd]
     have:=(Rel.pure (J:=J) h3).bZ
     subst this
     simpa using h1)
   rw [run_bytesToString w ⟨b,o,none⟩ xs.length cap ((List.range xs.length).map f) (by rw [hld];simp)]
   congr 2
   have key:∀ (l:List Int) (r:ByteArray),(l.foldl (fun r n=>r.push (UInt8.ofNat n.toNat)) r) = ⟨r.data ++ (l.map fun n=>UInt8.ofNat n.toNat).toArray⟩:=by
     intro l
     induction l with
     | nil=>intro r;simp
     | cons n l ih=>intro r;simp only [List.foldl_cons];rw [ih];congr 1;simp [ByteArray.push]
   rw [key]
   congr 1
   rw [show ByteArray.empty.data = #[] from rfl,Array.empty_append]
   congr 1
   apply List.ext_getElem?
   intro i
   simp only [List.getElem?_map]
   by_cases hi:i < xs.length
   · rw [List.getElem?_range hi,(hf i hi).2];rfl
   · refine' agz
theorem MH (inv:Inv E M0 w0 c M J s tm w) (e:TypeId) (R:Array Value) (h1:∀ v ∈ R,v.oneCell' = true) (n:Nat) (hn:R.size = n) (cap:Nat) (hc:n <= cap) :
   ∃ M',Sub M M' /\ Inv E M0 w0 c M' J s tm (w.drew.alloc (.cells (R ++ Array.replicate (cap - n) (.int .i32 0)) e)) /\ cZ M' (.lst 1 (R.toList.map fun v=>[AV.v v])) (.slice (some ⟨w.heap.size,0,none⟩) n cap):=by
 have hb:Below w.heap.size w (w.drew.alloc (.cells (R ++ Array.replicate (cap - n) (.int .i32 0)) e)):=(Below.refl _ w).drew.alloc (Nat.le_refl _) _
 have hcell:∀ o v,R[o]? = some v -> (w.drew.alloc (.cells (R ++ Array.replicate (cap - n) (.int .i32 0)) e)).cell? ⟨w.heap.size,o,none⟩ = some v:=fun o v hv=>by
   rw [cell_of_row _ w.heap.size o _ _ _ (heap_alloc_new w.drew _)]
   rw [Array.getElem?_append_left (Array.getElem?_eq_some_iff.1 hv).1];exact hv
 obtain ⟨h2,h3⟩:=inv.lay hb (X:=fun b' o=>if b' = w.heap.size then R[o]? else none) (by
   intro b' o u h hb'
   split at h
   · rename_i hc'
     subst hc'
     exact ⟨hcell o u h,h1 u (Array.mem_of_getElem? h)⟩
   · cases h)
 refine ⟨_,h2,h3,?_⟩
 have hget:∀ (i:Nat) (x:List AV),(R.toList.map fun v=>[AV.v v])[i]? = some x -> ∃ v,R[i]? = some v /\ x = [AV.v v]:=by
   intro i x hx
   rw [List.getElem?_map,Option.map_eq_some_iff] at hx
   obtain ⟨v,hv,rfl⟩:=hx
   exact ⟨v,by rwa [Array.getElem?_toList] at hv,rfl⟩
 refine .lst (fun i _=>(R[i]?).getD undef) (by simp [hn]) (by simp [hn];exact hc) (fun i x hx=>?_) (fun _=>⟨_,_,rfl⟩) ?_ ?_
 · obtain ⟨v,_,rfl⟩:=hget i x hx;rfl
 · intro b' o i x j y hA hx hy
   simp only [Option.some.injEq,Addr.mk.injEq,and_true] at hA
   obtain ⟨rfl,rfl⟩:=hA
   obtain ⟨v,hv,rfl⟩:=hget i x hx
   cases j with
   | zero=>simp [hv]
   | succ j=>simp at hy
 · intro i x j y hx hy
   obtain ⟨v,hv,rfl⟩:=hget i x hx
   cases j with
   | zero=>simp at hy;subst hy;rw [hv];exact .v _
   | succ j=>simp at hy
theorem IG (inv:Inv E M0 w0 c M J s tm w) {x:AV} {u:Value} {xs:List (List AV)} {ns:List Int} (hr:Rel M J x u) (h:elems s x = some xs) (hb:xs.mapM rF = some ns) :
   ∃ A cap,u = .slice A xs.length cap /\ (Conv.runesToString u).run E.P w = .ok (.string (runesBytes ns)) w:=by
 obtain ⟨A,cap,sz,rfl,hc,hz,hA,hcell⟩:=sW inv hr h
 refine ⟨A,cap,rfl,?_⟩
 obtain ⟨hl,hg⟩:=mapM_some hb
 rcases Nat.eq_zero_or_pos xs.length with h0 | h0
 · have:ns = []:=List.eq_nil_of_length_eq_zero (by omega)
   subst this
   rw [h0]
   cases A with
   | none=>simp [Conv.runesToString];rfl
   | some a=>simp [Conv.runesToString,loadCells,loadCellsFrom];rfl
 · have hne:xs ≠ []:=by intro e;subst e;simp at h0
   obtain ⟨b,o,rfl⟩:=hA hne
   have hx:∀ i,i < xs.length -> ∃ n:Int,xs[i]? = some [.v (.int .i32 n)] /\ ns[i]? = some n:=by
     intro i hi
     obtain ⟨y,hy⟩:∃ y,ns[i]? = some y:=⟨_,List.getElem?_eq_getElem (by omega)⟩
     obtain ⟨e,he,hf⟩:=hg i y hy
     unfold rF at hf
     split at hf
     · rename_i n;obtain rfl:=Option.some.inj hf;exact ⟨_,he,hy⟩
     · cases hf
   have hsz:sz = 1:=by
     obtain ⟨n,h1,_⟩:=hx 0 h0
     have:=hz 0 _ h1
     simpa using this.symm
   subst hsz
   refine' ab9
   have hld:=run_loadCells (P:=E.P) (w:=w) ⟨b,o,none⟩ xs.length (fun i=>.int .i32 (ns.getD i 0)) (fun j hj=>by
     obtain ⟨n,hn1,hn2⟩:=hx j hj
     obtain ⟨v,h1,_,h3⟩:=hcell b o j _ 0 _ rfl hn1 rfl
     rw [hadd]
     have:=(Rel.pure (J:=J) h3).bZ
     subst this
     simpa [List.getD_eq_getElem?_getD,hn2] using h1)
   refine run_runesToString w ⟨b,o,none⟩ xs.length cap ns ?_
   rw [hld]
   congr 1
   have:(List.range xs.length).map (fun i=>Value.int .i32 (ns.getD i 0)) = ns.map (Value.int .i32):=by
     apply List.ext_getElem?
     intro i
     simp only [List.getElem?_map]
     by_cases hi:i < xs.length
     · rw [List.getElem?_range hi,List.getElem?_eq_getElem (by omega)]
       simp [List.getD_eq_getElem?_getD,List.getElem?_eq_getElem (show i < ns.length by omega)]
     · refine' agz
   rw [<- this]
   try simp
theorem CG (b:ByteArray):∀ (n i:Nat) (acc:Array Value),(∀ v ∈ acc,v.oneCell' = true) -> ∀ v ∈ Conv.runesFrom b n i acc,v.oneCell' = true:=by
 intro n
 induction n with
 | zero=>intro i acc h;simpa [Conv.runesFrom] using h
 | succ n ih =>
   intro i acc h
   simp only [Conv.runesFrom]
   split
   · refine ih _ _ (fun v hv=>?_)
     rcases Array.mem_push.1 hv with hv | rfl
     · exact h v hv
     · rfl
   · exact h
theorem Qb (inv:Inv E M0 w0 c M J s tm w) {src dst:TypeId} {x:AV} {u:Value} {K:AV -> Prop} (hr:Rel M J x u) (h:uF E.P src dst s x K) :
   ∃ v w' M' y,(convert src dst u).run E.P w = .ok v w' /\ K y /\ Sub M M' /\ Inv E M0 w0 c M' J s tm w' /\ cZ M' y v:=by
 unfold uF at h
 split at h
 · rename_i d k n kd hs hd
   obtain rfl:=hr.bZ
   exact ⟨_,w,M,_,by simp [convert,run_underlying hs,run_underlying hd,Conv.intToInt],h,Sub.refl M,inv,.v _⟩
 · rename_i b hs hd
   obtain rfl:=hr.bZ
   exact ⟨_,w,M,_,by simp [convert,run_underlying hs,run_underlying hd],h,Sub.refl M,inv,.v _⟩
 · rename_i e hs hd
   rcases h with ⟨he,xs,bs,h1,h2,h3⟩ | ⟨he,xs,bs,h1,h2,h3⟩
   · have hrun:=IE inv hr h1 h2
     obtain ⟨A,cap,sz,rfl,_⟩:=sW inv hr h1
     refine ⟨_,w,M,_,?_,h3,Sub.refl M,inv,.v _⟩
     rw [run_convert_bytes_string w src dst e A _ _ hs he hd];exact hrun
   · obtain ⟨A,cap,rfl,hrun⟩:=IG inv hr h1 h2
     refine ⟨_,w,M,_,?_,h3,Sub.refl M,inv,.v _⟩
     rw [run_convert_runes_string w src dst e A _ _ hs he hd];exact hrun
 · rename_i e b hs hd
   obtain rfl:=hr.bZ
   rcases h with h | ⟨h0,hsz,hK⟩
   · obtain ⟨M',h1,h2,h3⟩:=MG inv e b
     exact ⟨_,_,M',_,Lib.run_convert_string_bytes w src dst e b hs hd h.1,h.2,h1,h2,h3⟩
   · have hle:(Conv.runesFrom b b.size 0 #[]).size <= b.size:=by simpa using size_runesFrom b b.size 0 #[]
     obtain ⟨M',h1,h2,h3⟩:=MH inv e (Conv.runesFrom b b.size 0 #[]) (CG b _ _ _ (by simp)) _ rfl (grownCap w (Conv.runesFrom b b.size 0 #[]).size 0 e) (grownCap_ge w _ _ _)
     exact ⟨_,_,M',_,run_runes_of_string w src dst e b hs hd h0 (by omega),hK,h1,h2,h3⟩
 · exact h.elim
end
section
variable {E:Env} {M0:qV} {w0:World} {c:Nat} {M:Mem} {J:bJ} {s:St} {tm:Array Value} {w:World}
theorem Inv.replace (inv:Inv E M0 w0 c M J s tm w) {r:Nat} {k:aG} {L:Loc} {C:Array Value} (hk:get s.hp r = some k) (hL:J k.ver = some L) (ok:rE M J w L k C)
   {w':World} (hos:w'.os = w.os) (htape:w'.tape = w.tape) (hout:w'.output = w.output) (hsize:w.heap.size <= w'.heap.size)
   (hblk:∀ b,b < w.heap.size -> (L.nil = false -> b ≠ L.b) -> w'.heap[b]? = w.heap[b]?)
   (hM:L.nil = false -> ∀ o,o < k.fH * k.sz -> w'.cell? ⟨L.b,o,none⟩ = w.cell? ⟨L.b,o,none⟩)
   {k':aG} {L':Loc} {J':bJ} {C':Array Value} {c':Nat} (hJ:iG J J') (hJ':J' k'.ver = some L') (hc':∀ r L,J' r = some L -> r < c') (ok':rE M J' w' L' k' C')
   (hL':L'.nil = false -> (L.nil = false /\ L'.b = L.b /\ k.fH * k.sz <= k'.fH * k'.sz) ∨ w.heap.size <= L'.b) :
   Inv E M0 w0 c' M J' { s with hp:=set s.hp r k' } tm w':=by
 have hgs:∀ r',get (set s.hp r k') r' = if r' = r then some k' else get s.hp r':=fun r'=>nS _ _ _ _ _ hk
 obtain ⟨L1,C1,e1,hb1,ok1⟩:=inv.heap r k hk
 rw [hL] at e1;obtain rfl:=Option.some.inj e1
 have hlt:∀ b o u,M b o = some u -> b < w.heap.size:=fun b o u h=>World.block_lt_of_cell? w _ (inv.mem b o u h).1
 have Yj:∀ b o u,M b o = some u -> w'.cell? ⟨b,o,none⟩ = w.cell? ⟨b,o,none⟩:=by
   intro b o u h
   by_cases hb:L.nil = false /\ b = L.b
   · obtain ⟨hn,rfl⟩:=hb
     exact hM hn o (inv.owns r k L o u hk hL hn h)
   · exact World.cell?_of_block (a:=⟨b,o,none⟩) (hblk b (hlt b o u h) (fun hn e=>hb ⟨hn,e⟩))
 refine ⟨?_,fun b o u h=>⟨by rw [Yj b o u h];exact (inv.mem b o u h).1,(inv.mem b o u h).2⟩,inv.kH,inv.jV,inv.glob,?_,?_,?_,?_,hc',fun r L h=>hJ _ _ (inv.jF r L h),fun b o h=>(hblk b (inv.Ep h) (fun hn e=>by rw [e,(hb1 hn).2] at h;cases h)).trans (inv.far b o h)⟩
 · refine inv.below.trans ⟨hos,htape,hout,hsize,fun b hb=>?_⟩
   have:=inv.below.size
   exact hblk b (by omega) (fun hn e=>by have:=(hb1 hn).1;omega)
 · intro t x hx
   refine' adv
 · intro r' q hq
   rw [hgs] at hq
   split at hq
   · obtain rfl:=Option.some.inj hq
     refine ⟨L',C',hJ',fun hn=>?_,ok'⟩
     rcases hL' hn with ⟨h1,h2,_⟩ | h
     · rw [h2];exact hb1 h1
     · have:=inv.below.size;exact ⟨by omega,inv.oN h⟩
   · rename_i hr
     obtain ⟨L2,C2,e2,hb2,ok2⟩:=inv.heap r' q hq
     exact ⟨L2,C2,hJ _ _ e2,hb2,(ok2.mono (Sub.refl M) hJ).world fun hn=>hblk _ (gY ok2 hn) fun hn' e=>inv.apart r' r q k L2 L hq hk e2 hL hn hn' hr e⟩
 · have side:∀ r2 q2 L2,r2 ≠ r -> get s.hp r2 = some q2 -> J' q2.ver = some L2 -> L2.nil = false -> L'.nil = false -> L'.b ≠ L2.b:=by
     intro r2 q2 L2 hne hq2 hL2 hn2 hn'
     obtain ⟨L3,C3,e3,_,ok3⟩:=inv.heap r2 q2 hq2
     rw [hJ _ _ e3] at hL2;obtain rfl:=Option.some.inj hL2
     rcases hL' hn' with ⟨h1,h2,_⟩ | h
     · rw [h2];exact fun e=>inv.apart r r2 k q2 L L3 hk hq2 hL e3 h1 hn2 (fun e=>hne e.symm) e
     · have:=gY ok3 hn2;omega
   intro r1 r2 q1 q2 L1 L2 h1 h2 hL1 hL2 hn1 hn2 hne
   rw [hgs] at h1 h2
   split at h1
   · rename_i e;subst e
     obtain rfl:=Option.some.inj h1
     rw [hJ'] at hL1;obtain rfl:=Option.some.inj hL1
     rw [if_neg (fun e=>hne e.symm)] at h2
     exact side r2 q2 L2 (fun e=>hne e.symm) h2 hL2 hn2 hn1
   · rename_i hr1
     split at h2
     · rename_i e;subst e
       obtain rfl:=Option.some.inj h2
       rw [hJ'] at hL2;obtain rfl:=Option.some.inj hL2
       exact fun e=>side r1 q1 L1 hr1 h1 hL1 hn1 hn2 e.symm
     · obtain ⟨L3,C3,e3,_,ok3⟩:=inv.heap r1 q1 h1
       obtain ⟨L4,C4,e4,_,ok4⟩:=inv.heap r2 q2 h2
       rw [hJ _ _ e3] at hL1;obtain rfl:=Option.some.inj hL1
       rw [hJ _ _ e4] at hL2;obtain rfl:=Option.some.inj hL2
       exact inv.apart r1 r2 q1 q2 L3 L4 h1 h2 e3 e4 hn1 hn2 hne
 · intro r' q L2 o u hq hL2 hn2 hu
   rw [hgs] at hq
   split at hq
   · obtain rfl:=Option.some.inj hq
     rw [hJ'] at hL2;obtain rfl:=Option.some.inj hL2
     rcases hL' hn2 with ⟨h1,h2,h3⟩ | h
     · rw [h2] at hu
       exact Nat.lt_of_lt_of_le (inv.owns r k L o u hk hL h1 hu) h3
     · have:=hlt _ _ _ hu;omega
   · obtain ⟨L3,C3,e3,_,ok3⟩:=inv.heap r' q hq
     rw [hJ _ _ e3] at hL2;obtain rfl:=Option.some.inj hL2
     exact inv.owns r' q L3 o u hq e3 hn2 hu
end
section
variable {P:Program}
theorem toAdd (b o j:Nat):(⟨b,o,none⟩:Addr).add j = ⟨b,o + j,none⟩:=by
 unfold Addr.add;split
 · rename_i h0;subst h0;rfl
 · rfl
structure MI (P:Program) (w:World) (size:Nat) (x:Value) (m:Nat) (news:List Value):Prop where
 len:(Builtin.lenOf x).run P w = .ok m w
 cells:(Builtin.firstCells size m x).run P w = .ok news.toArray w
 drew:(Builtin.firstCells size m x).run P w.drew = .ok news.toArray w.drew
 size:news.length = m * size
 one:∀ u ∈ news,u.oneCell' = true
theorem acd{G:Prop}(h:G:=by (have hz:(match d with | .int _=>true | _=>false) = false:=by cases d <;> first | rfl | exact absurd rfl (hd _));all_goals(rcases(⟨_⟩:PLift _)with⟨h⟩;exact h)):G:=h
theorem run_append_room' {t t' ty e:TypeId} {d:TypeDesc} {z:Option Value} {size by':Nat} (ht:P.underlying t = some (.slice e)) (ht':P.underlying t' = some d) (hd:∀ k,d ≠ .int k)
   (hti:ti P e = some (z,size,by')) {w:World} {g sLen sCap m:Nat} {x:Value} {news:List Value} {C:Array Value} (hg:w.heap[g]? = some (.cells C e (0,0)))
   (hx:MI P w size x m news) (hroom:sLen + m <= sCap) (hfit:sCap * size <= C.size) :
   (Builtin.append_ #[t,t'] ty #[.slice (some ⟨g,0,none⟩) sLen sCap,x]).run P w =
     .ok (.slice (some ⟨g,0,none⟩) (sLen + m) sCap) (w.setRow g (C.toList.take (sLen * size) ++ news ++ C.toList.drop (sLen * size + news.length)).toArray):=by
 have hf:sLen * size + news.length <= C.size:=by
   rw [hx.size,<- Nat.add_mul];exact Nat.le_trans (Nat.mul_le_mul_right _ hroom) hfit
 have hst:=run_storeCells_at P g (sLen * size) e news 0 C w hg (by simpa using hf) hx.one
 simp only [Nat.add_zero] at hst
 refine' acd
 simp only [Builtin.append_,Sem.run_bind,run_underlying ht,Result.andThen_ok,jv hti,run_underlying ht',Sem.run_pure,List.getElem?_toArray,List.getElem?_cons_zero,List.getElem?_cons_succ]
 simp [hz,hx.len,hroom,hx.cells,toAdd,hst]
theorem run_append_grow' {t t' ty e:TypeId} {d:TypeDesc} {z:Value} {size by':Nat} (ht:P.underlying t = some (.slice e)) (ht':P.underlying t' = some d) (hd:∀ k,d ≠ .int k)
   (hti:ti P e = some (some z,size,by')) {w:World} {A:Option Addr} {sLen sCap m:Nat} {x:Value} {news old:List Value}
   (hx:MI P w size x m news) (hold:(Builtin.firstCells size sLen (.slice A sLen sCap)).run P w.drew = .ok old.toArray w.drew) (hroom:sCap < sLen + m) (hb:(sLen + m) * by' <= 140737488355328) (hm:sLen + m <= maxLen) :
   (Builtin.append_ #[t,t'] ty #[.slice A sLen sCap,x]).run P w =
     .ok (.slice (some ⟨w.heap.size,0,none⟩) (sLen + m) (grownCap w (sLen + m) sCap e))
       (w.drew.alloc (.cells (old.toArray ++ news.toArray ++ Builtin.zeroCells z.cells (grownCap w (sLen + m) sCap e - (sLen + m))) e)):=by
 refine' acd
 obtain ⟨i,hi,hiz,his,hib⟩:=nR hti
 have hbig:=growslice_fits (old:=sCap) hroom hb
 unfold maxLen at hm
 have h1:¬ (((sLen + m:Nat):Int) > IntKind.i64.max):=by simp only [IntKind.max,IntKind.signed,IntKind.bits];simp;omega
 have h1':¬ (IntKind.i64.max < ((sLen:Int) + (m:Int))):=by simp only [IntKind.max,IntKind.signed,IntKind.bits];simp;omega
 have h2:¬ (Builtin.nextslicecap (sLen + m) sCap * by' > 2 ^ 48):=by omega
 have hcut:(Question.appendCap (sLen + m) sCap e).forced = false:=rfl
 have hdr:({ w with drawn:=w.drawn + 1 }:World) = w.drew:=rfl
 simp only [Builtin.append_,Sem.run_bind,run_underlying ht,Result.andThen_ok,jv hti,run_underlying ht',Sem.run_pure,List.getElem?_toArray,List.getElem?_cons_zero,List.getElem?_cons_succ,hz,Bool.false_eq_true,if_false,hx.len]
 rw [if_neg (by omega)]
 simp only [Sem.run_bind,typeInfo,run_program,Result.andThen_ok,hi,Sem.run_pure,hib,h2,h1,h1',if_false,false_and,Sem.run_ite,run_choose,hcut,Bool.false_eq_true,hdr,run_askRoom,hold,hx.drew,hiz,zeroValue,newRow,run_newObj,if_neg h2]
 rfl
end
section
variable {E:Env} {M0:qV} {w0:World} {c:Nat} {M:Mem} {J:bJ} {s:St} {tm:Array Value} {w:World}
theorem Inv.UL (n:Nat) (inv:Inv E M0 w0 c M J s tm w):Inv E M0 w0 c M J { s with ctr:=n } tm w:={ inv with }
theorem Inv.drew (inv:Inv E M0 w0 c M J s tm w):Inv E M0 w0 c M J s tm w.drew :=
 ⟨inv.below.drew,fun b o u h=>inv.mem b o u h,inv.kH,inv.jV,inv.glob,inv.slot,
   fun r k hk=>let ⟨L,C,a1,a2,a3⟩:=inv.heap r k hk;⟨L,C,a1,a2,a3.world fun _=>rfl⟩,inv.apart,inv.owns,inv.vers,inv.jF,inv.far⟩
structure qm (M:Mem) (n:Nat) (ys:List (List AV)) (news:List Value):Prop where
 len:∀ (i:Nat) (e:List AV),ys[i]? = some e -> e.length = n
 size:news.length = ys.length * n
 cell:∀ (i:Nat) (e:List AV) (j:Nat) (x:AV),ys[i]? = some e -> e[j]? = some x -> ∃ u,news[i * n + j]? = some u /\ u.oneCell' = true /\ cZ M x u
theorem qm.one {n:Nat} {ys:List (List AV)} {news:List Value} (h:qm M n ys news) (hn:0 < n):∀ u ∈ news,u.oneCell' = true:=by
 intro u hu
 obtain ⟨o,ho,rfl⟩:=List.getElem_of_mem hu
 have hq:o / n < ys.length:=(Nat.div_lt_iff_lt_mul hn).2 (by rw [<- h.size];exact ho)
 obtain ⟨e,he⟩:∃ e,ys[o / n]? = some e:=⟨_,List.getElem?_eq_getElem hq⟩
 obtain ⟨x,hx⟩:∃ x,e[o % n]? = some x:=⟨_,List.getElem?_eq_getElem (by rw [h.len _ _ he];exact Nat.mod_lt _ hn)⟩
 obtain ⟨u',h1,h2,_⟩:=h.cell _ _ _ _ he hx
 rw [Nat.div_add_mod' o n,List.getElem?_eq_getElem ho] at h1
 rw [Option.some.inj h1];exact h2
theorem nT {box:Bool} {n:Nat} {es ys:List (List AV)} {old news rest:List Value} {D:Array Value} (hb:box = false) (hold:old.length = es.length * n)
   (hes:∀ (i:Nat) (e:List AV),es[i]? = some e -> e.length = n)
   (hcell:∀ (i:Nat) (e:List AV) (j:Nat) (x:AV),es[i]? = some e -> e[j]? = some x -> ∃ u,old[i * n + j]? = some u /\ u.oneCell' = true /\ cZ M x u)
   (hn:qm M n ys news) (hD:D.toList = old ++ news ++ rest) :
   (∀ (i:Nat) (e:List AV),(es ++ ys)[i]? = some e -> e.length = n) /\
   ∀ (i:Nat) (e:List AV) (j:Nat) (x:AV),(es ++ ys)[i]? = some e -> e[j]? = some x -> ∃ u,D[i * n + j]? = some u /\ u.oneCell' = true /\ dh M J box x u:=by
 have hDg:∀ o:Nat,D[o]? = (old ++ news ++ rest)[o]?:=by intro o;rw [<- hD];simp
 refine ⟨fun i e he=>?_,fun i e j x he hx=>?_⟩
 · rcases Nat.lt_or_ge i es.length with h | h
   · rw [List.getElem?_append_left h] at he;exact hes i e he
   · rw [List.getElem?_append_right h] at he;exact hn.len _ e he
 · rcases Nat.lt_or_ge i es.length with h | h
   · rw [List.getElem?_append_left h] at he
     obtain ⟨u,h1,h2,h3⟩:=hcell i e j x he hx
     refine ⟨u,?_,h2,by unfold dh;rw [hb];simpa using h3⟩
     rw [hDg,List.append_assoc,List.getElem?_append_left (List.getElem?_eq_some_iff.1 h1).1];exact h1
   · rw [List.getElem?_append_right h] at he
     obtain ⟨u,h1,h2,h3⟩:=hn.cell _ e j x he hx
     refine ⟨u,?_,h2,by unfold dh;rw [hb];simpa using h3⟩
     have hlt:=(List.getElem?_eq_some_iff.1 h1).1
     have hge:es.length * n <= i * n:=Nat.mul_le_mul_right _ h
     rw [hDg,List.append_assoc,List.getElem?_append_right (by rw [hold];omega),List.getElem?_append_left (by rw [hold];rw [Nat.sub_mul] at hlt;omega),hold,<- h1]
     congr 1
     rw [Nat.sub_mul];omega
theorem l9 (z:Array Value) (n:Nat):(Builtin.zeroCells z n).size = n * z.size:=by simp [Builtin.zeroCells]
theorem MJ {n len cap:Nat} {es:List (List AV)} {C:Array Value} {b:Nat} {ty:TypeId} (hg:w.heap[b]? = some (.cells C ty (0,0))) (hlen:len * n <= C.size) :
   (Builtin.firstCells n len (.slice (some ⟨b,0,none⟩) len cap)).run E.P w = .ok (C.toList.take (len * n)).toArray w:=by
 have:=run_firstCells_some (P:=E.P) w n len ⟨b,0,none⟩ len cap (C.toList.take (len * n)) (by simp;omega) (fun j u hj=>by
   rw [List.getElem?_take] at hj
   split at hj
   · rw [toAdd,Nat.zero_add,cell_of_row w b j C ty (0,0) hg];simpa using hj
   · cases hj)
 exact this
theorem aas{G:Prop}(h:G:=by
 have hcap:=grownCap_ge w (k.es.length + ys.length) L.cap k.ty
 have hcm:=grownCap_le_maxLen w (k.es.length + ys.length) L.cap k.ty h1
 refine ⟨_,_,fun r=>if r = ver then some (⟨w.heap.size,grownCap w (k.es.length + ys.length) L.cap k.ty,k.sz,false⟩:Loc) else J r,_,_,hg,hK,?_,.own (L:=⟨w.heap.size,grownCap w (k.es.length + ys.length) L.cap k.ty,k.sz,false⟩) (by simp) (by simpa using hcap) (fun h=>by simp at h) (fun _ _=>by simp) (by simp),hJ0 _,rfl⟩
 refine Inv.UL (s:={ s with hp:=set s.hp r { k with ver:=ver,es:=k.es ++ ys } }) (ver + 8) ?_
 all_goals(rcases(⟨_⟩:PLift _)with⟨h⟩;exact h)):G:=h
theorem ae6{G:Prop}(h:G:=by
 have hnl:news = []:=List.eq_nil_of_length_eq_zero (by rw [MK.size];simp)
 subst hnl
 all_goals(rcases(⟨_⟩:PLift _)with⟨h⟩;exact h)):G:=h
theorem afu{G:Prop}(h:G:=by rw [Nat.add_mul] at this;omega):G:=h
theorem ag5{G:Prop}(h:G:=by (obtain ⟨L,A,rfl,hL,hcap,hLN,hLA⟩:=hr.sS);all_goals(rcases(⟨_⟩:PLift _)with⟨h⟩;exact h)):G:=h
theorem ML (inv:Inv E M0 w0 c M J s tm w) {nm ver:Nat} (hv:c <= ver) {t t' ty:TypeId} {d:TypeDesc} {a:AV} {u x:Value} {ys:List (List AV)} {K:AV -> St -> Prop}
   (ht':E.P.underlying t' = some d) (hd:∀ k,d ≠ .int k) (hr:Rel M J a u) (h:IC E nm ver t s a ys K)
   (hx:∀ n,0 < n -> (∀ y ∈ ys,y.length = n) -> ∃ news,MI E.P w n x ys.length news /\ qm M n ys news) :
   ∃ v w' J' y s',(Builtin.append_ #[t,t'] ty #[u,x]).run E.P w = .ok v w' /\ K y s' /\ Inv E M0 w0 (ver + 1) M J' s' tm w' /\ Rel M J' y v /\ iG J J' /\ s'.ctr = ver + 8:=by
 unfold IC at h
 split at h
 case h_2=>exact h.elim
 rename_i e z n by' ahs
 obtain ⟨hut,hti⟩:=oP ahs
 obtain ⟨hn0,hzn,hlen,h⟩:=h
 obtain ⟨news,hN,MK⟩:=hx n hn0 hlen
 split at h
 · -- nil
   obtain ⟨h1,h2,h3,hK⟩:=h
   obtain rfl:=hr.bZ
   rcases Nat.eq_zero_or_pos ys.length with h0 | h0
   · have:ys = []:=List.eq_nil_of_length_eq_zero h0
     subst this
     obtain ⟨J',hJ,hJ',hI⟩:=inv.Yi (sz:=n) (ty:=e) (box:=false) h3 hv
     refine ⟨.slice none 0 0,w,J',_,_,?_,hK,hI,.own hJ' (by simp) (fun _=>rfl) (fun h=>by simp at h) rfl,hJ,rfl⟩
     refine' acd
     refine' ae6
     have hl:=hN.len;have hc:=hN.cells
     simp only [List.length_nil] at hl hc
     simp only [Builtin.append_,Sem.run_bind,run_underlying hut,Result.andThen_ok,jv hti,run_underlying ht',Sem.run_pure,List.getElem?_toArray,List.getElem?_cons_zero,List.getElem?_cons_succ]
     simp [hz,hl,hc]
   · have hg:=run_append_grow' (ty:=ty) (t:=t) hut ht' hd hti (w:=w) (A:=none) (sLen:=0) (sCap:=0) hN (old:=[]) (by simp [Builtin.firstCells]) (by omega) (by simpa using h2) (by simpa using h1)
     simp only [Nat.zero_add] at hg
     obtain ⟨c1,c2⟩:=nT (M:=M) (J:=J) (box:=false) (es:=[]) (old:=[]) (rest:=(Builtin.zeroCells z.cells (grownCap w ys.length 0 e - ys.length)).toList) (D:=(#[] ++ news.toArray ++ Builtin.zeroCells z.cells (grownCap w ys.length 0 e - ys.length))) rfl (by simp) (by simp) (by simp) MK (by simp)
     simp only [List.nil_append] at c1 c2
     have hcap:=grownCap_ge w ys.length 0 e
     have hcm:=grownCap_le_maxLen w ys.length 0 e h1
     obtain ⟨J',hJ,hJ',hI⟩:=inv.drew.new (ty:=e) (box:=false) (sz:=n) (cap:=grownCap w ys.length 0 e) h3 hv (by
       simp only [Array.size_append,l9,hzn,List.size_toArray,MK.size]
       simp only [List.length_nil,Nat.zero_add,<- Nat.add_mul];congr 1;omega) hcap c1 c2 hcm
     exact ⟨_,_,J',_,_,hg,hK,hI,.own hJ' (by simp [hcap]) (fun h=>by simp at h) (fun _ _=>by simp) (by simp),hJ,rfl⟩
 · -- our own
   rename_i r v off len
   split at h
   case h_2=>exact h.elim
   rename_i k hk
   obtain ⟨hkv,hbox,aht,ahu,rfl,rfl,h1,h2,hK⟩:=h
   refine' ag5
   obtain ⟨L',C,hL',hb,ok⟩:=inv.heap r k hk
   rw [hkv,hL] at hL';obtain rfl:=Option.some.inj hL'
   have hLk:J k.ver = some L:=by rw [hkv];exact hL
   subst aht;subst ahu
   have hfr:∀ J':bJ,iG J J' -> ∀ k':aG,True:=fun _ _ _=>trivial
   simp only [Nat.sub_zero]
   rw [Nat.zero_add] at hcap
   have hJ0:∀ Lx:Loc,iG J (fun r=>if r = ver then some Lx else J r):=by
     intro Lx r' L2 h
     have:=inv.vers r' L2 h
     show (if r' = ver then some Lx else J r') = some L2
     rw [if_neg (by omega)];exact h
   have hv0:∀ Lx:Loc,∀ r' L2,(fun r=>if r = ver then some Lx else J r) r' = some L2 -> r' < ver + 1:=by
     intro Lx r' L2 h
     simp only at h
     split at h
     · omega
     · have:=inv.vers r' L2 h;omega
   cases hnil:L.nil with
   | true =>
     have hc0:L.cap = 0:=ok.none hnil
     have hes0:k.es = []:=List.eq_nil_of_length_eq_zero (by have:=ok.fits;omega)
     obtain rfl:=hLN hnil
     rcases Nat.eq_zero_or_pos ys.length with h0 | h0
     · have:ys = []:=List.eq_nil_of_length_eq_zero h0
       subst this
       refine' ae6
       refine ⟨.slice none (k.es.length + ([]:List (List AV)).length) (L.cap - 0),w,fun r=>if r = ver then some L else J r,_,_,?_,hK,?_,.own (L:=L) (by simp) (by simpa using hcap) (fun _=>rfl) (fun h=>by rw [hnil] at h;cases h) rfl,hJ0 L,rfl⟩
       · refine' acd
         have hl:=hN.len;have hc:=hN.cells
         simp only [List.length_nil] at hl hc
         simp only [Builtin.append_,Sem.run_bind,run_underlying hut,Result.andThen_ok,jv hti,run_underlying ht',Sem.run_pure,List.getElem?_toArray,List.getElem?_cons_zero,List.getElem?_cons_succ,hes0,hc0]
         simp [hz,hl,hc]
       · refine Inv.UL (s:={ s with hp:=set s.hp r { k with ver:=ver,es:=k.es ++ [] } }) (ver + 8) ?_
         refine inv.replace hk hLk ok rfl rfl rfl (Nat.le_refl _) (fun _ _ _=>rfl) (fun h=>by rw [hnil] at h;cases h) (k':={ k with ver:=ver,es:=k.es ++ [] }) (L':=L) (hJ0 L) (by simp) (hv0 L) (C':=C) ?_ (fun h=>by rw [hnil] at h;cases h)
         exact ⟨ok.blk,ok.none,ok.size,by simpa using ok.fits,by simpa using ok.fH,ok.sz,by simpa using ok.len,by
           intro i e j x he;simp [hes0] at he,ok.cap⟩
     · have hg:=run_append_grow' (ty:=ty) (t:=t) hut ht' hd hti (w:=w) (A:=none) (sLen:=k.es.length) (sCap:=L.cap) hN (old:=[]) (by rw [hes0];simp [Builtin.firstCells]) (by omega) h2 h1
       obtain ⟨c1,c2⟩:=nT (M:=M) (J:=fun r=>if r = ver then some (⟨w.heap.size,grownCap w (k.es.length + ys.length) L.cap k.ty,k.sz,false⟩:Loc) else J r) (box:=k.box) (es:=[]) (old:=[]) (rest:=(Builtin.zeroCells z.cells (grownCap w (k.es.length + ys.length) L.cap k.ty - (k.es.length + ys.length))).toList) (D:=(#[] ++ news.toArray ++ Builtin.zeroCells z.cells (grownCap w (k.es.length + ys.length) L.cap k.ty - (k.es.length + ys.length)))) hbox (by simp) (by simp) (by simp) MK (by simp)
       simp only [List.nil_append] at c1 c2
       refine' aas
       refine inv.replace hk hLk ok (w':=w.drew.alloc _) rfl rfl rfl (by simp) (fun b hb _=>Below.heap_alloc w.drew _ b hb) (fun h=>by rw [hnil] at h;cases h) (k':={ k with ver:=ver,es:=k.es ++ ys }) (L':=⟨w.heap.size,grownCap w (k.es.length + ys.length) L.cap k.ty,k.sz,false⟩) (hJ0 _) (by simp) (hv0 _)
         (C':=(#[] ++ news.toArray ++ Builtin.zeroCells z.cells (grownCap w (k.es.length + ys.length) L.cap k.ty - (k.es.length + ys.length)))) ?_ (fun _=>.inr (Nat.le_refl _))
       refine ⟨fun _=>heap_alloc_new w.drew _,fun h=>by simp at h,?_,by simpa using hcap,by have:=ok.fH;simp;omega,rfl,by simpa [hes0] using c1,by simpa [hes0] using c2,hcm⟩
       simp only [Array.size_append,l9,hzn,List.size_toArray,MK.size,hes0]
       simp only [List.length_nil,Nat.zero_add,<- Nat.add_mul];congr 1
       rw [hes0] at hcap;simp at hcap;omega
   | false =>
     obtain rfl:=hLA hnil (.inl rfl)
     simp only [Nat.zero_mul]
     have hblk:=ok.blk hnil
     have zV:(C.toList.take (k.es.length * k.sz)).length = k.es.length * k.sz:=by
       simp only [List.length_take,Array.length_toList,ok.size]
       have:k.es.length * k.sz <= L.cap * k.sz:=Nat.mul_le_mul_right _ ok.fits
       omega
     have F7:∀ (i:Nat) (e:List AV) (j:Nat) (x:AV),k.es[i]? = some e -> e[j]? = some x -> ∃ u,(C.toList.take (k.es.length * k.sz))[i * k.sz + j]? = some u /\ u.oneCell' = true /\ cZ M x u:=by
       intro i e j x he hx
       obtain ⟨u,a1,a2,a3⟩:=ok.cell i e j x he hx
       have hi:=(List.getElem?_eq_some_iff.1 he).1
       have hj:=(List.getElem?_eq_some_iff.1 hx).1
       rw [ok.len i e he] at hj
       have:(i + 1) * k.sz <= k.es.length * k.sz:=Nat.mul_le_mul_right _ hi
       rw [Nat.add_mul] at this
       refine ⟨u,?_,a2,?_⟩
       · rw [List.getElem?_take,if_pos (by omega)];simpa using a1
       · unfold dh at a3;rw [hbox] at a3;simpa using a3
     by_cases hroom:k.es.length + ys.length <= L.cap
     · have hg:=run_append_room' (ty:=ty) (t:=t) hut ht' hd hti hblk hN hroom (by rw [ok.size];exact Nat.le_refl _)
       have hDl:(C.toList.take (k.es.length * k.sz) ++ news ++ C.toList.drop (k.es.length * k.sz + news.length)).length = C.size:=by
         simp only [List.length_append,zV,List.length_drop,Array.length_toList,MK.size,ok.size]
         have:(k.es.length + ys.length) * k.sz <= L.cap * k.sz:=Nat.mul_le_mul_right _ hroom
         refine' afu
       obtain ⟨c1,c2⟩:=nT (M:=M) (J:=fun r=>if r = ver then some L else J r) (box:=k.box) (rest:=C.toList.drop (k.es.length * k.sz + news.length)) (D:=(C.toList.take (k.es.length * k.sz) ++ news ++ C.toList.drop (k.es.length * k.sz + news.length)).toArray) hbox zV ok.len F7 MK (by simp)
       refine ⟨_,_,fun r=>if r = ver then some L else J r,_,_,hg,hK,?_,.own (L:=L) (by simp) (by simpa using hroom) (fun h=>by rw [hnil] at h;cases h) (fun _ _=>by rw [Nat.zero_mul]) rfl,hJ0 L,rfl⟩
       refine Inv.UL (s:={ s with hp:=set s.hp r { k with ver:=ver,es:=k.es ++ ys } }) (ver + 8) ?_
       refine inv.replace hk hLk ok (w':=w.setRow L.b _) rfl rfl rfl (by simp) (fun b hb hne=>setRow_other w L.b b _ (hne hnil)) ?_ (k':={ k with ver:=ver,es:=k.es ++ ys }) (L':=L) (hJ0 L) (by simp) (hv0 L)
         (C':=(C.toList.take (k.es.length * k.sz) ++ news ++ C.toList.drop (k.es.length * k.sz + news.length)).toArray) ?_ (fun _=>.inl ⟨hnil,rfl,Nat.le_refl _⟩)
       · intro _ o ho
         rw [cell_setRow_same w L.b o C _ _ _ hblk,cell_of_row w L.b o C _ _ hblk]
         have hfk:k.fH * k.sz <= k.es.length * k.sz:=Nat.mul_le_mul_right _ ok.fH
         simp only [List.getElem?_toArray,List.append_assoc]
         rw [List.getElem?_append_left (by omega),List.getElem?_take,if_pos (by omega)];simp
       · refine ⟨fun _=>setRow_heap w L.b C _ _ _ hblk,(fun h=>by rw [hnil] at h;cases h),?_,?_,?_,ok.sz,c1,c2,ok.cap⟩
         · rw [List.size_toArray,hDl];exact ok.size
         · rw [List.length_append];exact hroom
         · rw [List.length_append];have:=ok.fH;exact Nat.le_trans this (Nat.le_add_right _ _)
     · have hg:=run_append_grow' (ty:=ty) (t:=t) hut ht' hd hti (w:=w) (A:=some ⟨L.b,0,none⟩) (sLen:=k.es.length) (sCap:=L.cap) hN (old:=C.toList.take (k.es.length * k.sz)) (by
           have:=MJ (E:=E) (w:=w.drew) (n:=k.sz) (len:=k.es.length) (cap:=L.cap) (es:=k.es) (C:=C) (b:=L.b) (ty:=k.ty) hblk (by rw [ok.size];exact Nat.mul_le_mul_right _ ok.fits)
           exact this) (by omega) h2 h1
       obtain ⟨c1,c2⟩:=nT (M:=M) (J:=fun r=>if r = ver then some (⟨w.heap.size,grownCap w (k.es.length + ys.length) L.cap k.ty,k.sz,false⟩:Loc) else J r) (box:=k.box) (rest:=(Builtin.zeroCells z.cells (grownCap w (k.es.length + ys.length) L.cap k.ty - (k.es.length + ys.length))).toList) (D:=((C.toList.take (k.es.length * k.sz)).toArray ++ news.toArray ++ Builtin.zeroCells z.cells (grownCap w (k.es.length + ys.length) L.cap k.ty - (k.es.length + ys.length)))) hbox zV ok.len F7 MK (by simp)
       refine' aas
       refine inv.replace hk hLk ok (w':=w.drew.alloc _) rfl rfl rfl (by simp) (fun b hb _=>Below.heap_alloc w.drew _ b hb) ?_ (k':={ k with ver:=ver,es:=k.es ++ ys }) (L':=⟨w.heap.size,grownCap w (k.es.length + ys.length) L.cap k.ty,k.sz,false⟩) (hJ0 _) (by simp) (hv0 _)
         (C':=((C.toList.take (k.es.length * k.sz)).toArray ++ news.toArray ++ Builtin.zeroCells z.cells (grownCap w (k.es.length + ys.length) L.cap k.ty - (k.es.length + ys.length)))) ?_ (fun _=>.inr (Nat.le_refl _))
       · intro _ o _
         exact World.cell?_of_block (a:=⟨L.b,o,none⟩) (Below.heap_alloc w.drew _ L.b (by have:=gY ok hnil;exact this))
       · refine ⟨fun _=>heap_alloc_new w.drew _,fun h=>by simp at h,?_,by simpa using hcap,by have:=ok.fH;simp;omega,rfl,c1,c2,hcm⟩
         simp only [Array.size_append,l9,hzn,List.size_toArray,MK.size,zV]
         simp only [<- Nat.add_mul];congr 1;omega
 · exact h.elim
end
section
variable {E:Env} {M0:qV} {w0:World} {c:Nat} {M:Mem} {J:bJ} {s:St} {tm:Array Value} {w:World} {K:AV -> St -> Prop} {ds:List Deferred} {nm ver:Nat}
theorem Eu (inv:Inv E M0 w0 c M J s tm w) {x:Option Operand} {l:Option Int} (h:bnd E s x = some l) :
   ∃ k,x.map (Act.eval ⟨tm,ds⟩) = l.map (Value.int k):=by
 cases x with
 | none=>simp only [bnd,Option.some.injEq] at h;subst h;exact ⟨.i64,rfl⟩
 | some x =>
   simp only [bnd] at h
   split at h
   · rename_i k n hx
     obtain rfl:=Option.some.inj h
     exact ⟨k,by simp [(inv.oper (ds:=ds) hx).bZ]⟩
   · cases h
theorem adp{G:Prop}(h:G:=by
 have hb:∀ (i:Int) (y:Nat) (kk:IntKind) (code:BoundsCode),0 <= i -> i <= y -> (Instr.sliceBound (.int kk i) y code).run P w = .ok i.toNat w:=by
   intro i y kk code h0 h1
   simp [Instr.sliceBound,asIntOf,h0,h1]
 all_goals(rcases(⟨_⟩:PLift _)with⟨h⟩;exact h)):G:=h
theorem qo {P:Program} {isSlice:Bool} {len cap:Nat} (hlc:len <= cap) {lo hi:Option Int} {k k':IntKind} {K:Nat -> Nat -> Prop} (h:IB len lo hi K) (w:World) :
   ∃ l u,(Instr.sliceBounds isSlice len cap (lo.map (Value.int k)) (hi.map (Value.int k')) none).run P w = .ok (l,u,cap) w /\ l <= u /\ u <= len /\ K l u:=by
 refine' adp
 cases lo with
 | none =>
   cases hi with
   | none=>exact ⟨0,len,by simp [Instr.sliceBounds],Nat.zero_le _,Nat.le_refl _,h⟩
   | some u =>
     obtain ⟨h0,h1,hk⟩:=h
     exact ⟨0,u.toNat,by simp [Instr.sliceBounds,hb u cap k' _ h0 (by omega)],Nat.zero_le _,by omega,hk⟩
 | some l =>
   cases hi with
   | none =>
     obtain ⟨h0,h1,hk⟩:=h
     exact ⟨l.toNat,len,by simp [Instr.sliceBounds,hb l len k _ h0 (by omega)],by omega,Nat.le_refl _,hk⟩
   | some u =>
     obtain ⟨h0,h1,h2,hk⟩:=h
     exact ⟨l.toNat,u.toNat,by simp [Instr.sliceBounds,hb u cap k' _ (by omega) (by omega),hb l u.toNat k _ h0 (by omega)],by omega,by omega,hk⟩
theorem F8 {P:Program} {len cap:Nat} (hlc:len <= cap) {lo:Option Int} {u m:Int} {k k' k2:IntKind} {K:Nat -> Nat -> Prop} (h:IB len lo (some u) K) (hm:u.toNat <= m) (hm':m <= len) (w:World) :
   ∃ l,(Instr.sliceBounds true len cap (lo.map (Value.int k)) (some (Value.int k' u)) (some (Value.int k2 m))).run P w = .ok (l,u.toNat,m.toNat) w /\ l <= u.toNat /\ u.toNat <= len /\ K l u.toNat:=by
 refine' adp
 cases lo with
 | none =>
   obtain ⟨h0,h1,hk⟩:=h
   exact ⟨0,by simp [Instr.sliceBounds,hb m cap k2 _ (by omega) (by omega),hb u m.toNat k' _ h0 (by omega)],Nat.zero_le _,by omega,hk⟩
 | some l =>
   obtain ⟨h0,h1,h2,hk⟩:=h
   exact ⟨l.toNat,by simp [Instr.sliceBounds,hb m cap k2 _ (by omega) (by omega),hb u m.toNat k' _ (by omega) (by omega),hb l u.toNat k _ h0 (by omega)],by omega,by omega,hk⟩
theorem nU {P:Program} {t e:TypeId} (hu:P.underlying t = some (.slice e)) {z:Option Value} {n b:Nat} (hti:ti P e = some (z,n,b)) {A:Option Addr} {len cap:Nat} {lo hi mx:Option Value} {l u m:Nat} {w:World}
   (hb:(Instr.sliceBounds true len cap lo hi mx).run P w = .ok (l,u,m) w) :
   (Instr.sliceAt t (.slice A len cap) lo hi mx).run P w = .ok (.slice (if m = l then A else A.map (·.add (l * n))) (u - l) (m - l)) w:=by
 simp [Instr.sliceAt,run_underlying hu,Instr.slice,hb,jv hti]
theorem aeu{G:Prop}(h:G:=by
 obtain ⟨L',C,hL',hb,ok⟩:=inv.heap r k hk
 rw [hv,hL] at hL';obtain rfl:=Option.some.inj hL'
 all_goals(rcases(⟨_⟩:PLift _)with⟨h⟩;exact h)):G:=h
theorem Yk{G:Prop}(h:G:=by (obtain ⟨hu,hti⟩:=oP hs);all_goals(rcases(⟨_⟩:PLift _)with⟨h⟩;exact h)):G:=h
theorem F9 (inv:Inv E M0 w0 c M J s tm w) {t:TypeId} {x:AV} {u:Value} {lo hi mx:Option Int} {k1 k2 k3:IntKind} (hr:Rel M J x u) (h:xW E t s x lo hi mx K) :
   ∃ v y,(Instr.sliceAt t u (lo.map (Value.int k1)) (hi.map (Value.int k2)) (mx.map (Value.int k3))).run E.P w = .ok v w /\ K y s /\ Rel M J y v:=by
 unfold xW at h
 split at h
 · rename_i b
   obtain ⟨hu,rfl,h⟩:=h
   obtain rfl:=hr.bZ
   obtain ⟨l,h',hb,_,_,hk⟩:=qo (P:=E.P) (isSlice:=false) (len:=b.size) (cap:=b.size) (Nat.le_refl _) (k:=k1) (k':=k2) h w
   exact ⟨_,_,by simp [Instr.sliceAt,Instr.slice,run_underlying hu,hb],hk,.pure (.v _)⟩
 · obtain ⟨hs,rfl,h⟩:=h
   obtain rfl:=hr.bZ
   obtain ⟨⟨e,z,n,by'⟩,hs⟩:=Option.isSome_iff_exists.1 hs
   refine' Yk
   obtain ⟨l,h',hb,h1,h2,hk⟩:=qo (P:=E.P) (isSlice:=true) (len:=0) (cap:=0) (Nat.le_refl _) (k:=k1) (k':=k2) h w
   have hl:l = 0:=by omega
   have hh:h' = 0:=by omega
   subst hl;subst hh
   exact ⟨_,_,by rw [Option.map_none];exact nU hu hti hb,hk,.pure (by simpa using cZ.v _)⟩
 · rename_i sz xs
   split at h
   · rename_i e z sz' by' hs
     obtain ⟨rfl,h⟩:=h
     refine' Yk
     have hp:=hr.qh
     cases hp with
     | lst uu hn hc hz hA hM hx =>
       rename_i A n cap
       subst hn
       have fin:∀ l h m,l <= h -> h <= xs.length -> h <= m -> cZ M (.lst sz ((xs.drop l).take (h - l))) (.slice (if m = l then A else A.map (·.add (l * sz))) (h - l) (m - l)):=by
         intro l h m h1 h2 h3
         have hlen:((xs.drop l).take (h - l)).length = h - l:=by simp;omega
         have hget:∀ (i:Nat) (e:List AV),((xs.drop l).take (h - l))[i]? = some e -> i < h - l /\ xs[l + i]? = some e:=by
           intro i e he
           have hi:i < h - l:=by have:=(List.getElem?_eq_some_iff.1 he).1;omega
           refine' af6
         refine .lst (fun i j=>uu (l + i) j) hlen.symm (by rw [hlen];omega) (fun i e he=>hz _ _ (hget i e he).2) (fun hne=>?_) (fun b o i e j c P7 he hj=>?_) (fun i e j c he hj=>hx _ e j c (hget i e he).2 hj)
         · have:0 < h - l:=by
                                  rcases Nat.eq_zero_or_pos (h - l) with h0 | h0
                                  · rw [h0] at hne;simp at hne
                                  · exact h0
           obtain ⟨b,o,rfl⟩:=hA (by intro e;subst e;simp at h2;omega)
           rw [if_neg (by omega)]
           exact ⟨b,o + l * sz,by simp [toAdd]⟩
         · obtain ⟨hi,he'⟩:=hget i e he
           obtain ⟨b',o',rfl⟩:=hA (by intro e;subst e;simp at h2;omega)
           rw [if_neg (by omega)] at P7
           simp only [Option.map_some,toAdd,Option.some.injEq,Addr.mk.injEq,and_true] at P7
           obtain ⟨rfl,rfl⟩:=P7
           rw [<- hM b' o' (l + i) e j c rfl he' hj,Nat.add_mul,<- Nat.add_assoc]
       cases mx with
       | none =>
         obtain ⟨l,h',hb,h1,h2,h3⟩:=qo (P:=E.P) (isSlice:=true) (len:=xs.length) (cap:=cap) hc (k:=k1) (k':=k2) h w
         exact ⟨_,_,by rw [Option.map_none];exact nU hu hti hb,h3.2,.pure (fin l h' cap h1 h2 (by omega))⟩
       | some m =>
         cases hi with
         | none =>
           exfalso
           cases lo with
           | none=>exact absurd h.1.1 (by simp)
           | some l=>exact absurd h.2.2.1.1 (by simp)
         | some u' =>
           have hmm:(u'.toNat:Int) <= m /\ m <= xs.length:=by
             cases lo with
             | none=>obtain ⟨_,_,⟨_,a,b⟩,_⟩:=h;exact ⟨a,b⟩
             | some l=>obtain ⟨_,_,_,⟨_,a,b⟩,_⟩:=h;exact ⟨a,b⟩
           obtain ⟨l,hb,h1,h2,h3⟩:=F8 (P:=E.P) (len:=xs.length) (cap:=cap) hc (k:=k1) (k':=k2) (k2:=k3) h hmm.1 hmm.2 w
           exact ⟨_,_,nU hu hti hb,h3.2,.pure (fin l u'.toNat m.toNat h1 h2 (by omega))⟩
   · exact h.elim
 · rename_i r v off len
   split at h
   · rename_i e z sz' by' k hs hk
     obtain ⟨hv,hsz,rfl,h⟩:=h
     refine' Yk
     refine' ag5
     refine' aeu
     obtain ⟨l,h',hb',h1,h2,h3⟩:=qo (P:=E.P) (isSlice:=true) (len:=len) (cap:=L.cap - off) (by omega) (k:=k1) (k':=k2) h w
     refine ⟨_,_,by rw [Option.map_none];exact nU hu hti hb',h3,.own hL (by omega) ?_ ?_ (by omega)⟩
     · intro hn;rw [hLN hn];simp
     · intro hn hc
       rcases hc with h0 | h0
       · have hl0:l = 0:=by omega
         have hoff:off = 0:=by omega
         subst hl0;subst hoff
         rw [hLA hn (.inl rfl)]
         split <;> simp [toAdd]
       · rw [if_neg (by omega),hLA hn (.inr (by omega))]
         simp only [Option.map_some,toAdd,ok.sz,hsz,Nat.add_mul]
   · exact h.elim
 · exact h.elim
end
section
variable {E:Env} {M0:qV} {w0:World} {c:Nat} {M:Mem} {J:bJ} {s:St} {tm:Array Value} {w:World} {K:AV -> St -> Prop} {ds:List Deferred} {nm ver:Nat}
theorem Gf {xs:List (List AV)} {i:Nat} (h:i < xs.length):xs[i]? = some (xs.getD i []):=by
 rw [List.getD_eq_getElem?_getD,List.getElem?_eq_getElem h];rfl
theorem Gg (inv:Inv E M0 w0 c M J s tm w) {t:TypeId} {x i:Operand} (h:pY E nm ver (.indexAddr t x i) s K) :
   ∃ v y,(Instr.indexAt t (Act.eval ⟨tm,ds⟩ x) (Act.eval ⟨tm,ds⟩ i)).run E.P w = .ok v w /\ K y s /\ Rel M J y v:=by
 simp only [pY] at h
 split at h
 · rename_i e z sz b zz xs k n hs hx hi
   obtain ⟨rfl,h0,h1,hk⟩:=h
   refine' Yk
   rw [(inv.oper (ds:=ds) hi).bZ]
   have hp:=(inv.oper (ds:=ds) hx).qh
   generalize Act.eval ⟨tm,ds⟩ x = u at hp
   cases hp with
   | lst uu hn hc hz hA hM hxx =>
     rename_i A m cap
     subst hn
     obtain ⟨b',o',rfl⟩:=hA (by intro e;subst e;simp at h1;omega)
     have hlt:n.toNat < xs.length:=by omega
     refine ⟨_,_,by simp [Instr.indexAt,asIntOf,run_underlying hu,h0,h1,jv hti,toAdd];rfl,hk,.pure ?_⟩
     exact .fO (fun j=>uu n.toNat j) (fun j c hj=>hM b' o' n.toNat _ j c rfl (Gf hlt) hj) (fun j c hj=>hxx n.toNat _ j c (Gf hlt) hj)
 · rename_i e z sz b r v off len k n hs hx hi
   obtain ⟨h0,h1,hk,hK⟩:=h
   refine' Yk
   rw [(inv.oper (ds:=ds) hi).bZ]
   obtain ⟨L,A,e1,hL,hcap,hLN,hLA⟩:=(inv.oper (ds:=ds) hx).sS
   rw [e1]
   split at hk
   · rename_i q hq
     obtain ⟨hv,hsz⟩:=hk
     obtain ⟨L',C,hL',hb,ok⟩:=inv.heap r q hq
     rw [hv,hL] at hL';obtain rfl:=Option.some.inj hL'
     have hn:L.nil = false:=by
       cases hb:L.nil with
       | false=>rfl
       | true=>have:=ok.none hb;omega
     rw [hLA hn (.inr (by omega))]
     refine ⟨_,_,by simp [Instr.indexAt,asIntOf,run_underlying hu,h0,h1,jv hti,toAdd];rfl,hK,?_⟩
     have:=Rel.ptr (M:=M) (r:=r) (i:=off + n.toNat) (o:=0) hL hn
     rw [ok.sz,hsz,Nat.add_zero,Nat.add_mul] at this
     rw [ok.sz,hsz];exact this
   · exact hk.elim
 · rename_i m e sz cs k n hs hx hi
   obtain ⟨h0,h1,hK⟩:=h
   obtain ⟨hu,z,b,hti⟩:=Am hs
   rw [(inv.oper (ds:=ds) hi).bZ]
   have hp:=(inv.oper (ds:=ds) hx).l7
   generalize Act.eval ⟨tm,ds⟩ x = u at hp
   cases hp with
   | fO uu hM hxx =>
     refine ⟨_,_,by simp [Instr.indexAt,asIntOf,run_underlying hu,Instr.sureAddr,h0,h1,jv hti,toAdd];rfl,hK,.pure ?_⟩
     refine .fO (fun j=>uu (n.toNat * sz + j)) (fun j c hj=>?_) (fun j c hj=>?_)
     · rw [List.getElem?_drop] at hj
       rw [Nat.add_assoc];exact hM _ c hj
     · rw [List.getElem?_drop] at hj;exact hxx _ c hj
 · rename_i m e sz r v j o k n hs hx hi
   obtain ⟨h0,h1,hK⟩:=h
   obtain ⟨hu,z,b,hti⟩:=Am hs
   rw [(inv.oper (ds:=ds) hi).bZ]
   obtain ⟨L,e1,hL,hN⟩:=(inv.oper (ds:=ds) hx).qj
   rw [e1]
   refine ⟨_,_,by simp [Instr.indexAt,asIntOf,run_underlying hu,Instr.sureAddr,h0,h1,jv hti,toAdd];rfl,hK,?_⟩
   have:=Rel.ptr (M:=M) (r:=r) (i:=j) (o:=o + n.toNat * sz) hL hN
   rw [<- Nat.add_assoc] at this;exact this
 · exact h.elim
theorem Gi (inv:Inv E M0 w0 c M J s tm w) {t:TypeId} {x:Operand} {f:Nat} (h:pY E nm ver (.fieldAddr t x f) s K) :
   ∃ v y,(Instr.fieldAt t (Act.eval ⟨tm,ds⟩ x) f).run E.P w = .ok v w /\ K y s /\ Rel M J y v:=by
 simp only [pY] at h
 have run:∀ {o:Nat} {t':TypeId} {n:Nat},iY E.P t f = some (o,t',n) -> 0 < n -> ∀ b o',(Instr.fieldAt t (.pointer (some ⟨b,o',none⟩)) f).run E.P w = .ok (.pointer (some ⟨b,o' + o,none⟩)) w:=by
   intro o t' n hf hn b o'
   obtain ⟨fields,fd,z,by',hu,hfd,rfl,rfl,hti⟩:=FX hf
   have:¬ n = 0:=by omega
   simp [Instr.fieldAt,run_underlying hu,hfd,Instr.sureAddr,fieldPlace,jv hti,this,toAdd]
 split at h
 · rename_i o t' n cs hf hx
   obtain ⟨hn,hK⟩:=h
   have hp:=(inv.oper (ds:=ds) hx).l7
   generalize Act.eval ⟨tm,ds⟩ x = u at hp
   cases hp with
   | fO uu hM hxx =>
     refine ⟨_,_,run hf hn _ _,hK,.pure (.fO (fun j=>uu (o + j)) (fun j c hj=>?_) (fun j c hj=>?_))⟩
     · rw [List.getElem?_drop] at hj;rw [Nat.add_assoc];exact hM _ c hj
     · rw [List.getElem?_drop] at hj;exact hxx _ c hj
 · rename_i o t' n r v i o' hf hx
   obtain ⟨hn,hK⟩:=h
   obtain ⟨L,e1,hL,hN⟩:=(inv.oper (ds:=ds) hx).qj
   rw [e1]
   refine ⟨_,_,run hf hn _ _,hK,?_⟩
   rw [Nat.add_assoc];exact .ptr hL hN
 · exact h.elim
theorem CV {n:Nat}:∀ {ys:List AV} {vs:List Value} {es:List (List AV)},vs.length = ys.length -> (∀ (i:Nat) (x:AV) (v:Value),ys[i]? = some x -> vs[i]? = some v -> cZ M x v) -> oO n ys = some es ->
   es.length = ys.length /\ (∀ (i:Nat) (e:List AV),es[i]? = some e -> e.length = n) /\
   ∀ (i:Nat) (e:List AV) (v:Value),es[i]? = some e -> vs[i]? = some v -> v.cells.size = n /\ (∀ (j:Nat) (u:Value),v.cells[j]? = some u -> u.oneCell' = true) /\
     ∀ (j:Nat) (x:AV) (u:Value),e[j]? = some x -> v.cells[j]? = some u -> cZ M x u
 | [],vs,es,hl,_,h=>by
   simp only [oO,Option.some.injEq] at h;subst h
   exact ⟨rfl,fun i e h=>by simp at h,fun i e v h=>by simp at h⟩
 | y :: ys,vs,es,hl,hr,h=>by
   match vs,hl with
   | v :: vs',hl =>
     simp only [oO] at h
     split at h
     · rename_i cs l hc hl'
       split at h
       · rename_i hn
         obtain rfl:=Option.some.inj h
         obtain ⟨a1,a2,a3⟩:=CV (vs:=vs') (by simpa using hl) (fun i x v hx hv=>hr (i + 1) x v (by simpa using hx) (by simpa using hv)) hl'
         have hy:=hr 0 y v rfl rfl
         have hcr:=iL (J:=fun _=>none) (.pure hy) hc
         refine ⟨by simp [a1],fun i e he=>?_,fun i e u he hu=>?_⟩
         · cases i with
           | zero=>simp at he;subst he;exact hn
           | succ i=>exact a2 i e (by simpa using he)
         · cases i with
           | zero =>
             simp at he hu;subst he;subst hu
             refine ⟨by rw [hcr.1,hn],hcr.2.1,fun j x u hx hu=>?_⟩
             have:=hcr.2.2 j x u hx hu
             cases this with
             | pure h=>exact h
             | agg hn' h1 h =>
               rename_i cs' vs''
               exact absurd (hcr.2.1 j _ hu) (by simp [Value.oneCell'])
             | dM hn' h=>exact absurd (hcr.2.1 j _ hu) (by simp [Value.oneCell'])
             | clo hn' hm h h' => 
               cases hy with
               | v=>simp only [cellsOf] at hc;split at hc <;> simp at hc;subst hc;cases j <;> simp at hx
               | agg hn2 h12 h2 =>
                 simp only [cellsOf,Option.some.injEq] at hc;subst hc
                 have:=h2 j _ _ hx (by simpa [Value.cells] using hu);exact this
               | dM=>simp [cellsOf] at hc
               | lst=>simp only [cellsOf,Option.some.injEq] at hc;subst hc;cases j <;> simp at hx
               | fO=>simp only [cellsOf,Option.some.injEq] at hc;subst hc;cases j <;> simp at hx
               | clo hn2 hm2 h2 h2' =>
                 simp only [cellsOf,Option.some.injEq] at hc;subst hc
                 cases j with
                 | zero =>
                   simp at hx;obtain ⟨rfl,rfl,rfl⟩:=hx
                   simp [Value.cells] at hu;obtain ⟨rfl,rfl,rfl⟩:=hu
                   exact .clo hn2 hm2 h2 h2'
                 | succ j=>simp at hx
             | own hL _ _ _ _=>cases hL
             | ptr hL _=>cases hL
           | succ i=>exact a3 i e u (by simpa using he) (by simpa using hu)
       · cases h
     · cases h
theorem Ap {J:bJ} {n:Nat}:∀ {ys:List AV} {vs:List Value} {es:List (List AV)},vs.length = ys.length -> (∀ (i:Nat) (x:AV) (v:Value),ys[i]? = some x -> vs[i]? = some v -> Rel M J x v) -> oO n ys = some es ->
   es.length = ys.length /\ (∀ (i:Nat) (e:List AV),es[i]? = some e -> e.length = n) /\
   ∀ (i:Nat) (e:List AV) (v:Value),es[i]? = some e -> vs[i]? = some v -> v.cells.size = n /\ (∀ (j:Nat) (u:Value),v.cells[j]? = some u -> u.oneCell' = true) /\
     ∀ (j:Nat) (x:AV) (u:Value),e[j]? = some x -> v.cells[j]? = some u -> Rel M J x u
 | [],vs,es,hl,_,h=>by
   simp only [oO,Option.some.injEq] at h;subst h
   exact ⟨rfl,fun i e h=>by simp at h,fun i e v h=>by simp at h⟩
 | y :: ys,vs,es,hl,hr,h=>by
   match vs,hl with
   | v :: vs',hl =>
     simp only [oO] at h
     split at h
     · rename_i cs l hc hl'
       split at h
       · rename_i hn
         obtain rfl:=Option.some.inj h
         obtain ⟨a1,a2,a3⟩:=Ap (vs:=vs') (by simpa using hl) (fun i x v hx hv=>hr (i + 1) x v (by simpa using hx) (by simpa using hv)) hl'
         have hy:=hr 0 y v rfl rfl
         have hcr:=iL hy hc
         refine ⟨by simp [a1],fun i e he=>?_,fun i e u he hu=>?_⟩
         · cases i with
           | zero=>simp at he;subst he;exact hn
           | succ i=>exact a2 i e (by simpa using he)
         · cases i with
           | zero =>
             simp at he hu;subst he;subst hu
             exact ⟨by rw [hcr.1,hn],hcr.2.1,hcr.2.2⟩
           | succ i=>exact a3 i e u (by simpa using he) (by simpa using hu)
       · cases h
     · cases h
end
section
variable {E:Env} {M0:qV} {w0:World} {c:Nat} {M:Mem} {J:bJ} {s:St} {tm:Array Value} {w:World} {K:AV -> St -> Prop} {ds:List Deferred} {nm ver:Nat}
theorem Rel.Qc {M:Mem} {x:AV} {v:Value} (h:Rel M (fun _=>none) x v):cZ M x v:=by
 have key:∀ {J:bJ},(∀ r,J r = none) -> Rel M J x v -> cZ M x v:=by
   clear h
   intro J hJ h
   induction h with
   | pure h=>exact h
   | agg hn h1 _ ih=>exact .agg hn h1 ih
   | dM hn _ ih=>exact .dM hn ih
   | clo hn hm _ _ ih ih'=>exact .clo hn hm ih ih'
   | own hL=>rw [hJ] at hL;cases hL
   | ptr hL=>rw [hJ] at hL;cases hL
 exact key (fun _=>rfl) h
theorem KC (inv:Inv E M0 w0 c M J s tm w) (hv:c <= ver) {a:AV} {u:Value} {cs:List AV} {t:TypeId} (hr:Rel M J a u) (hc:cellsOf a = some cs) (hnm:get s.hp nm = none) :
   ∃ J',iG J J' /\ Inv E M0 w0 (ver + 1) M J' (s.new nm ver cs.length t true [cs]) tm (w.alloc (.cells u.cells t)) /\ Rel M J' (.ptr nm ver 0 0) (.pointer (some ⟨w.heap.size,0,none⟩)):=by
 obtain ⟨h1,h2,h3⟩:=iL hr hc
 obtain ⟨J',hJ,hJ',hI⟩:=inv.new (es:=[cs]) (ty:=t) (box:=true) (sz:=cs.length) (C:=u.cells) (cap:=1) hnm hv (by rw [h1];omega) (by simp)
   (fun i e he=>by cases i with | zero=>simp at he;subst he;rfl | succ i=>simp at he)
   (fun i e j x he hx=>by
     cases i with
     | zero =>
       simp at he;subst he
       have hj:=(List.getElem?_eq_some_iff.1 hx).1
       obtain ⟨v,hv'⟩:∃ v,u.cells[j]? = some v:=⟨_,Array.getElem?_eq_getElem (by omega)⟩
       exact ⟨v,by rw [Nat.zero_mul,Nat.zero_add];exact hv',h2 j v hv',h3 j x v hx hv'⟩
     | succ i=>simp at he) (by unfold maxLen;omega)
 refine ⟨J',hJ,hI,?_⟩
 have:=Rel.ptr (M:=M) (r:=nm) (i:=0) (o:=0) hJ' rfl
 simpa using this
theorem Gj (n:Nat) (hn:0 < n):∀ (vs:List Value) (k:Nat) (C:Array Value),(∀ (i:Nat) (v:Value),vs[i]? = some v -> v.cells.size = n) -> (k + vs.length) * n <= C.size ->
   ∃ C',Instr.fill (fun i=>some (i * n,n)) C ((vs.zipIdx k).map fun p=>(p.2,p.1)) = some C' /\ C'.size = C.size /\ (∀ o:Nat,o < k * n -> C'[o]? = C[o]?) /\
     (∀ (i j:Nat) (v:Value),vs[i]? = some v -> j < n -> C'[(k + i) * n + j]? = v.cells[j]?)
 | [],k,C,_,_=>⟨C,rfl,rfl,fun _ _=>rfl,fun i j v h=>by simp at h⟩
 | v :: vs,k,C,hs,hl=>by
   have hv:=hs 0 v rfl
   have he:(v.cells.zipIdx.foldl (fun cs (c,j)=>cs.setIfInBounds (k * n + j) c) C) = ((v.cells.toList.zipIdx 0).foldl (fun cs p=>cs.setIfInBounds (k * n + p.2) p.1) C):=by
     rw [<- Array.foldl_toList,Array.toList_zipIdx]
   simp only [List.length_cons] at hl
   have hkn:(k + 1) * n <= (k + (vs.length + 1)) * n:=Nat.mul_le_mul_right _ (by omega)
   have hk1:(k + 1) * n = k * n + n:=by rw [Nat.add_mul,Nat.one_mul]
   obtain ⟨f1,f2⟩:=foldl_set (k * n) v.cells.toList 0 C (by simp [hv];omega)
   obtain ⟨C',g1,g2,g4,g3⟩:=Gj n hn vs (k + 1) ((v.cells.toList.zipIdx 0).foldl (fun cs p=>cs.setIfInBounds (k * n + p.2) p.1) C) (fun i u hu=>hs (i + 1) u (by simpa using hu)) (by rw [f1];rw [show k + 1 + vs.length = k + (vs.length + 1) by omega];exact hl)
   refine ⟨C',?_,by rw [g2,f1],fun o ho=>?_,fun i j u hu hj=>?_⟩
   · simp only [List.zipIdx_cons,List.map_cons,Instr.fill]
     rw [if_neg (by simp [hv];omega),he];exact g1
   · rw [g4 o (by omega),f2 o,if_neg (by omega)]
   · cases i with
     | zero =>
       simp at hu;subst hu
       rw [Nat.add_zero,g4 _ (by omega),f2,if_pos (by simp [hv];omega)]
       rw [Nat.add_zero,Nat.add_sub_cancel_left];simp
     | succ i =>
       have:=g3 i j u (by simpa using hu) hj
       rw [show k + 1 + i = k + (i + 1) by omega] at this
       exact this
def Plain (op:Op):Prop:=(∀ f,op ≠ .call f) /\ (∀ t a b,op ≠ .store t a b)
theorem aad{G:Prop}(h:G:=by
 have hparts:(parts.toList.map fun (i,x)=>(i,Act.eval ⟨tm,ds⟩ x)) = ((parts.toList.map fun p=>Act.eval ⟨tm,ds⟩ p.2).zipIdx 0).map fun p=>(p.2,p.1):=by
   apply List.ext_getElem?
   intro k
   simp only [List.getElem?_map,List.getElem?_zipIdx]
   cases hk:parts.toList[k]? with
   | none=>rfl
   | some p =>
     have hkl:k < l.length:=by rw [h1];exact (List.getElem?_eq_some_iff.1 hk).1
     obtain ⟨o',ho',_⟩:=h2 k (l[k]).1 (l[k]).2 (List.getElem?_eq_getElem hkl)
     have hf:=ahw k hkl
     rw [List.getElem?_eq_getElem hkl] at hf
     simp at hf
     rw [hk] at ho'
     obtain ⟨a,b⟩:=p
     simp at ho' ⊢
     rw [ho'.1,hf]
 obtain ⟨C,hC,hCs,_,UD⟩:=Gj n hn0 (parts.toList.map fun p=>Act.eval ⟨tm,ds⟩ p.2) 0 ((Array.range (len * n)).map (z.cells[· % z.cells.size]!)) (fun k v hv=>by
   have hk:=(List.getElem?_eq_some_iff.1 hv).1
   exact (e3 k _ v (List.getElem?_eq_getElem (by rw [acW];simp at hk;omega)) hv).1) (by simp [hpl])
 have hrun:(Instr.buildSlice t len (parts.map fun (i,x)=>(i,Act.eval ⟨tm,ds⟩ x))).run E.P w = .ok (.slice (some ⟨w.heap.size,0,none⟩) len len) (w.alloc (.cells C e)):=by
   have h24:¬ (len * n > 2 ^ 24):=by rw [Nat.mul_comm];omega
   simp only [Instr.buildSlice,Sem.run_bind,run_underlying hu,Result.andThen_ok,jv hti]
   rw [if_neg h24]
   by_cases h0:len * n = 0
   · have hl0:len = 0:=by rcases Nat.mul_eq_zero.1 h0 with h | h <;> omega
     subst hl0
     have hp0:parts = #[]:=by
       have:parts.toList.length = 0:=by rw [<- h1,hlen]
       simpa using this
     subst hp0
     simp [Instr.fill,newRow] at hC ⊢
     subst hC
     have:∀ f:Nat -> Value,(Array.range 0).map f = #[]:=by intro f;apply Array.eq_empty_of_size_eq_zero;simp
     rw [this,this]
   · rw [if_neg h0]
     have hC':Instr.fill (fun i=>some (i * n,n)) ((Array.range (len * n)).map (z.cells[· % z.cells.size]!)) (parts.map fun (i,x)=>(i,Act.eval ⟨tm,ds⟩ x)).toList = some C:=by
       rw [Array.toList_map,hparts];exact hC
     have hC2:Instr.fill (fun i=>some (i * n,n)) ((Array.range (len * n)).map (z.cells[· % z.cells.size]!)) (parts.toList.map fun x=>(x.fst,Act.eval ⟨tm,ds⟩ x.snd)) = some C:=by
       rw [Array.toList_map] at hC';exact hC'
     simp [Ak hti,hC2,newRow]
 all_goals(rcases(⟨_⟩:PLift _)with⟨h⟩;exact h)):G:=h
theorem aa3{G:Prop}(h:G:=by
 have hi:=(List.getElem?_eq_some_iff.1 he).1
 obtain ⟨v,hv'⟩:∃ v,(parts.toList.map fun p=>Act.eval ⟨tm,ds⟩ p.2)[i]? = some v:=⟨_,List.getElem?_eq_getElem (by rw [hvl,<- e1];exact hi)⟩
 obtain ⟨c1,c2,c3⟩:=e3 i e v he hv'
 have hj:j < n:=by rw [<- e2 i e he];exact (List.getElem?_eq_some_iff.1 hx).1
 obtain ⟨u,hu'⟩:∃ u,v.cells[j]? = some u:=⟨_,Array.getElem?_eq_getElem (by omega)⟩
 all_goals(rcases(⟨_⟩:PLift _)with⟨h⟩;exact h)):G:=h
theorem ac0{G:Prop}(h:G:=by
 simp only [Array.getElem?_map,Option.map_eq_some_iff] at hv
 obtain ⟨o2,ho2,rfl⟩:=hv
 rw [Array.getElem?_toList] at ho';rw [ho'] at ho2;obtain rfl:=Option.some.inj ho2
 exact hr):G:=h
theorem ady{G:Prop}(h:G:=by
 rw [List.getElem?_map,Option.map_eq_some_iff] at hx
 obtain ⟨⟨j,x'⟩,hx,rfl⟩:=hx
 obtain ⟨o',ho',hr⟩:=h2 i j x' hx
 rw [List.getElem?_map,ho'] at hv
 all_goals(rcases(⟨_⟩:PLift _)with⟨h⟩;exact h)):G:=h
theorem Qd (inv:Inv E M0 w0 c M J s tm w) (hv:c <= ver) {o:Oper} (ho:Plain o.op) (h:pY E nm ver o.op s K) :
   Goes E M0 w0 c s.ctr ver M J tm ((execOp (Act.eval ⟨tm,ds⟩) o).run E.P w) K:=by
 have here:∀ {v:Value} {x:AV},K x s -> Rel M J x v -> Goes E M0 w0 c s.ctr ver M J tm (.ok (.value v) w) K:=fun hk hr=>Goes.here inv hk hr
 unfold execOp
 cases hop:o.op <;> simp only [hop] at h ho ⊢ <;> try (simp only [pY] at h)
 case move x =>
   split at h
   · rename_i a hx;exact here h (inv.oper hx)
   · exact h.elim
 case assign x =>
   split at h
   · rename_i a hx;exact here h (inv.oper hx)
   · exact h.elim
 case pick cc a b =>
   split at h
   · rename_i t hx
     have hc:=(inv.oper (ds:=ds) hx).bZ
     rw [hc]
     cases t with
     | true =>
       have h:=h.1 rfl
       split at h
       · rename_i x hx';simpa [asBool] using here h (inv.oper (ds:=ds) hx')
       · exact h.elim
     | false =>
       have h:=h.2 rfl
       split at h
       · rename_i x hx';simpa [asBool] using here h (inv.oper (ds:=ds) hx')
       · exact h.elim
   · exact h.elim
 case alloc t =>
   split at h
   · rename_i z n b hti
     split at h
     · rename_i cs hc
       obtain ⟨hnm,hk⟩:=h
       obtain ⟨J',hJ,hI,hr⟩:=KC inv hv (t:=t) (vZ M J z) hc hnm
       exact ⟨_,_,M,J',_,_,_,by simp [Instr.alloc,Ak hti,newVar,newRow],hk,hI,hr,Sub.refl M,hJ,.inr ⟨rfl,rfl⟩⟩
     · exact h.elim
   · exact h.elim
 case box t x =>
   split at h
   · rename_i a hx
     split at h
     · rename_i cs hc
       obtain ⟨hnm,hk⟩:=h
       obtain ⟨J',hJ,hI,hr⟩:=KC inv hv (t:=t) (inv.oper (ds:=ds) hx) hc hnm
       exact ⟨_,_,M,J',_,_,_,by simp [Instr.box,newVar,newRow],hk,hI,hr,Sub.refl M,hJ,.inr ⟨rfl,rfl⟩⟩
     · exact h.elim
   · exact h.elim
 case build t parts =>
   split at h
   · rename_i z places l hl hp
     split at h
     · rename_i cs hf
       obtain ⟨i,zs,hi,hz,rfl,hone,hb⟩:=MF hl
       obtain ⟨h1,h2⟩:=xX inv (ds:=ds) hp
       have hget:∀ (k j:Nat) (x:AV),l[k]? = some (j,x) -> ∃ v,(parts.toList.map fun (i,x)=>(i,Act.eval ⟨tm,ds⟩ x))[k]? = some (j,v) /\ Rel M J x v:=by
         intro k j x hx
         obtain ⟨o',ho',hr⟩:=h2 k j x hx
         exact ⟨_,by rw [List.getElem?_map,ho'];rfl,hr⟩
       obtain ⟨C,hC,hrow⟩:=FU (M:=M) (J:=J) (ps:=parts.toList.map fun (i,x)=>(i,Act.eval ⟨tm,ds⟩ x)) (by simp [h1]) hget (MC zs hone) hf
       have hlt:∀ p ∈ (parts.toList.map fun (i,x)=>(i,Act.eval ⟨tm,ds⟩ x)),p.1 < places.length:=by
         intro p hp'
         obtain ⟨k,hk⟩:=List.getElem?_of_mem hp'
         have hkl:k < l.length:=by rw [h1];have:=(List.getElem?_eq_some_iff.1 hk).1;simpa using this
         obtain ⟨v,hv',_⟩:=hget k (l[k]).1 (l[k]).2 (List.getElem?_eq_getElem hkl)
         rw [hk] at hv';obtain rfl:=Option.some.inj hv'
         have:=FV hf (l[k]) (List.getElem_mem hkl)
         simp only [ne_eq,List.getElem?_eq_none_iff,Nat.not_le] at this
         exact this
       have hrun:=run_build (P:=E.P) w t (parts.map fun (i,x)=>(i,Act.eval ⟨tm,ds⟩ x)) C (by
         have:=hb (parts.toList.map fun (i,x)=>(i,Act.eval ⟨tm,ds⟩ x)) C hC hlt
         simpa using this)
       rw [Sem.run_bind,hrun]
       exact here h (.agg hrow.1 hrow.2.1 hrow.2.2)
     · exact h.elim
   · exact h.elim
 case buildSlice t len parts =>
   split at h
   · rename_i e z n by' l hs hp
     obtain ⟨⟨acX,hn0,hidx,hzs⟩,hpu⟩:=h
     refine' Yk
     obtain ⟨h1,h2⟩:=xX inv (ds:=ds) hp
     have ahw:∀ k,k < l.length -> (l[k]?).map Prod.fst = some k:=by
       intro k hk
       have:(l.map Prod.fst)[k]? = (List.range len)[k]?:=by rw [hidx]
       rw [List.getElem?_map] at this
       rw [this,List.getElem?_range]
       have:(l.map Prod.fst).length = (List.range len).length:=by rw [hidx]
       simp at this;omega
     have hlen:l.length = len:=by
       have:(l.map Prod.fst).length = (List.range len).length:=by rw [hidx]
       simpa using this
     rcases hpu with hpu | ⟨es,hes,hnm,hK⟩
     · obtain ⟨ys,s1,M1,hK,hs1,i1,hyl,hyr⟩:=Inv.nP (l.map Prod.snd) (vs:=parts.toList.map fun p=>Act.eval ⟨tm,ds⟩ p.2) inv (by simp [h1]) (fun i x v hx hv=>by
         refine' ady
         simp at hv;subst hv;exact hr) hpu
       split at hK
       case h_2=>exact hK.elim
       rename_i es hes
       obtain ⟨hnm,hK⟩:=hK
       have hpl:parts.size = len:=by rw [<- hlen,h1];simp
       have hvl:(parts.toList.map fun p=>Act.eval ⟨tm,ds⟩ p.2).length = ys.length:=by simp [hyl,h1]
       obtain ⟨e1,e2,e3⟩:=CV hvl hyr hes
       have acW:es.length = len:=by rw [e1,hyl,List.length_map,hlen]
       refine' aad
       obtain ⟨J',hJ,hJ',hI⟩:=i1.new (nm:=nm) (ver:=ver) (es:=es) (ty:=e) (box:=false) (sz:=n) (C:=C) (cap:=len) hnm hv (by rw [hCs];simp) (by omega) e2 (fun i e j x he hx=>by
           refine' aa3
           refine ⟨u,?_,c2 j u hu',by unfold dh;simpa using c3 j x u hx hu'⟩
           have:=UD i j v (by simpa using hv') hj
           rw [Nat.zero_add] at this
           rw [this];exact hu') (by unfold maxLen;have:len <= n * len:=Nat.le_mul_of_pos_left _ hn0;have:=Nat.le_trans this acX;omega)
       rw [Sem.run_bind,hrun]
       refine ⟨_,_,M1,J',_,_,_,rfl,hK,hI,.own hJ' (by show 0 + len <= len;omega) (fun h=>by simp at h) (fun _ _=>by simp) (by simp),hs1,hJ,.inr ⟨rfl,rfl⟩⟩
     · have hpl:parts.size = len:=by rw [<- hlen,h1];simp
       have hvl:(parts.toList.map fun p=>Act.eval ⟨tm,ds⟩ p.2).length = (l.map Prod.snd).length:=by simp [h1]
       obtain ⟨e1,e2,e3⟩:=Ap (M:=M) (J:=J) hvl (fun i x v hx hv=>by
         refine' ady
         simp at hv;subst hv;exact hr) hes
       have acW:es.length = len:=by rw [e1,List.length_map,hlen]
       refine' aad
       obtain ⟨J',hJ,hJ',hI⟩:=inv.new (nm:=nm) (ver:=ver) (es:=es) (ty:=e) (box:=true) (sz:=n) (C:=C) (cap:=len) hnm hv (by rw [hCs];simp) (by omega) e2 (fun i e j x he hx=>by
           refine' aa3
           refine ⟨u,?_,c2 j u hu',by unfold dh;rw [if_pos rfl];exact (c3 j x u hx hu').mono (Sub.refl M) (iG.refl J)⟩
           have:=UD i j v (by simpa using hv') hj
           rw [Nat.zero_add] at this
           rw [this];exact hu') (by unfold maxLen;have:len <= n * len:=Nat.le_mul_of_pos_left _ hn0;have:=Nat.le_trans this acX;omega)
       rw [Sem.run_bind,hrun]
       refine ⟨_,_,M,J',_,_,_,rfl,hK,hI,.own hJ' (by show 0 + len <= len;omega) (fun h=>by simp at h) (fun _ _=>by simp) (by simp)  , Sub.refl M,hJ,.inr ⟨rfl,rfl⟩⟩
   · exact h.elim
 case load t p =>
   split at h
   · rename_i a hx
     split at h
     · rename_i cs hc
       split at h
       · rename_i y hy
         obtain ⟨v,hr,hv'⟩:=FY inv (inv.oper (ds:=ds) hx) hc hy
         simpa [hr] using here h hv'
       · exact h.elim
     · exact h.elim
   · exact h.elim
 case nilCheck x =>
   split at h
   · exact h.elim
   · exact h.elim
   · exact h.elim
   · rename_i a _ _ _ hx
     obtain ⟨hp,hk⟩:=h
     have hr:=inv.oper (ds:=ds) hx
     have:∃ ad,Act.eval ⟨tm,ds⟩ x = .pointer (some ad):=by
       generalize Act.eval ⟨tm,ds⟩ x = u at hr
       cases a <;> simp [vW] at hp
       · have:=hr.l7;cases this;exact ⟨_,rfl⟩
       · obtain ⟨L,rfl,_⟩:=hr.qj;exact ⟨_,rfl⟩
     obtain ⟨ad,e⟩:=this
     rw [e] at hr ⊢
     exact here hk hr
   · exact h.elim
 case binOp op t x y t' =>
   split at h
   · rename_i a b hx hy
     obtain ⟨r,h1,h2,h3⟩:=Qa (P:=E.P) (X:=x) (Y:=y) (inv.oper (ds:=ds) hx) (inv.oper (ds:=ds) hy) h w
     rw [Sem.run_bind,h1]
     exact here h2 (.pure (.v r))
   · exact h.elim
 case unOp op t x =>
   split at h
   · rename_i b hx
     rw [(inv.oper (ds:=ds) hx).bZ]
     simpa [Op.unary] using here h (.pure (.v _))
   · rename_i k n hx
     rw [(inv.oper (ds:=ds) hx).bZ]
     simpa [Op.unary,Op.intArith] using here h (.pure (.v _))
   · exact h.elim
 case convert src dst x =>
   split at h
   · rename_i a hx
     rcases h with h | h
     · obtain ⟨v,w',M',y,h1,h2,h3,h4,h5⟩:=Qb inv (inv.oper (ds:=ds) hx) h
       exact ⟨v,w',M',J,y,s,c,by rw [Sem.run_bind,h1];rfl,h2,h4,.pure h5,h3,iG.refl J,.inl ⟨rfl,rfl⟩⟩
     · unfold P6 at h
       split at h
       · rename_i r v off len
         split at h
         · rename_i k hk
           obtain ⟨rfl,h0,hv',hbx,hlen,⟨e,hs,he⟩,h⟩:=h
           have hr:=inv.oper (ds:=ds) hx
           generalize hev:Act.eval ⟨tm,ds⟩ x = u at hr
           have hp1:iE s deep (.own r v off len) = some (.lst k.sz ((k.es.drop off).take len)):=by
             simp only [deep,iE,hk];rw [if_pos ⟨hv',hlen,hbx⟩]
           obtain ⟨y',s1,M1,⟨rfl,rfl⟩,hsb,i1,hpr,hcc⟩:=inv.pure (K:=fun y' s'=>y' = .lst k.sz ((k.es.drop off).take len) /\ s' = s.freeze (reads deep (.own r v off len))) hr (by unfold St.pure;rw [hp1];exact ⟨rfl,rfl⟩)
           have hfz:s.freeze (reads deep (.own r v off len)) = { s with hp:=set s.hp r { k with fH:=max k.fH (min (off + len) k.es.length) } }:=by
             simp only [deep,reads,St.freeze,hk]
           rw [hfz] at i1
           have hgs:∀ r',get (set s.hp r { k with fH:=max k.fH (min (off + len) k.es.length) }) r' = if r' = r then some { k with fH:=max k.fH (min (off + len) k.es.length) } else get s.hp r':=fun r'=>nS _ _ _ _ _ hk
           obtain ⟨L,C,hL,hb,ok⟩:=inv.heap r k hk
           have hn:L.nil = false:=by
             cases hn:L.nil with
             | false=>rfl
             | true=>have:=ok.none hn;have:=ok.fits;omega
           have i2:=i1.mark (r:=r) (k:={ k with fH:=max k.fH (min (off + len) k.es.length) }) (L:=L) (C:=C) (hp':=Iz r s.hp) (by show get (set s.hp r _) r = _;rw [hgs,if_pos rfl]) hL hn (ok.blk hn) (fun r' k' h'=>by
             obtain ⟨g1,g2⟩:=Aj r s.hp r' k' h'
             exact ⟨g1,by show get (set s.hp r _) r' = _;rw [hgs,if_neg g1];exact g2⟩)
           have hrun:(convert src src u).run E.P w = .ok u (w.freeze ⟨L.b,C.size,none⟩ 1):=by
             cases hr with
             | pure hp=>cases hp
             | own hL' hl hN hA hc =>
               rw [<- hv',hL] at hL';obtain rfl:=Option.some.inj hL'
               have hz:0 < k.sz ∨ k.sz = 0:=by omega
               have hfit:=ok.fits
               obtain rfl:=hA hn (by omega)
               have hsh:w.shape? L.b = some (k.ty,C.size):=by
                 unfold World.shape?;rw [ok.blk hn]
               simp [convert,run_underlying hs,run_underlying he,markStringish,hsh]
           exact ⟨u,_,M1,J,_,_,c,by rw [Sem.run_bind,hrun];rfl,h,i2,.pure hpr,hsb,iG.refl J,.inl ⟨rfl,rfl⟩⟩
         · exact h.elim
       · exact h.elim
   · exact h.elim
 case makeFunc fn first caps =>
   split at h
   · rename_i a b ha hb
     obtain ⟨a1,a2⟩:=sU inv (ds:=ds) ha
     obtain ⟨b1,b2⟩:=sU inv (ds:=ds) hb
     refine here h (.clo (by simp [a1]) (by simp [b1]) (fun i x v hx hv=>?_) (fun i x v hx hv=>?_))
     · obtain ⟨o',ho',hr⟩:=a2 i x hx
       refine' ac0
     · obtain ⟨o',ho',hr⟩:=b2 i x hx
       refine' ac0
   · exact h.elim
 case fieldAddr t x f =>
   have h':pY E nm ver (.fieldAddr t x f) s K:=by simp only [pY];exact h
   obtain ⟨v,y,h1,h2,h3⟩:=Gi inv (ds:=ds) h'
   rw [Sem.run_bind,h1];exact here h2 h3
 case field t x f =>
   split at h
   · rename_i o' t' n cs hf hx
     split at h
     · rename_i y hy
       obtain ⟨fields,fd,z,b,hu,hfd,ho',ht',hti⟩:=FX hf
       obtain ⟨vs,e1,hn,h1,h2⟩:=(inv.oper (ds:=ds) hx).vY
       obtain ⟨v,h3,h4⟩:=FZ (E:=E) hn h1 h2 hy w
       rw [e1]
       subst ho';subst ht'
       simpa [Instr.field,run_underlying hu,hfd,asAgg,h3] using here h h4
     · exact h.elim
   · exact h.elim
 case indexAddr t x i =>
   have h':pY E nm ver (.indexAddr t x i) s K:=by simp only [pY];exact h
   obtain ⟨v,y,h1,h2,h3⟩:=Gg inv (ds:=ds) h'
   rw [Sem.run_bind,h1];exact here h2 h3
 case index t x i =>
   split at h
   · rename_i b k n hu hx hi
     obtain ⟨h0,hlt,hk⟩:=h
     rw [(inv.oper (ds:=ds) hi).bZ,(inv.oper (ds:=ds) hx).bZ]
     have hb:b[n.toNat]? = some (b[n.toNat]'hlt):=ByteArray.getElem?_lt' b _ hlt
     simpa [Instr.index,asIntOf,run_underlying hu,h0,hb] using here hk (.pure (.v _))
   · rename_i cs k n hstr hx hi
     split at h
     · rename_i m e sz hs
       obtain ⟨h0,h1,h⟩:=h
       split at h
       · rename_i y hy
         obtain ⟨hu,z,b,hti⟩:=Am hs
         obtain ⟨vs,e1,hn,h2,h3⟩:=(inv.oper (ds:=ds) hx).vY
         obtain ⟨v,h4,h5⟩:=FZ (E:=E) hn h2 h3 hy w
         rw [(inv.oper (ds:=ds) hi).bZ,e1]
         simpa [Instr.index,asIntOf,run_underlying hu,h0,h1,jv hti,h4] using here h h5
       · exact h.elim
     · exact h.elim
   · exact h.elim
 case extract x i =>
   split at h
   · rename_i xs hx
     split at h
     · rename_i a ha
       obtain ⟨vs,e1,hn,h2⟩:=(inv.oper (ds:=ds) hx).KA
       have hlt:i < vs.size:=by rw [hn];exact (List.getElem?_eq_some_iff.1 ha).1
       rw [e1]
       simpa [Instr.extract,Array.getElem?_eq_getElem hlt] using here h (h2 i a _ ha (Array.getElem?_eq_getElem hlt))
     · exact h.elim
   · exact h.elim
 case slice t x lo hi mx =>
   split at h
   · rename_i a l hh m hx hl hh' hm
     obtain ⟨k1,e1⟩:=Eu inv (ds:=ds) hl
     obtain ⟨k2,e2⟩:=Eu inv (ds:=ds) hh'
     obtain ⟨k3,e3⟩:=Eu inv (ds:=ds) hm
     obtain ⟨v,y,h1,h2,h3⟩:=F9 inv (k1:=k1) (k2:=k2) (k3:=k3) (inv.oper (ds:=ds) hx) h
     rw [e1,e2,e3,Sem.run_bind,h1];exact here h2 h3
   · exact h.elim
 case makeSlice t l cp =>
   split at h
   · rename_i e z n by' a b hs hl hc
     split at h
     · rename_i cs hcs
       obtain ⟨rfl,h0,h1,h2,h3,h4,h5,hk⟩:=h
       refine' Yk
       obtain ⟨i,hi,hiz,his,hib⟩:=nR hti
       rw [(inv.oper (ds:=ds) hl).bZ,(inv.oper (ds:=ds) hc).bZ]
       obtain ⟨c1,c2,c3⟩:=iL (vZ M J z) hcs
       have hz:z.cells.size = n:=by rw [c1,h4]
       have hw:IntKind.i64.wrap b = b:=by
         unfold maxLen at h1
         simp only [IntKind.wrap,IntKind.signed,IntKind.bits]
         simp;omega
       have hb48:¬ ((by':Int) * b > 2 ^ 48):=by rw [Int.mul_comm];omega
       have hrun:(Instr.makeSlice t (.int .i64 b) (.int .i64 b)).run E.P w = .ok (.slice (some ⟨w.heap.size,0,none⟩) b.toNat b.toNat)
           (w.alloc (.cells ((Array.range (b.toNat * n)).map (z.cells[· % z.cells.size]!)) e)):=by
         have hneg:¬ (b < 0):=by omega
         simp only [Instr.makeSlice,Sem.run_bind,run_underlying hu,Result.andThen_ok,asInt,asIntOf,Sem.run_pure,typeInfo,run_program,hi,hib,hw]
         rw [if_neg (by simp only [Bool.or_eq_true,decide_eq_true_eq,gt_iff_lt,not_or];exact ⟨⟨⟨hneg,by omega⟩,hneg⟩,by omega⟩)]
         simp only [Sem.run_bind,run_askRoom,Result.andThen_ok,jv hti]
         by_cases hb0:b.toNat * n = 0
         · have:∀ f:Nat -> Value,(Array.range 0).map f = #[]:=by intro f;apply Array.eq_empty_of_size_eq_zero;simp
           rw [hb0];simp only [if_true,newRow,Sem.run_bind,Sem.run_pure,Result.andThen_ok,run_newObj,this];rfl
         · rw [if_neg hb0];simp [Ak hti,newRow]
       have hget:∀ i j,i < b.toNat -> j < n -> ((Array.range (b.toNat * n)).map (z.cells[· % z.cells.size]!))[i * n + j]? = z.cells[j]?:=by
         intro i j hi' hj
         have hlt:i * n + j < b.toNat * n:=by
           have:(i + 1) * n <= b.toNat * n:=Nat.mul_le_mul_right _ hi'
           refine' afu
         have hmod:(i * n + j) % n = j:=by rw [Nat.add_comm,Nat.add_mul_mod_self_right,Nat.mod_eq_of_lt hj]
         rw [Array.getElem?_map,Array.getElem?_range,if_pos hlt]
         simp only [Option.map_some]
         rw [hz,hmod,getElem!_pos z.cells j (by omega),Array.getElem?_eq_getElem (by omega)]
       obtain ⟨J',hJ,hJ',hI⟩:=inv.new (nm:=nm) (ver:=ver) (es:=List.replicate b.toNat cs) (ty:=e) (box:=false) (sz:=n) (C:=(Array.range (b.toNat * n)).map (z.cells[· % z.cells.size]!)) (cap:=b.toNat)
         h5 hv (by simp) (by simp) (fun i e he=>by
           rw [List.getElem?_replicate] at he
           split at he
           · obtain rfl:=Option.some.inj he;exact h4
           · cases he) (fun i e j x he hx=>by
           rw [List.getElem?_replicate] at he
           split at he
           · rename_i hi'
             obtain rfl:=Option.some.inj he
             have hj:j < n:=by rw [<- h4];exact (List.getElem?_eq_some_iff.1 hx).1
             obtain ⟨u,hu'⟩:∃ u,z.cells[j]? = some u:=⟨_,Array.getElem?_eq_getElem (by omega)⟩
             refine ⟨u,by rw [hget i j hi' hj];exact hu',c2 j u hu',?_⟩
             have hcr:=iL (vZ M (fun _=>none) z) hcs
             unfold dh;simpa using (hcr.2.2 j x u hx hu').Qc
           · cases he) (by unfold maxLen at h1 ⊢;omega)
       rw [Sem.run_bind,hrun]
       exact ⟨_,_,M,J',_,_,_,rfl,hk,hI,.own hJ' (by show 0 + b.toNat <= b.toNat;omega) (fun h=>by simp at h) (fun _ _=>by simp) (by simp),Sub.refl M,hJ,.inr ⟨rfl,rfl⟩⟩
     · exact h.elim
   · exact h.elim
 case call cl=>exact absurd rfl (ho.1 cl)
end
section
variable {E:Env} {M0:qV} {w0:World} {c:Nat} {M:Mem} {J:bJ} {s:St} {tm:Array Value} {w:World} {K:AV -> St -> Prop} {ds:List Deferred} {nm ver:Nat}
theorem MN (inv:Inv E M0 w0 c M J s tm w) {a:AV} {u:Value} {n:Nat} {t ty:TypeId} (hr:Rel M J a u) (hn:lenOf a = some n)
   (ht:Yh E.P t a) :
   (Builtin.len_ #[t] ty #[u]).run E.P w = .ok (.int .i64 n) w:=by
 have sl:∀ {A cap},u = .slice A n cap -> (sle E.P t).isSome = true -> (Builtin.len_ #[t] ty #[u]).run E.P w = .ok (.int .i64 n) w:=by
   intro A cap e h
   obtain ⟨⟨e',z,m,b⟩,hs⟩:=Option.isSome_iff_exists.1 h
   obtain ⟨hu,_⟩:=oP hs
   subst e
   simp [Builtin.len_,run_underlying hu,goInt]
 unfold lenOf at hn
 split at hn
 · obtain rfl:=Option.some.inj hn
   have:=hr.qh
   cases this with | lst uu hn' hc hz hA hM hx=>subst hn';exact sl rfl ht
 · obtain rfl:=Option.some.inj hn
   obtain rfl:=hr.bZ
   exact sl rfl ht
 · obtain rfl:=Option.some.inj hn
   obtain ⟨L,A,rfl,_⟩:=hr.sS
   exact sl rfl ht
 · obtain rfl:=Option.some.inj hn
   obtain rfl:=hr.bZ
   have ht':E.P.underlying t = some .string:=ht
   simp [Builtin.len_,run_underlying ht',goInt]
 · cases hn
theorem uI (inv:Inv E M0 w0 c M J s tm w) {a:AV} {u:Value} {ys:List (List AV)} (hr:Rel M J a u) (h:elems s a = some ys) {n:Nat} (hn:0 < n) (hlen:∀ y ∈ ys,y.length = n) :
   ∃ news,MI E.P w n u ys.length news /\ qm M n ys news:=by
 obtain ⟨A,cap,sz,rfl,hc,hz,hA,hcell⟩:=sW inv hr h
 rcases Nat.eq_zero_or_pos ys.length with h0 | h0
 · have:ys = []:=List.eq_nil_of_length_eq_zero h0
   subst this
   refine ⟨[],⟨by simp [Builtin.lenOf],?_,?_,by simp,by simp⟩,⟨by simp,by simp,by simp⟩⟩ <;>
   · cases A <;> simp [Builtin.firstCells,loadCells,loadCellsFrom]
 · obtain ⟨b,o,rfl⟩:=hA (by intro e;subst e;simp at h0)
   have hsz:sz = n:=by
     obtain ⟨e,he⟩:∃ e,ys[0]? = some e:=⟨_,List.getElem?_eq_getElem h0⟩
     rw [<- hz 0 e he,hlen e (List.mem_of_getElem? he)]
   subst hsz
   have hx:∀ k,k < ys.length * sz -> ∃ v,w.cell? ⟨b,o + k,none⟩ = some v /\ v.oneCell' = true:=by
     intro k hk
     have hq:k / sz < ys.length:=(Nat.div_lt_iff_lt_mul hn).2 hk
     obtain ⟨e,he⟩:∃ e,ys[k / sz]? = some e:=⟨_,List.getElem?_eq_getElem hq⟩
     obtain ⟨x,hx⟩:∃ x,e[k % sz]? = some x:=⟨_,List.getElem?_eq_getElem (by rw [hz _ _ he];exact Nat.mod_lt _ hn)⟩
     obtain ⟨v,h1,h2,_⟩:=hcell b o _ e _ x rfl he hx
     rw [Nat.add_assoc,Nat.div_add_mod' k sz] at h1
     exact ⟨v,h1,h2⟩
   have hf:∃ f:Nat -> Value,∀ k,k < ys.length * sz -> w.cell? ⟨b,o + k,none⟩ = some (f k) /\ (f k).oneCell' = true :=
     ⟨fun k=>if h:k < ys.length * sz then Classical.choose (hx k h) else undef,fun k hk=>by simp only [dif_pos hk];exact Classical.choose_spec (hx k hk)⟩
   obtain ⟨f,hf⟩:=hf
   have hl:((List.range (ys.length * sz)).map f).length = ys.length * sz:=by simp
   have hg:∀ k,k < ys.length * sz -> ((List.range (ys.length * sz)).map f)[k]? = some (f k):=by
     intro k hk;rw [List.getElem?_map,List.getElem?_range hk];rfl
   have hrd:∀ w':World,(∀ k,w'.cell? ⟨b,o + k,none⟩ = w.cell? ⟨b,o + k,none⟩) -> (Builtin.firstCells sz ys.length (.slice (some ⟨b,o,none⟩) ys.length cap)).run E.P w' = .ok ((List.range (ys.length * sz)).map f).toArray w':=by
     intro w' hw
     refine run_firstCells_some (P:=E.P) w' sz ys.length ⟨b,o,none⟩ ys.length cap _ hl (fun j v hj=>?_)
     have hj':j < ys.length * sz:=by rw [<- hl];exact (List.getElem?_eq_some_iff.1 hj).1
     rw [hg j hj'] at hj
     rw [toAdd,hw,(hf j hj').1];exact hj
   refine ⟨(List.range (ys.length * sz)).map f,⟨by simp [Builtin.lenOf],hrd w (fun _=>rfl),hrd w.drew (fun _=>rfl),hl,fun u hu=>?_⟩,⟨fun i e he=>hlen e (List.mem_of_getElem? he),hl,fun i e j x he hx=>?_⟩⟩
   · rw [List.mem_map] at hu
     obtain ⟨k,hk,rfl⟩:=hu
     exact (hf k (by simpa using hk)).2
   · obtain ⟨v,h1,h2,h3⟩:=hcell b o i e j x rfl he hx
     have hi:=(List.getElem?_eq_some_iff.1 he).1
     have hj:j < sz:=by rw [<- hz i e he];exact (List.getElem?_eq_some_iff.1 hx).1
     have hlt:i * sz + j < ys.length * sz:=by
       have:(i + 1) * sz <= ys.length * sz:=Nat.mul_le_mul_right _ hi
       refine' afu
     have h4:=(hf (i * sz + j) hlt).1
     rw [<- Nat.add_assoc,h1] at h4
     exact ⟨v,by rw [hg _ hlt,Option.some.inj h4],h2,h3⟩
theorem ab7{G:Prop}(h:G:=by
 have h1:n = 1:=by
   obtain ⟨e,he⟩:∃ e,(iV b)[0]? = some e:=⟨_,List.getElem?_eq_getElem (by omega)⟩
   obtain ⟨_,rfl⟩:=jL he
   exact (hlen _ (List.mem_of_getElem? he)).symm
 subst h1;rw [hl];simp):G:=h
theorem af7{G:Prop}(h:G:=by rw [hl,h0,List.length_map,Array.length_toList];rw [show b.data.size = b.size from rfl,h0];simp):G:=h
theorem Aq (b:ByteArray) {n:Nat} (hn:0 < n) (hlen:∀ y ∈ iV b,y.length = n) :
   ∃ news,MI E.P w n (.string b) (iV b).length news /\ qm M n (iV b) news:=by
 have hl:(iV b).length = b.size:=by simp [iV]
 have hex:b.extract 0 b.size = b:=by simp
 have hcells:∀ w:World,(Builtin.firstCells n (iV b).length (.string b)).run E.P w = .ok (b.data.toList.map fun c=>Value.int .u8 c.toNat).toArray w:=by
   intro w
   rw [hl]
   simp only [Builtin.firstCells,hex,Sem.run_pure]
   congr 1
   apply Array.ext';simp
 refine ⟨b.data.toList.map fun c=>.int .u8 c.toNat,⟨by rw [hl];simp [Builtin.lenOf],hcells w,hcells w.drew,?_,?_⟩,⟨fun i e he=>hlen e (List.mem_of_getElem? he),?_,?_⟩⟩
 · rcases Nat.eq_zero_or_pos b.size with h0 | h0
   · refine' af7
   · refine' ab7
 · intro u hu
   rw [List.mem_map] at hu
   obtain ⟨c,_,rfl⟩:=hu;rfl
 · rcases Nat.eq_zero_or_pos b.size with h0 | h0
   · refine' af7
   · refine' ab7
 · intro i e j x he hx
   have h1:n = 1:=by
     obtain ⟨_,rfl⟩:=jL he
     exact (hlen _ (List.mem_of_getElem? he)).symm
   subst h1
   obtain ⟨hi,rfl⟩:=jL he
   cases j with
   | zero =>
     simp at hx;subst hx
     refine ⟨.int .u8 (b[i]'hi).toNat,?_,rfl,.v _⟩
     rw [Nat.mul_one,Nat.add_zero,List.getElem?_map,List.getElem?_eq_getElem (by simpa using hi)];rfl
   | succ j=>simp at hx
theorem UM {P:Program} {t:TypeId} (h:(sle P t).isSome = true):∃ d,P.underlying t = some d /\ ∀ k,d ≠ .int k:=by
 obtain ⟨⟨e',z,m,b⟩,hs⟩:=Option.isSome_iff_exists.1 h
 obtain ⟨hu,_⟩:=oP hs
 exact ⟨_,hu,fun k h=>by cases h⟩
theorem uQ:∀ (hs:List aG) (j r:Nat),get (eX j hs) r = if j <= r then (hs[r - j]?).map fun k=>{ k with ver:=r } else none
 | [],j,r=>by simp [eX,get_nil,au]
 | k :: ks,j,r=>by
   simp only [eX,get_nil,au]
   rw [uQ ks (j + 1) r]
   by_cases h:r = j
   · subst h;simp
   · rw [if_neg h]
     by_cases h1:j <= r
     · rw [if_pos (by omega),if_pos h1,show r - j = (r - (j + 1)) + 1 by omega,List.getElem?_cons_succ]
     · rw [if_neg (by omega),if_neg h1]
theorem wu:∀ (hs:List aG) (nm ver j:Nat) (s:St),(s.adds nm ver j hs).sl = s.sl
 | [],_,_,_,_=>rfl
 | k :: ks,nm,ver,j,s=>by simp only [St.adds];rw [wu ks]
theorem Gl:∀ (hs:List aG) (nm ver j:Nat) (s:St) (r:Nat),get (s.adds nm ver j hs).hp r =
   match get s.hp r with | some k=>some k | none=>if nm + j <= r then (hs[r - (nm + j)]?).map fun k=>k.shift nm ver (r - nm) else none
 | [],nm,ver,j,s,r=>by simp only [St.adds];cases get s.hp r <;> simp
 | k :: ks,nm,ver,j,s,r=>by
   simp only [St.adds]
   rw [Gl ks nm ver (j + 1)]
   simp only [get_append]
   cases hr:get s.hp r with
   | some q=>rfl
   | none =>
     simp only
     by_cases h:r = nm + j
     · subst h
       rw [if_pos rfl,if_pos (Nat.le_refl _)]
       simp
     · rw [if_neg h]
       by_cases h1:nm + j <= r
       · rw [if_pos h1,if_pos (by omega),show r - (nm + j) = (r - (nm + (j + 1))) + 1 by omega,List.getElem?_cons_succ]
       · rw [if_neg h1,if_neg (by omega)]
theorem qp:∀ (cs:List AV) (nm ver i:Nat),(shifts nm ver cs)[i]? = (cs[i]?).map (shift nm ver)
 | [],_,_,_=>by simp [shifts]
 | c :: cs,nm,ver,i=>by
   cases i with
   | zero=>simp [shifts]
   | succ i=>simp only [shifts,List.getElem?_cons_succ];exact qp cs nm ver i
theorem fQ:∀ (cs:List AV) (nm ver:Nat),(shifts nm ver cs).length = cs.length
 | [],_,_=>rfl
 | c :: cs,nm,ver=>by simp [shifts,fQ cs]
theorem aa2{G:Prop}(h:G:=by
 rw [qp,Option.map_eq_some_iff] at hc
 obtain ⟨c',hc',rfl⟩:=hc
 exact ih i c' v hc' hv):G:=h
theorem afb{G:Prop}(h:G:=by
 rw [qp,Option.map_eq_some_iff] at hc
 obtain ⟨c',hc',rfl⟩:=hc
 exact ih' i c' v hc' hv):G:=h
theorem agf{G:Prop}(h:G:=by
 refine .agg (by rw [fQ];exact hn) h1 (fun i c v hc hv=>?_)
 refine' aa2):G:=h
theorem agt{G:Prop}(h:G:=by
 refine .dM (by rw [fQ];exact hn) (fun i c v hc hv=>?_)
 refine' aa2):G:=h
theorem cZ.shift {M:Mem} {x:AV} {v:Value} (h:cZ M x v) (nm ver:Nat):cZ M (aI.shift nm ver x) v:=by
 induction h with
 | v x=>exact .v x
 | agg hn h1 _ ih =>
   refine' agf
 | dM hn _ ih =>
   refine' agt
 | lst u hn hc hz hA hM h _=>exact .lst u hn hc hz hA hM h
 | fO u hM h _=>exact .fO u hM h
 | clo hn hm _ _ ih ih' =>
   refine .clo (by rw [fQ];exact hn) (by rw [fQ];exact hm) (fun i c v hc hv=>?_) (fun i c v hc hv=>?_)
   · refine' aa2
   · refine' afb
theorem Rel.shift {M:Mem} {J J':bJ} {nm ver:Nat} (hJ:∀ j L,J j = some L -> J' (ver + j) = some L) {x:AV} {v:Value} (h:Rel M J x v):Rel M J' (aI.shift nm ver x) v:=by
 induction h with
 | pure h=>exact .pure (h.shift nm ver)
 | agg hn h1 _ ih =>
   refine' agf
 | dM hn _ ih =>
   refine' agt
 | clo hn hm _ _ ih ih' =>
   refine .clo (by rw [fQ];exact hn) (by rw [fQ];exact hm) (fun i c v hc hv=>?_) (fun i c v hc hv=>?_)
   · refine' aa2
   · refine' afb
 | own hL hl hN hA hc=>exact .own (hJ _ _ hL) hl hN hA hc
 | ptr hL hN=>exact .ptr (hJ _ _ hL) hN
theorem abx{G:Prop}(h:G:=by
 change (if ver <= ver + j then J1 (ver + j - ver) else J (ver + j)) = some L at hL
 rw [if_pos (by omega),Nat.add_sub_cancel_left] at hL;exact hL):G:=h
theorem adw{G:Prop}(h:G:=by
 change (if ver <= ver + j' then J1 (ver + j' - ver) else J (ver + j')) = some L' at hL'
 rw [if_pos (by omega),Nat.add_sub_cancel_left] at hL';exact hL'):G:=h
theorem Inv.merge (inv:Inv E M0 w0 c M J s tm w) (hv:c <= ver) {hs:List aG} (hfree:free s.hp nm hs.length) {M':Mem} {J1:bJ} {w':World}
   (cal:Inv E ⟨M,fun _=>none,fun _=>none,[]⟩ w hs.length M' J1 ⟨[],eX 0 hs,0⟩ #[] w') :
   ∃ J',iG J J' /\ (∀ j L,J1 j = some L -> J' (ver + j) = some L) /\ Sub M M' /\ Inv E M0 w0 (ver + hs.length) M' J' (s.adds nm ver 0 hs) tm w':=by
 have hsub:Sub M M':=cal.jV
 have hJ:iG J (fun r=>if ver <= r then J1 (r - ver) else J r):=by
   intro r L h
   have:=inv.vers r L h
   show (if ver <= r then J1 (r - ver) else J r) = some L
   rw [if_neg (by omega)];exact h
 have hJ1:∀ j L,J1 j = some L -> (fun r=>if ver <= r then J1 (r - ver) else J r) (ver + j) = some L:=by
   intro j L h
   show (if ver <= ver + j then J1 (ver + j - ver) else J (ver + j)) = some L
   rw [if_pos (by omega),Nat.add_sub_cancel_left];exact h
 have hold:∀ r k,get s.hp r = some k -> k.ver < ver:=by
   intro r k hk
   obtain ⟨L,C,hL,_⟩:=inv.heap r k hk
   have:=inv.vers _ _ hL;omega
 have hfree':∀ n,free s.hp nm n -> ∀ j,j < n -> get s.hp (nm + j) = none:=by
   intro n
   induction n with
   | zero=>intro _ j hj;omega
   | succ n ih =>
     intro hf j hj
     rcases Nat.lt_or_ge j n with h | h
     · exact ih hf.2 j h
     · have:j = n:=by omega
       subst this;exact hf.1
 have hget:∀ r k,get (s.adds nm ver 0 hs).hp r = some k -> (get s.hp r = some k /\ k.ver < ver) ∨
     ∃ (j:Nat) (q:aG),r = nm + j /\ hs[j]? = some q /\ k = q.shift nm ver j /\ get (eX 0 hs) j = some { q with ver:=j }:=by
   intro r k hk
   rw [Gl] at hk
   cases h:get s.hp r with
   | some y=>rw [h] at hk;simp at hk;subst hk;exact .inl ⟨rfl,hold r _ h⟩
   | none =>
     rw [h] at hk;simp only [Nat.add_zero] at hk
     split at hk
     · rename_i hr
       rw [Option.map_eq_some_iff] at hk
       obtain ⟨q,hq,rfl⟩:=hk
       exact .inr ⟨r - nm,q,by omega,hq,rfl,by rw [uQ,if_pos (Nat.zero_le _),Nat.sub_zero,hq];rfl⟩
     · cases hk
 refine ⟨_,hJ,hJ1,hsub,⟨inv.below.trans (cal.below.mono inv.below.size),cal.mem,?_,fun b o u h=>hsub _ _ _ (inv.jV b o u h),cal.glob,?_,?_,?_,?_,?_,fun r L h=>hJ _ _ (inv.jF r L h),fun b o h=>(cal.below.block _ (inv.Ep h)).trans (inv.far b o h)⟩⟩
 · intro b o u h
   rcases cal.kH b o u h with h | h
   · exact inv.kH b o u h
   · have:=inv.below.size;exact .inr ⟨by omega,inv.oN h.1⟩
 · intro t x hx
   rw [wu] at hx
   obtain ⟨v,h1,h2⟩:=inv.slot t x hx
   exact ⟨v,h1,h2.mono hsub hJ⟩
 · intro r k hk
   rcases hget r k hk with ⟨h1,h2⟩ | ⟨j,q,rfl,hq,rfl,hh⟩
   · obtain ⟨L,C,hL,hb,ok⟩:=inv.heap r k h1
     exact ⟨L,C,hJ _ _ hL,hb,(ok.mono hsub hJ).world fun hn=>cal.below.block _ (gY ok hn)⟩
   · obtain ⟨L,C,hL,hb,ok⟩:=cal.heap j _ hh
     refine ⟨L,C,hJ1 j L hL,fun hn=>⟨by have:=(hb hn).1;have:=inv.below.size;omega,inv.oN (hb hn).1⟩,⟨ok.blk,ok.none,ok.size,?_,?_,ok.sz,?_,?_,ok.cap⟩⟩
     · have:=ok.fits;simp only [aG.shift];split <;> simpa using this
     · have:=ok.fH;simp only [aG.shift];split <;> simpa using this
     · intro i e he
       simp only [aG.shift] at he ⊢
       split at he
       · rw [List.getElem?_map,Option.map_eq_some_iff] at he
         obtain ⟨e',he',rfl⟩:=he
         rw [fQ];exact ok.len i e' he'
       · exact ok.len i e he
     · intro i e j' x he hx
       simp only [aG.shift] at he ⊢
       split at he
       · rename_i hbox
         rw [List.getElem?_map,Option.map_eq_some_iff] at he
         obtain ⟨e',he',rfl⟩:=he
         rw [qp,Option.map_eq_some_iff] at hx
         obtain ⟨x',hx',rfl⟩:=hx
         obtain ⟨u,a1,a2,a3⟩:=ok.cell i e' j' x' he' hx'
         exact ⟨u,a1,a2,by unfold dh;rw [if_pos hbox];exact a3.rel.shift hJ1⟩
       · rename_i hbox
         obtain ⟨u,a1,a2,a3⟩:=ok.cell i e j' x he hx
         refine ⟨u,a1,a2,?_⟩
         unfold dh at a3 ⊢
         rw [if_neg hbox]
         simp only at a3
         rw [if_neg hbox] at a3;exact a3
 · have side:∀ (r:Nat) (k:aG) (L:Loc) (j:Nat) (q:aG) (L':Loc),get s.hp r = some k -> k.ver < ver -> (if ver <= k.ver then J1 (k.ver - ver) else J k.ver) = some L -> get (eX 0 hs) j = some { q with ver:=j } -> J1 j = some L' -> L.nil = false -> L'.nil = false -> L.b ≠ L'.b:=by
     intro r k L j q L' h1 h2 hL hh hL' hn hn'
     rw [if_neg (by omega)] at hL
     refine' aev
     obtain ⟨L2,C2,e2,hb,_⟩:=cal.heap j _ hh
     have e2':J1 j = some L2:=e2
     rw [e2'] at hL';obtain rfl:=Option.some.inj hL'
     have:=gY ok hn;have:=hb hn';omega
   intro r r' k k' L L' hk hk' hL hL' hN hN' hne
   rcases hget r k hk with ⟨h1,n1⟩ | ⟨j,q,rfl,hq,rfl,hh⟩ <;> rcases hget r' k' hk' with ⟨h2,n2⟩ | ⟨j',q',rfl,hq',rfl,hh'⟩
   · change (if ver <= k.ver then J1 (k.ver - ver) else J k.ver) = some L at hL
     change (if ver <= k'.ver then J1 (k'.ver - ver) else J k'.ver) = some L' at hL'
     rw [if_neg (by omega)] at hL hL'
     exact inv.apart r r' k k' L L' h1 h2 hL hL' hN hN' hne
   · have hL2:J1 j' = some L':=by
       refine' adw
     exact side r k L j' q' L' h1 n1 hL hh' hL2 hN hN'
   · have hL2:J1 j = some L:=by
       refine' abx
     exact fun e=>side r' k' L' j q L h2 n2 hL' hh hL2 hN' hN e.symm
   · have hL1:J1 j = some L:=by
       refine' abx
     have hL2:J1 j' = some L':=by
       refine' adw
     exact cal.apart j j' { q with ver:=j } { q' with ver:=j' } L L' hh hh' hL1 hL2 hN hN' (fun e=>hne (by rw [e]))
 · intro r k L o u hk hL hN hu
   rcases hget r k hk with ⟨h1,n1⟩ | ⟨j,q,rfl,hq,rfl,hh⟩
   · change (if ver <= k.ver then J1 (k.ver - ver) else J k.ver) = some L at hL
     rw [if_neg (by omega)] at hL
     refine' aev
     rcases cal.kH _ _ _ hu with h | h
     · exact inv.owns r k _ o u h1 e1 hN h
     · have:=gY ok hN;have:=h.1;omega
   · have hL1:J1 j = some L:=by
       refine' abx
     exact cal.owns j { q with ver:=j } L o u hh hL1 hN hu
 · intro r L h
   split at h
   · have:=cal.vers _ L h;omega
   · have:=inv.vers r L h;omega
end
theorem CJ (z:Array Value) (len i j:Nat) (hi:i < len) (u:Value) (hu:z[j]? = some u) {n:Nat} (hn:z.size = n):(Builtin.zeroCells z len).toList[i * n + j]? = some u:=by
 subst hn
 have hj:=(Array.getElem?_eq_some_iff.1 hu).1
 have hlt:i * z.size + j < len * z.size:=by
   have:(i + 1) * z.size <= len * z.size:=Nat.mul_le_mul_right _ hi
   refine' afu
 rw [Array.getElem?_toList]
 simp only [Builtin.zeroCells,Array.getElem?_map,Array.getElem?_range,if_pos hlt,Option.map_some,Option.some.injEq]
 rw [Nat.add_comm,Nat.add_mul_mod_self_right,Nat.mod_eq_of_lt hj,getElem!_pos z j hj]
 exact (Array.getElem?_eq_some_iff.1 hu).2
section
variable {E:Env} {M0:qV} {w0:World} {c:Nat} {M:Mem} {J:bJ} {s:St} {tm:Array Value} {w:World}
theorem Gm (es zs:List (List AV)) (off:Nat) (h:off + zs.length <= es.length) (i:Nat) (e:List AV) (he:(es.take off ++ zs ++ es.drop (off + zs.length))[i]? = some e) :
   (off <= i /\ i < off + zs.length /\ zs[i - off]? = some e) ∨ ((i < off ∨ off + zs.length <= i) /\ es[i]? = some e):=by
 have h1:(es.take off).length = off:=by simp;omega
 by_cases h2:i < off
 · rw [List.append_assoc,List.getElem?_append_left (by omega),List.getElem?_take,if_pos h2] at he
   exact .inr ⟨.inl h2,he⟩
 · rw [List.append_assoc,List.getElem?_append_right (by omega),h1] at he
   by_cases h3:i < off + zs.length
   · rw [List.getElem?_append_left (by omega)] at he
     exact .inl ⟨by omega,h3,he⟩
   · rw [List.getElem?_append_right (by omega),List.getElem?_drop] at he
     rw [show off + zs.length + (i - off - zs.length) = i by omega] at he
     exact .inr ⟨.inr (by omega),he⟩
theorem Inv.less0 {s':St} (inv:Inv E M0 w0 c M J s tm w) (h1:∀ t x,get s'.sl t = some x -> get s.sl t = some x) (h2:∀ r k,get s'.hp r = some k -> get s.hp r = some k):Inv E M0 w0 c M J s' tm w :=
 { inv with slot:=fun t x h=>inv.slot t x (h1 t x h),heap:=fun r k h=>inv.heap r k (h2 r k h),apart:=fun r r' k k' L L' a b=>inv.apart r r' k k' L L' (h2 r k a) (h2 r' k' b),owns:=fun r k L o u a=>inv.owns r k L o u (h2 r k a) }
theorem Ar (inv:Inv E M0 w0 c M J s tm w) {r:Nat} {k:aG} {L:Loc} {C:Array Value} (hk:get s.hp r = some k) (hL:J k.ver = some L) (hN:L.nil = false) (ok:rE M J w L k C) (hsz:0 < k.sz)
   {off:Nat} {zs:List (List AV)} {us:List Value} (hz:qm M k.sz zs us) (hf:k.fH <= off) (hle:off + zs.length <= k.es.length) :
   ∃ w',(storeCells ⟨L.b,off * k.sz,none⟩ us).run E.P w = .ok () w' /\ Inv E M0 w0 c M J { s with hp:=set s.hp r { k with es:=k.es.take off ++ zs ++ k.es.drop (off + zs.length) } } tm w':=by
 have hblk:=ok.blk hN
 have ald:us.length = zs.length * k.sz:=hz.size
 have hcap:(off + zs.length) * k.sz <= L.cap * k.sz:=Nat.mul_le_mul_right _ (by have:=ok.fits;omega)
 rw [Nat.add_mul] at hcap
 have hst:=run_storeCells_at E.P L.b (off * k.sz) k.ty us 0 C w hblk (by rw [ok.size];omega) (hz.one hsz)
 simp only [Nat.add_zero] at hst
 refine ⟨_,hst,?_⟩
 have htl:(C.toList.take (off * k.sz)).length = off * k.sz:=by rw [List.length_take,Array.length_toList,ok.size];omega
 have hCl:(C.toList.take (off * k.sz) ++ us ++ C.toList.drop (off * k.sz + us.length)).length = C.size:=by
   simp only [List.length_append,htl,List.length_drop,Array.length_toList,ok.size];omega
 have UD:∀ q:Nat,(C.toList.take (off * k.sz) ++ us ++ C.toList.drop (off * k.sz + us.length)).toArray[q]? =
     if off * k.sz <= q /\ q < off * k.sz + us.length then us[q - off * k.sz]? else C[q]?:=by
   intro q
   simp only [List.getElem?_toArray,List.append_assoc]
   by_cases h1:q < off * k.sz
   · rw [if_neg (by omega),List.getElem?_append_left (by omega),List.getElem?_take,if_pos h1];simp
   · rw [List.getElem?_append_right (by omega),htl]
     by_cases h2:q < off * k.sz + us.length
     · rw [if_pos (by omega),List.getElem?_append_left (by omega)]
     · rw [if_neg (by omega),List.getElem?_append_right (by omega),List.getElem?_drop]
       have:off * k.sz + us.length + (q - off * k.sz - us.length) = q:=by omega
       rw [this];simp
 refine inv.replace hk hL ok (w':=w.setRow L.b _) rfl rfl rfl (by simp) (fun b hb' hne=>setRow_other w L.b b _ (hne hN)) (fun _ q hq=>?_) (k':={ k with es:=k.es.take off ++ zs ++ k.es.drop (off + zs.length) }) (L':=L) (iG.refl J) hL inv.vers
   (C':=(C.toList.take (off * k.sz) ++ us ++ C.toList.drop (off * k.sz + us.length)).toArray) ?_ (fun _=>.inl ⟨hN,rfl,Nat.le_refl _⟩)
 · rw [cell_setRow_same w L.b q C _ _ _ hblk,cell_of_row w L.b q C _ _ hblk,UD,if_neg]
   have:k.fH * k.sz <= off * k.sz:=Nat.mul_le_mul_right _ hf
   omega
 · have hlen:(k.es.take off ++ zs ++ k.es.drop (off + zs.length)).length = k.es.length:=by simp;omega
   refine ⟨fun _=>setRow_heap w L.b C _ _ _ hblk,ok.none,by rw [List.size_toArray,hCl];exact ok.size,by show (k.es.take off ++ zs ++ k.es.drop (off + zs.length)).length <= L.cap;rw [hlen];exact ok.fits,by show k.fH <= (k.es.take off ++ zs ++ k.es.drop (off + zs.length)).length;rw [hlen];exact ok.fH,ok.sz,fun i e he=>?_,fun i e j q he hq=>?_,ok.cap⟩
   · rcases Gm k.es zs off hle i e he with ⟨_,_,h⟩ | ⟨_,h⟩
     · exact hz.len _ _ h
     · exact ok.len i e h
   · change ∃ u,(C.toList.take (off * k.sz) ++ us ++ C.toList.drop (off * k.sz + us.length)).toArray[i * k.sz + j]? = some u /\ u.oneCell' = true /\ dh M J k.box q u
     rcases Gm k.es zs off hle i e he with ⟨h1,h2,h⟩ | ⟨h1,h⟩
     · have hj:j < k.sz:=by rw [<- hz.len _ _ h];exact (List.getElem?_eq_some_iff.1 hq).1
       obtain ⟨u,a1,a2,a3⟩:=hz.cell _ _ _ _ h hq
       refine ⟨u,?_,a2,?_⟩
       · rw [UD]
         have e1:(i - off) * k.sz + off * k.sz = i * k.sz:=by rw [<- Nat.add_mul];congr 1;omega
         have hlt:=(List.getElem?_eq_some_iff.1 a1).1
         rw [if_pos (by omega),<- a1];congr 1;omega
       · unfold dh;split
         · exact .pure a3
         · exact a3
     · have hj:j < k.sz:=by rw [<- ok.len i e h];exact (List.getElem?_eq_some_iff.1 hq).1
       obtain ⟨u,a1,a2,a3⟩:=ok.cell i e j q h hq
       refine ⟨u,?_,a2,a3⟩
       rw [UD,if_neg]
       · exact a1
       · rcases h1 with h1 | h1
         · have:(i + 1) * k.sz <= off * k.sz:=Nat.mul_le_mul_right _ h1
           refine' afu
         · have:(off + zs.length) * k.sz <= i * k.sz:=Nat.mul_le_mul_right _ h1
           refine' afu
theorem ad6{G:Prop}(h:G:=by
 have Yl:L.nil = false:=by
   cases h:L.nil with
   | false=>rfl
   | true=>have:=ok.none h;have:=ok.fits;omega
 obtain rfl:=hLA Yl (.inr (by have:=ok.fits;omega))
 all_goals(rcases(⟨_⟩:PLift _)with⟨h⟩;exact h)):G:=h
theorem II (inv:Inv E M0 w0 c M J s tm w) {t t' ty:TypeId} {r v off len:Nat} {u x:Value} {b:AV} {k:aG} {ys:List (List AV)} {e:TypeId} {z:Option Value} {n by':Nat} (hr:Rel M J (.own r v off len) u) (hx:Rel M J b x) (hys:elems s b = some ys)
   (hk:get s.hp r = some k) (hs:sle E.P t = some (e,z,n,by')) (hv:k.ver = v) (hsz:k.sz = n) (hn:0 < n) (hf:k.fH <= off) (hle:off + len <= k.es.length) (hl:ys.length = len) (hlen:∀ y ∈ ys,y.length = n) :
   ∃ w',(Builtin.copy_ #[t,t'] ty #[u,x]).run E.P w = .ok (.int .i64 len) w' /\ Inv E M0 w0 c M J { s with hp:=set s.hp r { k with es:=k.es.take off ++ ys ++ k.es.drop (off + len) } } tm w':=by
 obtain ⟨hut,hti⟩:=oP hs
 obtain ⟨news,hN,MK⟩:=uI inv hx hys hn hlen
 refine' ag5
 subst hsz;subst hl
 refine' aeu
 obtain ⟨i,hi,hiz,his,hib⟩:=nR hti
 have hmin:Nat.min ys.length ys.length = ys.length:=Nat.min_self _
 have hsize:(sizeOf e).run E.P w = .ok k.sz w:=by simp [sizeOf,typeInfo,hi,his]
 have hnone:(Builtin.copy_ #[t,t'] ty #[.slice none ys.length (L.cap - off),x]).run E.P w = .ok (.int .i64 ys.length) w:=by
   simp only [Builtin.copy_,Sem.run_bind,run_underlying hut,Result.andThen_ok,Sem.run_pure,List.getElem?_toArray,List.getElem?_cons_zero,List.getElem?_cons_succ,hN.len,hmin,hsize,hN.cells]
   rfl
 have hsome:∀ a w',(storeCells a news).run E.P w = .ok () w' -> (Builtin.copy_ #[t,t'] ty #[.slice (some a) ys.length (L.cap - off),x]).run E.P w = .ok (.int .i64 ys.length) w':=by
   intro a w' h
   simp only [Builtin.copy_,Sem.run_bind,run_underlying hut,Result.andThen_ok,Sem.run_pure,List.getElem?_toArray,List.getElem?_cons_zero,List.getElem?_cons_succ,hN.len,hmin,hsize,hN.cells,h]
   rfl
 have triv:ys.length = 0 -> ys = []:=fun h=>List.eq_nil_of_length_eq_zero h
 rcases Nat.eq_zero_or_pos ys.length with h0 | h0
 · have hy:=triv h0
   subst hy
   refine' ae6
   have hsame:({ s with hp:=set s.hp r { k with es:=k.es.take off ++ [] ++ k.es.drop (off + ([]:List (List AV)).length) } }:St) = { s with hp:=set s.hp r k }:=by simp
   refine ⟨w,?_,?_⟩
   · cases A with
     | none=>exact hnone
     | some a=>exact hsome a w rfl
   · rw [hsame]
     refine inv.less0 (fun t x h=>h) (fun r' k' h'=>?_)
     rw [nS _ _ _ _ _ hk] at h'
     split at h'
     · rename_i e;subst e;rw [<- h'];exact hk
     · exact h'
 · refine' ad6
   obtain ⟨w',e1,e2⟩:=Ar inv hk (by rw [hv];exact hL) Yl ok hn MK hf hle
   refine ⟨w',?_,e2⟩
   rw [ok.sz];exact hsome _ _ e1
theorem Gn (inv:Inv E M0 w0 c M J s tm w) {t ty:TypeId} {r v off len:Nat} {u:Value} {k:aG} {e:TypeId} {z:Value} {n by':Nat} {cs:List AV} (hr:Rel M J (.own r v off len) u)
   (hk:get s.hp r = some k) (hs:sle E.P t = some (e,some z,n,by')) (hc:cellsOf (PW z) = some cs) (hv:k.ver = v) (hsz:k.sz = n) (hn:0 < n) (hcn:cs.length = n) (hf:k.fH <= off) (hle:off + len <= k.es.length) :
   ∃ w',(Builtin.clear_ #[t] ty #[u]).run E.P w = .ok undef w' /\ Inv E M0 w0 c M J { s with hp:=set s.hp r { k with es:=k.es.take off ++ List.replicate len cs ++ k.es.drop (off + len) } } tm w':=by
 obtain ⟨hut,hti⟩:=oP hs
 refine' ag5
 subst hsz
 refine' aeu
 obtain ⟨i,hi,hiz,his,hib⟩:=nR hti
 rcases Nat.eq_zero_or_pos len with h0 | h0
 · subst h0
   have hsame:({ s with hp:=set s.hp r { k with es:=k.es.take off ++ List.replicate 0 cs ++ k.es.drop (off + 0) } }:St) = { s with hp:=set s.hp r k }:=by simp
   refine ⟨w,?_,?_⟩
   · simp only [Builtin.clear_,Sem.run_bind,run_underlying hut,Result.andThen_ok,Sem.run_pure,List.getElem?_toArray,List.getElem?_cons_zero]
     cases A <;> rfl
   · rw [hsame]
     refine inv.less0 (fun t x h=>h) (fun r' k' h'=>?_)
     rw [nS _ _ _ _ _ hk] at h'
     split at h'
     · rename_i e;subst e;rw [<- h'];exact hk
     · exact h'
 · refine' ad6
   have hcr:=iL (M:=M) (J:=fun _=>none) (vZ M (fun _=>none) z) hc
   have MK:qm M k.sz (List.replicate len cs) (Builtin.zeroCells z.cells len).toList:=by
     refine ⟨fun i e he=>?_,?_,fun i e j x he hx=>?_⟩
     · rw [List.getElem?_replicate] at he;split at he
       · obtain rfl:=Option.some.inj he;exact hcn
       · cases he
     · simp [Builtin.zeroCells,hcr.1,hcn]
     · rw [List.getElem?_replicate] at he
       split at he
       · rename_i hi'
         obtain rfl:=Option.some.inj he
         have hj:j < cs.length:=(List.getElem?_eq_some_iff.1 hx).1
         obtain ⟨u,hu⟩:∃ u,z.cells[j]? = some u:=⟨_,Array.getElem?_eq_getElem (by rw [hcr.1];exact hj)⟩
         refine ⟨u,?_,hcr.2.1 j u hu,(hcr.2.2 j x u hx hu).Qc⟩
         exact CJ z.cells len i j hi' u hu (by rw [hcr.1,hcn])
       · cases he
   obtain ⟨w',e1,e2⟩:=Ar inv hk (by rw [hv];exact hL) Yl ok hn MK hf (by simpa using hle)
   have hz0:(zeroValue e).run E.P w = .ok z w:=by simp [zeroValue,typeInfo,hi,hiz]
   refine ⟨w',?_,by simpa using e2⟩
   have hlen0:len ≠ 0:=by omega
   obtain ⟨m,rfl⟩:∃ m,len = m + 1:=⟨len - 1,by omega⟩
   simp only [Builtin.clear_,Sem.run_bind,run_underlying hut,Result.andThen_ok,Sem.run_pure,List.getElem?_toArray,List.getElem?_cons_zero,hz0,ok.sz,e1]
   rfl
end
end Go.Proofs.YtadlnaljicikfaaDoor.aI
