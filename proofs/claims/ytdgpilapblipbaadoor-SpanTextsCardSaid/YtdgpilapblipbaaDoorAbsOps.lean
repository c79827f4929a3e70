/- A calculus over values: the operations. -/
import Derived.Test.YtdgpilapblipbaaDoorAbsRel
namespace Go.Proofs.YtdgpilapblipbaaDoor.Abs
open Go Go.RowKit
set_option linter.unusedSimpArgs false
set_option linter.unusedVariables false

/-- Two spans are the same: a fact on a program's table. -/
def SpanEq (P : Program) (t : TypeId) : Prop := ∀ (a b a' b' : Int) (x x' : ByteArray) (w : World),
  (Op.equal t (.agg #[.int .i64 a, .int .i64 b, .string x]) (.agg #[.int .i64 a', .int .i64 b', .string x'])).run P w = .ok (decide (a = a' ∧ b = b' ∧ x = x')) w ∧
  P.eqGuardType P.depth t = false

def bitsOf (op : BinOp) (k : IntKind) (x y : Int) : Int :=
  match op with
  | .and => k.wrap (BitVec.ofInt k.bits x &&& BitVec.ofInt k.bits y).toNat
  | .or => k.wrap (BitVec.ofInt k.bits x ||| BitVec.ofInt k.bits y).toNat
  | .xor => k.wrap (BitVec.ofInt k.bits x ^^^ BitVec.ofInt k.bits y).toNat
  | _ => k.wrap (BitVec.ofInt k.bits x &&& ~~~BitVec.ofInt k.bits y).toNat

def intw (op : BinOp) (k : IntKind) (a b : Int) (K : Value → Prop) : Prop :=
  match op with
  | .add => K (.int k (k.wrap (a + b)))
  | .sub => K (.int k (k.wrap (a - b)))
  | .mul => K (.int k (k.wrap (a * b)))
  | .quo => b ≠ 0 ∧ K (.int k (k.wrap (a.tdiv b)))
  | .rem => b ≠ 0 ∧ K (.int k (a.tmod b))
  | .and | .or | .xor | .andNot => K (.int k (bitsOf op k a b))
  | .shl => 0 ≤ b ∧ K (.int k (k.wrap (a * 2 ^ min b.toNat k.bits)))
  | .shr => 0 ≤ b ∧ K (.int k (a.fdiv (2 ^ min b.toNat k.bits)))
  | .eql => K (.bool (decide (a = b)))
  | .neq => K (.bool (decide (a ≠ b)))
  | .lss => K (.bool (decide (a < b)))
  | .leq => K (.bool (decide (a ≤ b)))
  | .gtr => K (.bool (decide (b < a)))
  | .geq => K (.bool (decide (b ≤ a)))

def strw (op : BinOp) (a b : ByteArray) (K : Value → Prop) : Prop :=
  match op with
  | .add => a.size + b.size ≤ maxLen ∧ K (.string (a ++ b))
  | .eql => K (.bool (decide (a = b)))
  | .neq => K (.bool (decide (a ≠ b)))
  | _ => False

def isPtr : AV → Bool
  | .rptr _ | .ptr _ _ _ _ => true
  | _ => false

def binw (P : Program) (op : BinOp) (t : TypeId) (x y : AV) (K : Value → Prop) : Prop :=
  match x, y with
  | .v (.int k a), .v (.int k' b) => (k = k' ∨ op = .shl ∨ op = .shr) ∧ intw op k a b K
  | .v (.string a), .v (.string b) => strw op a b K
  | .v (.bool a), .v (.bool b) =>
    match op, P.underlying t with
    | .eql, some .bool => K (.bool (a == b))
    | .neq, some .bool => K (.bool (a != b))
    | _, _ => False
  | .agg [.v (.int .i64 a), .v (.int .i64 b), .v (.string s)], .agg [.v (.int .i64 a'), .v (.int .i64 b'), .v (.string s')] =>
    match op with
    | .eql => SpanEq P t ∧ K (.bool (decide (a = a' ∧ b = b' ∧ s = s')))
    | .neq => SpanEq P t ∧ K (.bool (!decide (a = a' ∧ b = b' ∧ s = s')))
    | _ => False
  | .v (.pointer none), .v (.pointer none) =>
    match op, P.underlying t with
    | .eql, some (.pointer _) => K (.bool true)
    | .neq, some (.pointer _) => K (.bool false)
    | _, _ => False
  | p, .v (.pointer none) =>
    match op, P.underlying t with
    | .eql, some (.pointer _) => isPtr p = true ∧ K (.bool false)
    | .neq, some (.pointer _) => isPtr p = true ∧ K (.bool true)
    | _, _ => False
  | _, _ => False

def bytesAV (b : ByteArray) : List (List AV) := b.data.toList.map fun c => [AV.v (.int .u8 c.toNat)]
def toByte : List AV → Option UInt8
  | [.v (.int .u8 n)] => some (UInt8.ofNat n.toNat)
  | _ => none

def convw (P : Program) (src dst : TypeId) (s : St) (x : AV) (K : AV → Prop) : Prop :=
  match P.underlying src, P.underlying dst, x with
  | some _, some (.int k), .v (.int _ n) => K (.v (.int k (k.wrap n)))
  | some .string, some .string, .v (.string b) => K (.v (.string b))
  | some (.slice e), some .string, x =>
    P.underlying e = some (.int .u8) ∧ ∃ xs bs, elems s x = some xs ∧ xs.mapM toByte = some bs ∧ K (.v (.string ⟨bs.toArray⟩))
  | some .string, some (.slice e), .v (.string b) => P.underlying e = some (.int .u8) ∧ K (.lst 1 (bytesAV b))
  | _, _, _ => False

/-- A new row, or variable. -/
def St.new (s : St) (nm ver : Nat) (sz : Nat) (ty : TypeId) (box : Bool) (es : List (List AV)) : St :=
  { s with hp := (nm, ⟨sz, ty, ver, 0, box, es⟩) :: s.hp, ctr := ver + 8 }


/-- A struct's, or an array's, cells out of its parts. -/
def fillAV (place : Nat → Option (Nat × Nat)) (cells : List AV) : List (Nat × AV) → Option (List AV)
  | [] => some cells
  | (i, x) :: rest =>
    match place i, cellsOf x with
    | some (off, size), some cs => if cs.length = size ∧ off + size ≤ cells.length then fillAV place (withCells cells off cs) rest else none
    | _, _ => none

def operL (E : Env) (s : St) : List (Nat × Operand) → Option (List (Nat × AV))
  | [] => some []
  | (i, x) :: rest =>
    match oper E s x, operL E s rest with
    | some a, some l => some ((i, a) :: l)
    | _, _ => none
def operA (E : Env) (s : St) : List Operand → Option (List AV)
  | [] => some []
  | x :: rest =>
    match oper E s x, operA E s rest with
    | some a, some l => some (a :: l)
    | _, _ => none

/-- A slice literal's elements: each part is one. -/
def litAV (n : Nat) : List AV → Option (List (List AV))
  | [] => some []
  | x :: rest =>
    match cellsOf x, litAV n rest with
    | some cs, some l => if cs.length = n then some (cs :: l) else none
    | _, _ => none

/-- A bound of a slice's part. -/
def bnd (E : Env) (s : St) : Option Operand → Option (Option Int)
  | none => some none
  | some x => match oper E s x with | some (.v (.int _ n)) => some (some n) | _ => none

def cutw (len : Nat) (lo hi : Option Int) (K : Nat → Nat → Prop) : Prop :=
  match lo, hi with
  | none, none => K 0 len
  | some l, none => 0 ≤ l ∧ l ≤ len ∧ K l.toNat len
  | none, some h => 0 ≤ h ∧ h ≤ len ∧ K 0 h.toNat
  | some l, some h => 0 ≤ l ∧ l ≤ h ∧ h ≤ len ∧ K l.toNat h.toNat

def slicew (E : Env) (t : TypeId) (s : St) (x : AV) (lo hi mx : Option Int) (K : AV → St → Prop) : Prop :=
  match x with
  | .v (.string b) => E.P.underlying t = some .string ∧ mx = none ∧ cutw b.size lo hi fun l h => K (.v (.string (b.extract l h))) s
  | .v (.slice none 0 0) => (sle E.P t).isSome = true ∧ mx = none ∧ cutw 0 lo hi fun _ _ => K (.v (.slice none 0 0)) s
  | .lst sz xs =>
    match sle E.P t with
    | some (_, _, sz', _) => sz = sz' ∧ cutw xs.length lo hi fun l h => (match mx with | none => True | some m => hi.isSome = true ∧ (h : Int) ≤ m ∧ m ≤ xs.length) ∧ K (.lst sz ((xs.drop l).take (h - l))) s
    | none => False
  | .own r ver off len =>
    match sle E.P t, get s.hp r with
    | some (_, _, sz', _), some k => k.ver = ver ∧ k.sz = sz' ∧ mx = none ∧ cutw len lo hi fun l h => K (.own r ver (off + l) (h - l)) s
    | _, _ => False
  | _ => False

mutual
/-- A value that was told of a heap of its own, told of ours. -/
def shift (nm ver : Nat) : AV → AV
  | .agg cs => .agg (shifts nm ver cs)
  | .tup cs => .tup (shifts nm ver cs)
  | .clo f a b => .clo f (shifts nm ver a) (shifts nm ver b)
  | .own r v off len => .own (nm + r) (ver + v) off len
  | .ptr r v i o => .ptr (nm + r) (ver + v) i o
  | x => x
def shifts (nm ver : Nat) : List AV → List AV
  | [] => []
  | c :: cs => shift nm ver c :: shifts nm ver cs
end
def Blk.shift (nm ver j : Nat) (k : Blk) : Blk := { k with ver := ver + j, es := if k.box then k.es.map (shifts nm ver) else k.es }
def St.adds (nm ver : Nat) : Nat → List Blk → St → St
  | _, [], s => s
  | j, k :: ks, s => St.adds nm ver (j + 1) ks { s with hp := s.hp ++ [(nm + j, k.shift nm ver j)] }
/-- The heap that a call hands back. -/
def heapOf : Nat → List Blk → List (Nat × Blk)
  | _, [] => []
  | j, k :: ks => (j, { k with ver := j }) :: heapOf (j + 1) ks
def free (hp : List (Nat × Blk)) (nm : Nat) : Nat → Prop
  | 0 => True
  | n + 1 => get hp (nm + n) = none ∧ free hp nm n

/-- A call that is handed values alone, and writes nothing old: it comes to a result, and rows of the caller's own. -/
def CallW (E : Env) (f : FuncId) (args : List AV) (R : AV → List Blk → Prop) : Prop :=
  ∀ (M : Mem) (w : World) (vs : Array Value), (∀ b o u, M b o = some u → w.cell? ⟨b, o, none⟩ = some u ∧ u.oneCell' = true) →
    (∀ g cs, E.G g = some cs → PRel M (.rptr cs) (.pointer (some ⟨g, 0, none⟩))) → vs.size = args.length →
    (∀ (i : Nat) (x : AV) (v : Value), args[i]? = some x → vs[i]? = some v → PRel M x v) →
    (callFunc f vs).run E.P w = .ok (.enter f vs) w ∧
    Calls E.P f vs w fun e w' => ∃ v r hs M' J', e = .returned v ∧ R r hs ∧ Inv E M w hs.length M' J' ⟨[], heapOf 0 hs, 0⟩ #[] w' ∧ Rel M' J' r v

/-- A call on our own heap. -/
def HCallW (E : Env) (N : Nat) (f : FuncId) (args : List AV) (hp : List (Nat × Blk)) (R : AV → List (Nat × Blk) → Prop) : Prop :=
  ∀ (M0 : Mem) (w0 : World) (c : Nat) (M : Mem) (J : Locs) (w : World) (vs : Array Value), Inv E M0 w0 c M J ⟨[], hp, 0⟩ #[] w → vs.size = args.length →
    (∀ (i : Nat) (x : AV) (v : Value), args[i]? = some x → vs[i]? = some v → Rel M J x v) →
    (callFunc f vs).run E.P w = .ok (.enter f vs) w ∧
    Calls E.P f vs w fun e w' => ∃ v r hp' c' M' J', e = .returned v ∧ R r hp' ∧ Inv E M0 w0 c' M' J' ⟨[], hp', 0⟩ #[] w' ∧ Rel M' J' r v ∧ Sub M M' ∧ SubJ J J'

/-- How many of a slice of our own may be appended to. -/
def appw (E : Env) (nm ver : Nat) (t : TypeId) (s : St) (x : AV) (ys : List (List AV)) (K : AV → St → Prop) : Prop :=
  match sle E.P t with
  | some (e, some z, n, by') =>
    0 < n ∧ z.cells.size = n ∧ (∀ y ∈ ys, y.length = n) ∧
    (match x with
    | .v (.slice none 0 0) => ys.length ≤ maxLen ∧ ys.length * by' ≤ 140737488355328 ∧ get s.hp nm = none ∧ K (.own nm ver 0 ys.length) (s.new nm ver n e false ys)
    | .own r v off len =>
      (match get s.hp r with
      | some k => k.ver = v ∧ k.box = false ∧ k.sz = n ∧ k.ty = e ∧ off = 0 ∧ len = k.es.length ∧ len + ys.length ≤ maxLen ∧ (len + ys.length) * by' ≤ 140737488355328 ∧
          K (.own r ver 0 (len + ys.length)) { s with hp := set s.hp r { k with ver := ver, es := k.es ++ ys }, ctr := ver + 8 }
      | none => False)
    | _ => False)
  | _ => False

def lenT (P : Program) (t : TypeId) : AV → Prop
  | .v (.string _) => P.underlying t = some .string
  | _ => (sle P t).isSome = true

def callw (E : Env) (nm ver : Nat) (cl : Call) (s : St) (K : AV → St → Prop) : Prop :=
  match cl.callee, cl.args.toList, cl.argTypes.toList with
  | .builtin .len, [x], [t] =>
    (match oper E s x with
    | some a => (match lenOf a with | some n => lenT E.P t a ∧ K (.v (.int .i64 n)) s | none => False)
    | none => False)
  | .builtin .min, [x, y], _ =>
    (match oper E s x, oper E s y with
    | some (.v (.int k a)), some (.v (.int _ b)) => K (.v (.int k (min a b))) s
    | _, _ => False)
  | .builtin .max, [x, y], _ =>
    (match oper E s x, oper E s y with
    | some (.v (.int k a)), some (.v (.int _ b)) => K (.v (.int k (max a b))) s
    | _, _ => False)
  | .builtin .append, [x, y], [t, t'] =>
    (match oper E s x, oper E s y with
    | some a, some (.v (.string b)) => E.P.underlying t' = some .string ∧ appw E nm ver t s a (bytesAV b) K
    | some a, some b => (sle E.P t').isSome = true ∧ (match elems s b with | some ys => appw E nm ver t s a ys K | none => False)
    | _, _ => False)
  | .value f, args, _ =>
    (match oper E s f, operA E s args with
    | some (.clo (.func g) first caps), some as =>
      (s.pures (first ++ as ++ caps) fun ys s' => CallW E.base g ys fun r hs => hs.length ≤ 8 ∧ free s'.hp nm hs.length ∧ K (shift nm ver r) { s'.adds nm ver 0 hs with ctr := ver + hs.length }) ∨
      HCallW E.base (E.N + 65536) g (first ++ as ++ caps) s.hp fun r hp' => ∀ c', ver + 8 ≤ c' → K r { s with hp := hp', ctr := c' }
    | _, _ => False)
  | _, _, _ => False

def opw (E : Env) (nm ver : Nat) (op : Op) (s : St) (K : AV → St → Prop) : Prop :=
  match op with
  | .move x | .assign x => match oper E s x with | some a => K a s | none => False
  | .pick c a b =>
    match oper E s c with
    | some (.v (.bool t)) => (t = true → match oper E s a with | some x => K x s | none => False) ∧ (t = false → match oper E s b with | some x => K x s | none => False)
    | _ => False
  | .alloc t =>
    match ti E.P t with
    | some (some z, n, _) => (match cellsOf (ofV z) with | some cs => get s.hp nm = none ∧ K (.ptr nm ver 0 0) (s.new nm ver cs.length t true [cs]) | none => False)
    | _ => False
  | .box t x =>
    match oper E s x with
    | some a => (match cellsOf a with | some cs => get s.hp nm = none ∧ K (.ptr nm ver 0 0) (s.new nm ver cs.length t true [cs]) | none => False)
    | none => False
  | .build t parts =>
    match lay E.P t, operL E s parts.toList with
    | some (z, places), some l => (match fillAV (places[·]?) z l with | some cs => K (.agg cs) s | none => False)
    | _, _ => False
  | .buildSlice t len parts =>
    match sle E.P t, operL E s parts.toList with
    | some (e, some z, n, _), some l => (n * len ≤ 16777216 ∧ 0 < n ∧ l.map Prod.fst = List.range len ∧ z.cells.size = n) ∧
          s.pures (l.map Prod.snd) fun ys s' => match litAV n ys with | some es => get s'.hp nm = none ∧ K (.own nm ver 0 len) (s'.new nm ver n e false es) | none => False
    | _, _ => False
  | .load t p =>
    match oper E s p with
    | some a => (match cellsAt s a with | some cs => (match partOf E.P t cs with | some x => K x s | none => False) | none => False)
    | none => False
  | .nilCheck x =>
    match oper E s x with
    | some (.v (.pointer none)) | some (.v .nilFunc) | some (.v .nilIface) => False
    | some a => isPtr a = true ∧ K a s
    | none => False
  | .binOp op t x y _ => match oper E s x, oper E s y with | some a, some b => binw E.P op t a b fun v => K (.v v) s | _, _ => False
  | .unOp op _ x =>
    match op, oper E s x with
    | .not, some (.v (.bool b)) => K (.v (.bool (!b))) s
    | .neg, some (.v (.int k n)) => K (.v (.int k (k.wrap (0 - n)))) s
    | _, _ => False
  | .convert src dst x => match oper E s x with | some a => convw E.P src dst s a fun y => K y s | none => False
  | .makeFunc fn first caps => match operA E s first.toList, operA E s caps.toList with | some a, some b => K (.clo fn a b) s | _, _ => False
  | .fieldAddr t x f =>
    match fld E.P t f, oper E s x with
    | some (o, _, n), some (.rptr cs) => 0 < n ∧ K (.rptr (cs.drop o)) s
    | some (o, _, n), some (.ptr r ver' i o') => 0 < n ∧ K (.ptr r ver' i (o' + o)) s
    | _, _ => False
  | .field t x f =>
    match fld E.P t f, oper E s x with
    | some (o, t', _), some (.agg cs) => (match partOf E.P t' (cs.drop o) with | some y => K y s | none => False)
    | _, _ => False
  | .indexAddr t x i =>
    match sle E.P t, arr E.P t, oper E s x, oper E s i with
    | some (_, _, sz, _), _, some (.lst z xs), some (.v (.int _ n)) => z = sz ∧ 0 ≤ n ∧ n < xs.length ∧ K (.rptr (xs.getD n.toNat [])) s
    | some (_, _, sz, _), _, some (.own r ver' off len), some (.v (.int _ n)) =>
      0 ≤ n ∧ n < len ∧ (match get s.hp r with | some k => k.ver = ver' ∧ k.sz = sz | none => False) ∧ K (.ptr r ver' (off + n.toNat) 0) s
    | _, some (m, _, sz), some (.rptr cs), some (.v (.int _ n)) => 0 ≤ n ∧ n < m ∧ K (.rptr (cs.drop (n.toNat * sz))) s
    | _, some (m, _, sz), some (.ptr r ver' j o), some (.v (.int _ n)) => 0 ≤ n ∧ n < m ∧ K (.ptr r ver' j (o + n.toNat * sz)) s
    | _, _, _, _ => False
  | .index t x i =>
    match E.P.underlying t, oper E s x, oper E s i with
    | some .string, some (.v (.string b)), some (.v (.int _ n)) => 0 ≤ n ∧ ∃ h : n.toNat < b.size, K (.v (.int .u8 (b[n.toNat]'h).toNat)) s
    | _, some (.agg cs), some (.v (.int _ n)) =>
      (match arr E.P t with
      | some (m, e, sz) => 0 ≤ n ∧ n < m ∧ (match partOf E.P e (cs.drop (n.toNat * sz)) with | some y => K y s | none => False)
      | none => False)
    | _, _, _ => False
  | .extract x i => match oper E s x with | some (.tup xs) => (match xs[i]? with | some a => K a s | none => False) | _ => False
  | .slice t x lo hi mx =>
    match oper E s x, bnd E s lo, bnd E s hi, bnd E s mx with
    | some a, some l, some h, some m => slicew E t s a l h m K
    | _, _, _, _ => False
  | .makeSlice t l cp =>
    match sle E.P t, oper E s l, oper E s cp with
    | some (e, some z, n, by'), some (.v (.int .i64 a)), some (.v (.int .i64 b)) =>
      (match cellsOf (ofV z) with
      | some cs => b = a ∧ 0 ≤ a ∧ a ≤ maxLen ∧ a * by' ≤ 140737488355328 ∧ 0 < n ∧ cs.length = n ∧ get s.hp nm = none ∧ K (.own nm ver 0 a.toNat) (s.new nm ver n e false (List.replicate a.toNat cs))
      | none => False)
    | _, _, _ => False
  | .call cl => callw E nm ver cl s K
  | _ => False
end Go.Proofs.YtdgpilapblipbaaDoor.Abs
