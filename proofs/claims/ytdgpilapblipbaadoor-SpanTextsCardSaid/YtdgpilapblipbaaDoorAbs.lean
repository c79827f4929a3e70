/- A calculus over values: slices as lists, own rows and boxes in a heap of names. The definitions. -/
import Derived.WalkKit
import Derived.Laws.AppendOwn
import Derived.Laws.MakeOwn
import Derived.Laws.OwnMore
import Derived.Laws.Rows
import Derived.Laws.Slices
import Derived.Laws.BytesString
namespace Go.Proofs.YtdgpilapblipbaaDoor.Abs
open Go
set_option linter.unusedSimpArgs false

/-- What a value is, with no memory in sight: a scalar; a struct's or an array's cells; several results; a slice that nobody writes any more (each element its cells); a pointer into such; a slice of a row of the call's own; a pointer into one, or to a variable; a function. -/
inductive AV where
  | v (x : Value)
  | agg (cs : List AV)
  | tup (vs : List AV)
  | lst (sz : Nat) (xs : List (List AV))
  | rptr (cs : List AV)
  | own (r ver off len : Nat)
  | ptr (r ver i o : Nat)
  | clo (fn : Fn) (first caps : List AV)
  deriving Inhabited

/-- A row, or a variable, of the call's own. -/
structure Blk where
  sz : Nat
  ty : TypeId
  ver : Nat
  frz : Nat
  box : Bool
  es : List (List AV)

structure St where
  sl : List (Nat × AV)
  hp : List (Nat × Blk)
  ctr : Nat

structure Env where
  P : Program
  G : Nat → Option (List AV)
  keep : List Nat
  N : Nat
def Env.base (E : Env) : Env := { E with keep := [], N := 0 }

def get {α : Type} : List (Nat × α) → Nat → Option α
  | [], _ => none
  | (k, x) :: l, t => match Nat.beq t k with | true => some x | false => get l t
theorem get_nil {α : Type} (t : Nat) : get ([] : List (Nat × α)) t = none := rfl
theorem get_cons {α : Type} (l : List (Nat × α)) (k t : Nat) (x : α) : get ((k, x) :: l) t = if t = k then some x else get l t := by
  simp only [get]
  split
  · rename_i h; rw [if_pos (Nat.eq_of_beq_eq_true h)]
  · rename_i h; rw [if_neg (Nat.ne_of_beq_eq_false h)]

def del {α : Type} : List (Nat × α) → Nat → List (Nat × α)
  | [], _ => []
  | (k, x) :: l, t => if t = k then del l t else (k, x) :: del l t

def set {α : Type} (l : List (Nat × α)) (t : Nat) (y : α) : List (Nat × α) := (t, y) :: l

def St.put (s : St) (d : Option Tmp) (x : AV) : St :=
  match d with
  | some t => { s with sl := (t, x) :: s.sl }
  | none => s
def St.drop (s : St) (d : Option Tmp) : St :=
  match d with
  | some t => { s with sl := del s.sl t }
  | none => s

def ofV : Value → AV
  | .agg cs => if cs.toList.all Value.oneCell' then .agg (cs.toList.map AV.v) else .v (.agg cs)
  | x => .v x

def oper (E : Env) (s : St) : Operand → Option AV
  | .tmp t => get s.sl t
  | .const v => some (ofV v)
  | .global g => (E.G g).map .rptr
  | .func f => some (.clo (.func f) [] [])

/-- A value's cells. -/
def cellsOf : AV → Option (List AV)
  | .agg cs => some cs
  | .tup _ => none
  | .v x => if x.oneCell' then some [.v x] else none
  | x => some [x]

/-- Of a type: its zero value, its cells, its bytes. -/
def ti (P : Program) (t : TypeId) : Option (Option Value × Nat × Nat) := (P.info? t).map fun i => (i.zero, i.size, i.bytes)

def isAggT : TypeDesc → Bool
  | .struct _ | .array _ _ => true
  | _ => false

/-- A slice's elements, each its cells. -/
def elems (s : St) : AV → Option (List (List AV))
  | .lst _ xs => some xs
  | .v (.slice none 0 0) => some []
  | .own r ver off len =>
    match get s.hp r with
    | some k => if k.ver = ver ∧ off + len ≤ k.es.length ∧ k.box = false then some ((k.es.drop off).take len) else none
    | none => none
  | _ => none

/-- A slice's length. -/
def lenOf : AV → Option Nat
  | .lst _ xs => some xs.length
  | .v (.slice none 0 0) => some 0
  | .own _ _ _ len => some len
  | .v (.string b) => some b.size
  | _ => none

/-- Of a type: is it a struct or an array, and its cells. -/
def tsz (P : Program) (t : TypeId) : Option (Bool × Nat) :=
  match P.underlying t, ti P t with
  | some d, some (_, n, _) => some (isAggT d, n)
  | _, _ => none
/-- Of a struct's field: where it lies, its type, its cells. -/
def fld (P : Program) (t : TypeId) (f : Nat) : Option (Nat × TypeId × Nat) :=
  match P.underlying t with
  | some (.struct fields) => (match fields[f]? with | some fd => (ti P fd.type).map fun x => (fd.offset, fd.type, x.2.1) | none => none)
  | _ => none
/-- Of a slice's type: its elements', their zero value, cells, bytes. -/
def sle (P : Program) (t : TypeId) : Option (TypeId × Option Value × Nat × Nat) :=
  match P.underlying t with
  | some (.slice e) => (ti P e).map fun x => (e, x)
  | _ => none
/-- Of an array's type: how many elements, their type, their cells. -/
def arr (P : Program) (t : TypeId) : Option (Nat × TypeId × Nat) :=
  match P.underlying t with
  | some (.array n e) => (ti P e).map fun x => (n, e, x.2.1)
  | _ => none
/-- Of a struct's, or an array's, type: its zero value's cells, and the places of its parts. -/
def lay (P : Program) (t : TypeId) : Option (List AV × List (Nat × Nat)) :=
  match P.underlying t, ti P t with
  | some (.struct fields), some (some (.agg z), _, _) =>
    if z.toList.all Value.oneCell' then (fields.toList.mapM fun f => (P.info? f.type).map fun i => (f.offset, i.size)).map fun l => (z.toList.map .v, l) else none
  | some (.array n e), some (some (.agg z), _, _) => if z.toList.all Value.oneCell' then (P.info? e).map fun i => (z.toList.map .v, (List.range n).map fun j => (j * i.size, i.size)) else none
  | _, _ => none

/-- A part of a value's cells, of a type. -/
def partOf (P : Program) (t : TypeId) (cs : List AV) : Option AV :=
  match tsz P t with
  | some (true, n) => if n ≤ cs.length then some (.agg (cs.take n)) else none
  | some (false, _) => cs.head?
  | none => none

/-- What stands behind a pointer. -/
def cellsAt (s : St) : AV → Option (List AV)
  | .rptr cs => some cs
  | .ptr r ver i o =>
    match get s.hp r with
    | some k => if k.ver = ver then (k.es[i]?).map (·.drop o) else none
    | none => none
  | _ => none

def withCells (e : List AV) (o : Nat) (cs : List AV) : List AV := e.take o ++ cs ++ e.drop (o + cs.length)

/-- A value with no row of the call's own in it: each as it reads now. -/
def pure1 (s : St) : Nat → AV → Option AV
  | 0, _ => none
  | n + 1, .agg cs => (cs.mapM (pure1 s n)).map .agg
  | n + 1, .tup cs => (cs.mapM (pure1 s n)).map .tup
  | n + 1, .clo f a b =>
    match a.mapM (pure1 s n), b.mapM (pure1 s n) with
    | some a', some b' => some (.clo f a' b')
    | _, _ => none
  | _ + 1, .own r ver off len =>
    match get s.hp r with
    | some k => if k.ver = ver ∧ off + len ≤ k.es.length ∧ k.box = false then some (.lst k.sz ((k.es.drop off).take len)) else none
    | none => none
  | _ + 1, .ptr _ _ _ _ => none
  | _ + 1, x => some x

/-- Which rows are read by that, and how far. -/
def reads : Nat → AV → List (Nat × Nat)
  | 0, _ => []
  | n + 1, .agg cs => cs.flatMap (reads n)
  | n + 1, .tup cs => cs.flatMap (reads n)
  | n + 1, .clo _ a b => a.flatMap (reads n) ++ b.flatMap (reads n)
  | _ + 1, .own r _ off len => [(r, off + len)]
  | _ + 1, _ => []

/-- They are written no more, so far. -/
def St.freeze (s : St) : List (Nat × Nat) → St
  | [] => s
  | (r, n) :: l =>
    match get s.hp r with
    | some k => St.freeze { s with hp := set s.hp r { k with frz := max k.frz (min n k.es.length) } } l
    | none => St.freeze s l

def deep : Nat := 6
def St.pure (s : St) (x : AV) (K : AV → St → Prop) : Prop :=
  match pure1 s deep x with
  | some y => K y (s.freeze (reads deep x))
  | none => False
def St.pures (s : St) : List AV → (List AV → St → Prop) → Prop
  | [], K => K [] s
  | x :: l, K => s.pure x fun y s' => s'.pures l fun l' s'' => K (y :: l') s''
end Go.Proofs.YtdgpilapblipbaaDoor.Abs
