/- A calculus over values: the steps, told so that they can be reckoned. -/
import Derived.Test.YtdgpilapblipbaaDoorAbsEnd
namespace Go.Proofs.YtdgpilapblipbaaDoor.Abs
open Go
set_option linter.unusedSimpArgs false
set_option linter.unusedVariables false

inductive TK where
  | str
  | int (k : IntKind)
  | bool
  | ptr
  | sl (e : TypeId)
  | other
  deriving Repr
def kindOf (P : Program) (t : TypeId) : Option TK :=
  match P.underlying t with
  | some .string => some .str
  | some (.int k) => some (.int k)
  | some .bool => some .bool
  | some (.pointer _) => some .ptr
  | some (.slice e) => some (.sl e)
  | some _ => some .other
  | none => none

structure Tab where
  knd : List (Nat × TK)
  tz : List (Nat × (Bool × Nat))
  zc : List (Nat × List AV)
  sl : List (Nat × (TypeId × Nat × Nat × List AV))
  ar : List (Nat × (Nat × TypeId × Nat))
  ly : List (Nat × (List AV × List (Nat × Nat)))
  fd : List (Nat × List (Nat × TypeId × Nat))
  eq : List Nat

structure TabOK (P : Program) (T : Tab) : Prop where
  knd : ∀ t k, get T.knd t = some k → kindOf P t = some k
  tz : ∀ t x, get T.tz t = some x → tsz P t = some x
  zc : ∀ t cs, get T.zc t = some cs → ∃ z n b, ti P t = some (some z, n, b) ∧ cellsOf (ofV z) = some cs
  sl : ∀ t e n b cs, get T.sl t = some (e, n, b, cs) → ∃ z, sle P t = some (e, some z, n, b) ∧ cellsOf (ofV z) = some cs ∧ z.cells.size = n ∧ 0 < n ∧ cs.length = n
  ar : ∀ t x, get T.ar t = some x → arr P t = some x
  ly : ∀ t x, get T.ly t = some x → lay P t = some x
  fd : ∀ t l, get T.fd t = some l → ∀ f x, l[f]? = some x → fld P t f = some x
  eq : ∀ t, T.eq.contains t = true → SpanEq P t

theorem get_all {α : Type} {p : Nat → α → Prop} : ∀ {l : List (Nat × α)}, (∀ q ∈ l, p q.1 q.2) → ∀ t x, get l t = some x → p t x
  | [], _, t, x, h => by simp [get_nil] at h
  | (k, y) :: l, ha, t, x, h => by
    rw [get_cons] at h
    split at h
    · rename_i e; subst e; obtain rfl := Option.some.inj h; exact ha (t, y) (by simp)
    · exact get_all (fun q hq => ha q (by simp [hq])) t x h

namespace Ev
/-- A condition that stands beside. -/
def Side (p : Prop) : Prop := p
theorem side {p : Prop} (h : Side p) : p := h
theorem Side.of {p : Prop} (h : p) : Side p := h
structure Sided (p Q : Prop) : Prop where
  side : p
  rest : Q
theorem sided {p Q : Prop} (k : Q) (h : Side p) : Sided p Q := ⟨h, k⟩
/-- A branch. -/
@[reducible] def brK (b : Bool) (A B : Prop) : Prop := Bool.rec (motive := fun _ => Prop) B A b
theorem br {b : Bool} {A B : Prop} (h : b = true → A) (k : b = false → B) : brK b A B := by
  cases b
  · exact k rfl
  · exact h rfl
theorem br_dec {p : Prop} [Decidable p] {A B : Prop} (h : p → A) (k : ¬ p → B) : brK (decide p) A B := br (fun e => h (of_decide_eq_true e)) (fun e => k (of_decide_eq_false e))
theorem br_not {b : Bool} {A B : Prop} (h : brK b B A) : brK (!b) A B := by cases b <;> exact h
theorem brK_t {b : Bool} {A B : Prop} (h : brK b A B) (e : b = true) : A := by subst e; exact h
theorem brK_f {b : Bool} {A B : Prop} (h : brK b A B) (e : b = false) : B := by subst e; exact h
theorem br_t {A B : Prop} (h : A) : brK true A B := h
theorem br_f {A B : Prop} (h : B) : brK false A B := h
/-- A branch of the code. -/
def brC (b : Bool) (A B : Prop) : Prop := match b with | true => A | false => B
theorem c_br {b : Bool} {A B : Prop} (h : b = true → A) (k : b = false → B) : brC b A B := by
  cases b
  · exact k rfl
  · exact h rfl
theorem c_dec {p : Prop} [Decidable p] {A B : Prop} (h : p → A) (k : ¬ p → B) : brC (decide p) A B := c_br (fun e => h (of_decide_eq_true e)) (fun e => k (of_decide_eq_false e))
theorem c_not {b : Bool} {A B : Prop} (h : brC b B A) : brC (!b) A B := by cases b <;> exact h
theorem c_t {A B : Prop} (h : A) : brC true A B := h
theorem c_f {A B : Prop} (h : B) : brC false A B := h
theorem brC_t {b : Bool} {A B : Prop} (h : brC b A B) (e : b = true) : A := by subst e; exact h
theorem brC_f {b : Bool} {A B : Prop} (h : brC b A B) (e : b = false) : B := by subst e; exact h
/-- What must hold of the text. -/
structure chk (b : Bool) (A : Prop) : Prop where
  ok : b = true
  rest : A
def optK (o : Option AV) (K : AV → Prop) : Prop := match o with | some x => K x | none => False
def chkS (b : Bool) (A : Prop) : Prop := match b with | true => A | false => False
theorem chk_k {b : Bool} {A : Prop} (k : A) (h : b = true) : chk b A := ⟨h, k⟩
theorem nbeq (n : Nat) : Nat.beq n n = true := Nat.beq_refl n
/-- An element. -/
def elK (es : List (List AV)) (i : Nat) (K : List AV → Prop) : Prop := match es[i]? with | some e => K e | none => False
theorem el_map {α : Type} {f : α → List AV} {l : List α} {i : Nat} {K : List AV → Prop} (h : Side (i < l.length)) (k : ∀ h : i < l.length, K (f l[i])) : elK (l.map f) i K := by
  have h : i < l.length := h
  unfold elK; rw [List.getElem?_map, List.getElem?_eq_getElem h]; exact k h
theorem el_of {es : List (List AV)} {i : Nat} {K : List AV → Prop} (e : List AV) (h : es[i]? = some e) (k : K e) : elK es i K := by unfold elK; rw [h]; exact k

/-- A byte of a string. -/
def byt (b : ByteArray) (i : Nat) : Int := ((b.data.toList.getD i 0).toNat : Int)
theorem byt_eq {b : ByteArray} {i : Nat} (h : i < b.size) : byt b i = ((b[i]'h).toNat : Int) := by
  unfold byt
  have h' : i < b.data.toList.length := by simpa using h
  rw [List.getD_eq_getElem?_getD, List.getElem?_eq_getElem h']
  rfl
theorem byt_lt (b : ByteArray) (i : Nat) : 0 ≤ byt b i ∧ byt b i < 256 := by
  unfold byt; have := (b.data.toList.getD i 0).toNat_lt; omega

@[reducible] def Cn := List (Nat × AV) → List (Nat × Blk) → Nat → Prop

def putK (d : Option Tmp) (x : AV) (sl : List (Nat × AV)) (Q : List (Nat × AV) → Prop) : Prop := match d with | some t => Q ((t, x) :: sl) | none => Q sl
def ofE : Value → AV
  | .agg cs => ofV (.agg cs)
  | x => .v x
def operE (E : Env) (sl : List (Nat × AV)) : Operand → Option AV
  | .tmp t => get sl t
  | .const v => (match v with | .agg cs => some (ofV (.agg cs)) | x => some (.v x))
  | .global g => (E.G g).map .rptr
  | .func f => some (.clo (.func f) [] [])
def argsE (E : Env) (sl : List (Nat × AV)) : List Operand → Option (List AV)
  | [] => some []
  | x :: l => match operE E sl x with | some a => (match argsE E sl l with | some r => some (a :: r) | none => none) | none => none

/-- With no row of the call's own in it; and which are read. -/
def purL (f : AV → (AV → List (Nat × Nat) → Prop) → Prop) : List AV → (List AV → List (Nat × Nat) → Prop) → Prop
  | [], K => K [] []
  | c :: l, K => f c fun c' m => purL f l fun l' m' => K (c' :: l') (m ++ m')
def purK (hp : List (Nat × Blk)) : Nat → AV → (AV → List (Nat × Nat) → Prop) → Prop
  | 0, _, _ => False
  | n + 1, .agg cs, K => purL (purK hp n) cs fun l m => K (.agg l) m
  | n + 1, .tup cs, K => purL (purK hp n) cs fun l m => K (.tup l) m
  | n + 1, .clo f a b, K => purL (purK hp n) a fun l m => purL (purK hp n) b fun l' m' => K (.clo f l l') (m ++ m')
  | n + 1, .own r ver off len, K =>
    match get hp r with
    | some k => chk (Nat.beq k.ver ver && !k.box) (Sided (off + len ≤ k.es.length) (K (.lst k.sz ((k.es.drop off).take len)) [(r, off + len)]))
    | none => False
  | n + 1, .ptr _ _ _ _, K => False
  | n + 1, x, K => K x []
def frzK (hp : List (Nat × Blk)) : List (Nat × Nat) → (List (Nat × Blk) → Prop) → Prop
  | [], R => R hp
  | (r, n) :: l, R => match get hp r with | some k => frzK ((r, { k with frz := max k.frz (min n k.es.length) }) :: hp) l R | none => frzK hp l R
def pursK (sl : List (Nat × AV)) (hp : List (Nat × Blk)) : List AV → (List AV → List (Nat × Blk) → Prop) → Prop
  | [], K => K [] hp
  | x :: l, K => purK hp deep x fun y m => frzK hp m fun hp' => pursK sl hp' l fun l' hp'' => K (y :: l') hp''

def partE (T : Tab) (t : TypeId) (cs : List AV) (K : AV → Prop) : Prop :=
  match get T.tz t with
  | some (true, n) => Sided (n ≤ cs.length) (K (.agg (cs.take n)))
  | some (false, _) => (match cs with | c :: _ => K c | [] => False)
  | none => False

def intE (op : BinOp) (k : IntKind) (a b : Int) (K : Value → Prop) : Prop :=
  match op with
  | .add => K (.int k (k.wrap (a + b)))
  | .sub => K (.int k (k.wrap (a - b)))
  | .mul => K (.int k (k.wrap (a * b)))
  | .quo => Sided (b ≠ 0) (K (.int k (k.wrap (a.tdiv b))))
  | .rem => Sided (b ≠ 0) (K (.int k (a.tmod b)))
  | .and => K (.int k (bitsOf .and k a b))
  | .or => K (.int k (bitsOf .or k a b))
  | .xor => K (.int k (bitsOf .xor k a b))
  | .andNot => K (.int k (bitsOf .andNot k a b))
  | .shl => Sided (0 ≤ b) (K (.int k (k.wrap (a * 2 ^ min b.toNat k.bits))))
  | .shr => Sided (0 ≤ b) (K (.int k (a.fdiv (2 ^ min b.toNat k.bits))))
  | .eql => K (.bool (decide (a = b)))
  | .neq => K (.bool (!decide (a = b)))
  | .lss => K (.bool (decide (a < b)))
  | .leq => K (.bool (decide (a ≤ b)))
  | .gtr => K (.bool (decide (b < a)))
  | .geq => K (.bool (decide (b ≤ a)))
def kindEq : IntKind → IntKind → Bool := fun a b => decide (a = b)
def isShift : BinOp → Bool | .shl | .shr => true | _ => false
def binE (T : Tab) (op : BinOp) (t : TypeId) (x y : AV) (K : Value → Prop) : Prop :=
  match x, y with
  | .v (.int k a), .v (.int k' b) => chkS (isShift op || kindEq k k') (intE op k a b K)
  | .v (.string a), .v (.string b) =>
    (match op with
    | .add => Sided (a.size + b.size ≤ maxLen) (K (.string (a ++ b)))
    | .eql => K (.bool (decide (a = b)))
    | .neq => K (.bool (!decide (a = b)))
    | _ => False)
  | .v (.bool a), .v (.bool b) =>
    (match op, get T.knd t with
    | .eql, some .bool => K (.bool (a == b))
    | .neq, some .bool => K (.bool (a != b))
    | _, _ => False)
  | .agg [.v (.int .i64 a), .v (.int .i64 b), .v (.string s)], .agg [.v (.int .i64 a'), .v (.int .i64 b'), .v (.string s')] =>
    (match op, T.eq.contains t with
    | .eql, true => K (.bool (decide (a = a' ∧ b = b' ∧ s = s')))
    | .neq, true => K (.bool (!decide (a = a' ∧ b = b' ∧ s = s')))
    | _, _ => False)
  | .v (.pointer none), .v (.pointer none) =>
    (match op, get T.knd t with
    | .eql, some .ptr => K (.bool true)
    | .neq, some .ptr => K (.bool false)
    | _, _ => False)
  | p, .v (.pointer none) =>
    (match op, get T.knd t, isPtr p with
    | .eql, some .ptr, true => K (.bool false)
    | .neq, some .ptr, true => K (.bool true)
    | _, _, _ => False)
  | _, _ => False

def elsK (hp : List (Nat × Blk)) (x : AV) (K : List (List AV) → Prop) : Prop :=
  match x with
  | .lst _ xs => K xs
  | .v (.slice none 0 0) => K []
  | .own r ver off len =>
    (match get hp r with
    | some k => chk (Nat.beq k.ver ver && !k.box) (Sided (off + len ≤ k.es.length) (K ((k.es.drop off).take len)))
    | none => False)
  | _ => False

def conE (T : Tab) (src dst : TypeId) (hp : List (Nat × Blk)) (x : AV) (K : AV → Prop) : Prop :=
  match get T.knd src, get T.knd dst, x with
  | some _, some (.int k), .v (.int _ n) => K (.v (.int k (k.wrap n)))
  | some .str, some .str, .v (.string b) => K (.v (.string b))
  | some .str, some (.sl e), .v (.string b) =>
    (match get T.knd e with
    | some (.int .u8) => K (.lst 1 (bytesAV b))
    | _ => False)
  | some (.sl e), some .str, x =>
    (match get T.knd e with
    | some (.int .u8) => elsK hp x fun xs => (match xs.mapM toByte with | some bs => K (.v (.string ⟨bs.toArray⟩)) | none => False)
    | _ => False)
  | _, _, _ => False

def fillE (places : List (Nat × Nat)) (cells : List AV) : List (Nat × AV) → (List AV → Prop) → Prop
  | [], K => K cells
  | (i, x) :: rest, K =>
    match places[i]?, cellsOf x with
    | some (off, size), some cs => chkS (Nat.beq cs.length size && Nat.ble (off + size) cells.length) (fillE places (withCells cells off cs) rest K)
    | _, _ => False
def partsE (E : Env) (sl : List (Nat × AV)) : List (Nat × Operand) → Option (List (Nat × AV))
  | [] => some []
  | (i, x) :: l => match operE E sl x with | some a => (match partsE E sl l with | some r => some ((i, a) :: r) | none => none) | none => none
def rangeB : Nat → List (Nat × AV) → Bool
  | _, [] => true
  | j, (i, _) :: l => Nat.beq i j && rangeB (j + 1) l
def litE (n : Nat) : List AV → Option (List (List AV))
  | [] => some []
  | x :: rest =>
    match cellsOf x with
    | some cs => (match Nat.beq cs.length n with | true => (match litE n rest with | some l => some (cs :: l) | none => none) | false => none)
    | none => none
def bndE (E : Env) (sl : List (Nat × AV)) : Option Operand → Option (Option Int)
  | none => some none
  | some x => match operE E sl x with | some (.v (.int _ n)) => some (some n) | _ => none
def cutE (len : Nat) (lo hi : Option Int) (K : Nat → Nat → Prop) : Prop :=
  match lo, hi with
  | none, none => K 0 len
  | some l, none => Sided (0 ≤ l ∧ l ≤ len) (K l.toNat len)
  | none, some h => Sided (0 ≤ h ∧ h ≤ len) (K 0 h.toNat)
  | some l, some h => Sided (0 ≤ l ∧ l ≤ h ∧ h ≤ len) (K l.toNat h.toNat)
def sliceE (T : Tab) (t : TypeId) (hp : List (Nat × Blk)) (x : AV) (lo hi mx : Option Int) (K : AV → Prop) : Prop :=
  match x with
  | .v (.string b) => (match get T.knd t, mx with | some .str, none => cutE b.size lo hi fun l h => K (.v (.string (b.extract l h))) | _, _ => False)
  | .v (.slice none 0 0) => (match get T.sl t, mx with | some _, none => cutE 0 lo hi fun _ _ => K (.v (.slice none 0 0)) | _, _ => False)
  | .lst sz xs =>
    (match get T.sl t with
    | some (_, sz', _) => chkS (Nat.beq sz sz') (cutE xs.length lo hi fun l h => (match mx with | none => K (.lst sz ((xs.drop l).take (h - l))) | some m => Sided (hi.isSome = true ∧ (h : Int) ≤ m ∧ m ≤ xs.length) (K (.lst sz ((xs.drop l).take (h - l))))))
    | none => False)
  | .own r ver off len =>
    (match get T.sl t, get hp r, mx with
    | some (_, sz', _), some k, none => chk (Nat.beq k.ver ver && Nat.beq k.sz sz') (cutE len lo hi fun l h => K (.own r ver (off + l) (h - l)))
    | _, _, _ => False)
  | _ => False
def appE (T : Tab) (nm : Nat) (t : TypeId) (hp : List (Nat × Blk)) (ct : Nat) (x : AV) (ys : List (List AV)) (K : AV → List (Nat × Blk) → Nat → Prop) : Prop :=
  match get T.sl t with
  | some (e, n, by', _) =>
    (match x with
    | .v (.slice none 0 0) =>
      (match get hp nm with
      | none => Sided ((∀ y ∈ ys, y.length = n) ∧ ys.length ≤ maxLen ∧ ys.length * by' ≤ 140737488355328) (K (.own nm ct 0 ys.length) ((nm, ⟨n, e, ct, 0, false, ys⟩) :: hp) (ct + 8))
      | some _ => False)
    | .own r v off len =>
      (match get hp r with
      | some k => chk (Nat.beq k.ver v && !k.box && Nat.beq k.sz n && Nat.beq k.ty e) (Sided (off = 0 ∧ len = k.es.length ∧ (∀ y ∈ ys, y.length = n) ∧ len + ys.length ≤ maxLen ∧ (len + ys.length) * by' ≤ 140737488355328)
          (K (.own r ct 0 (len + ys.length)) ((r, ⟨k.sz, k.ty, ct, k.frz, k.box, k.es ++ ys⟩) :: hp) (ct + 8)))
      | none => False)
    | _ => False)
  | none => False
/-- A call. -/
structure CallX (E : Env) (f : FuncId) (args : List AV) (hp : List (Nat × Blk)) (nm ct : Nat) (K : AV → List (Nat × Blk) → Nat → Prop) : Prop where
  out : CallW E f args fun r hs => hs.length ≤ 8 ∧ free hp nm hs.length ∧ K (shift nm ct r) (St.adds nm ct 0 hs ⟨[], hp, 0⟩).hp (ct + hs.length)
/-- A call on our own heap. -/
structure HCallX (E : Env) (N : Nat) (f : FuncId) (args : List AV) (hp : List (Nat × Blk)) (ct : Nat) (K : AV → List (Nat × Blk) → Nat → Prop) : Prop where
  out : HCallW E N f args hp fun r hp' => ∀ c', ct + 8 ≤ c' → K r hp' c'
def callE (E : Env) (T : Tab) (hs : List FuncId) (nm : Nat) (cl : Call) (sl : List (Nat × AV)) (hp : List (Nat × Blk)) (ct : Nat) (K : AV → List (Nat × Blk) → Nat → Prop) : Prop :=
  match cl.callee, cl.args.toList, cl.argTypes.toList with
  | .builtin .len, [x], [t] =>
    (match operE E sl x with
    | some (.v (.string b)) => (match get T.knd t with | some .str => K (.v (.int .i64 b.size)) hp ct | _ => False)
    | some a => (match lenOf a, get T.sl t with | some n, some _ => K (.v (.int .i64 n)) hp ct | _, _ => False)
    | none => False)
  | .builtin .min, [x, y], _ =>
    (match operE E sl x, operE E sl y with
    | some (.v (.int k a)), some (.v (.int _ b)) => K (.v (.int k (min a b))) hp ct
    | _, _ => False)
  | .builtin .max, [x, y], _ =>
    (match operE E sl x, operE E sl y with
    | some (.v (.int k a)), some (.v (.int _ b)) => K (.v (.int k (max a b))) hp ct
    | _, _ => False)
  | .builtin .append, [x, y], [t, t'] =>
    (match operE E sl x, operE E sl y with
    | some a, some (.v (.string b)) => (match get T.knd t' with | some .str => appE T nm t hp ct a (bytesAV b) K | _ => False)
    | some a, some b => (match get T.sl t' with | some _ => elsK hp b fun ys => appE T nm t hp ct a ys K | none => False)
    | _, _ => False)
  | .value f, args, _ =>
    (match operE E sl f, argsE E sl args with
    | some (.clo (.func g) first caps), some as =>
      (match hs.contains g with
      | true => HCallX E.base (E.N + 65536) g (first ++ as ++ caps) hp ct K
      | false => pursK sl hp (first ++ as ++ caps) fun ys hp' => CallX E.base g ys hp' nm ct K)
    | _, _ => False)
  | _, _, _ => False

def cellsE (hp : List (Nat × Blk)) (x : AV) (K : List AV → Prop) : Prop :=
  match x with
  | .rptr cs => K cs
  | .ptr r ver i o =>
    (match get hp r with
    | some k => chk (Nat.beq k.ver ver) (elK k.es i fun e => K (e.drop o))
    | none => False)
  | _ => False

def storeE (T : Tab) (t : TypeId) (p x : AV) (sl : List (Nat × AV)) (hp : List (Nat × Blk)) (ct : Nat) (K : List (Nat × Blk) → Prop) : Prop :=
  match p, get T.tz t with
  | .ptr r v i o, some (_, n) =>
    (match get hp r with
    | some k =>
      (match k.box with
      | true =>
        (match cellsOf x with
        | some cs => chk (Nat.beq k.ver v && Nat.beq cs.length n && Nat.ble (o + n) k.sz) (Sided (k.frz ≤ i) (elK k.es i fun e => K ((r, ⟨k.sz, k.ty, k.ver, k.frz, k.box, k.es.set i (withCells e o cs)⟩) :: hp)))
        | none => False)
      | false => purK hp deep x fun y m => frzK hp m fun hp' =>
        (match get hp' r, cellsOf y with
        | some k, some cs => chk (!k.box && Nat.beq k.ver v && Nat.beq cs.length n && Nat.ble (o + n) k.sz) (Sided (k.frz ≤ i) (elK k.es i fun e => K ((r, ⟨k.sz, k.ty, k.ver, k.frz, k.box, k.es.set i (withCells e o cs)⟩) :: hp')))
        | _, _ => False))
    | none => False)
  | _, _ => False

def stepE (E : Env) (T : Tab) (hs : List FuncId) (nm : Nat) (op : Op) (sl : List (Nat × AV)) (hp : List (Nat × Blk)) (ct : Nat) (K : AV → List (Nat × Blk) → Nat → Prop) : Prop :=
  match op with
  | .move x | .assign x => match operE E sl x with | some a => K a hp ct | none => False
  | .store t p x => match operE E sl p, operE E sl x with | some a, some b => storeE T t a b sl hp ct fun hp' => K (.v (.tuple #[])) hp' ct | _, _ => False
  | .pick c a b =>
    (match operE E sl c with
    | some (.v (.bool t)) => brK t (optK (operE E sl a) fun x => K x hp ct) (optK (operE E sl b) fun x => K x hp ct)
    | _ => False)
  | .alloc t =>
    (match get T.zc t, get hp nm with
    | some cs, none => K (.ptr nm ct 0 0) ((nm, ⟨cs.length, t, ct, 0, true, [cs]⟩) :: hp) (ct + 8)
    | _, _ => False)
  | .box t x =>
    (match operE E sl x, get hp nm with
    | some a, none => (match cellsOf a with | some cs => K (.ptr nm ct 0 0) ((nm, ⟨cs.length, t, ct, 0, true, [cs]⟩) :: hp) (ct + 8) | none => False)
    | _, _ => False)
  | .build t parts =>
    (match get T.ly t, partsE E sl parts.toList with
    | some (z, places), some l => fillE places z l fun cs => K (.agg cs) hp ct
    | _, _ => False)
  | .buildSlice t len parts =>
    (match get T.sl t, partsE E sl parts.toList with
    | some (e, n, _, _), some l => chkS (Nat.ble (n * len) 16777216 && Nat.beq l.length len && rangeB 0 l) (pursK sl hp (l.map Prod.snd) fun ys hp' => match litE n ys, get hp' nm with
        | some es, none => K (.own nm ct 0 len) ((nm, ⟨n, e, ct, 0, false, es⟩) :: hp') (ct + 8)
        | _, _ => False)
    | _, _ => False)
  | .load t p =>
    (match operE E sl p with
    | some a => cellsE hp a fun cs => partE T t cs fun x => K x hp ct
    | none => False)
  | .nilCheck x =>
    (match operE E sl x with
    | some (.rptr cs) => K (.rptr cs) hp ct
    | some (.ptr r v i o) => K (.ptr r v i o) hp ct
    | _ => False)
  | .binOp op t x y _ => (match operE E sl x, operE E sl y with | some a, some b => binE T op t a b fun v => K (.v v) hp ct | _, _ => False)
  | .unOp op _ x =>
    (match op, operE E sl x with
    | .not, some (.v (.bool b)) => K (.v (.bool (!b))) hp ct
    | .neg, some (.v (.int k n)) => K (.v (.int k (k.wrap (0 - n)))) hp ct
    | _, _ => False)
  | .convert src dst x => (match operE E sl x with | some a => conE T src dst hp a fun y => K y hp ct | none => False)
  | .makeFunc fn first caps => (match argsE E sl first.toList, argsE E sl caps.toList with | some a, some b => K (.clo fn a b) hp ct | _, _ => False)
  | .fieldAddr t x f =>
    (match get T.fd t, operE E sl x with
    | some l, some (.rptr cs) => (match l[f]? with | some (o, _, n + 1) => K (.rptr (cs.drop o)) hp ct | _ => False)
    | some l, some (.ptr r ver' i o') => (match l[f]? with | some (o, _, n + 1) => K (.ptr r ver' i (o' + o)) hp ct | _ => False)
    | _, _ => False)
  | .field t x f =>
    (match get T.fd t, operE E sl x with
    | some l, some (.agg cs) => (match l[f]? with | some (o, t', _) => partE T t' (cs.drop o) fun y => K y hp ct | _ => False)
    | _, _ => False)
  | .indexAddr t x i =>
    (match operE E sl x, operE E sl i with
    | some (.lst z xs), some (.v (.int _ n)) => (match get T.sl t with | some (_, sz, _) => chkS (Nat.beq z sz) (Sided (0 ≤ n ∧ n < xs.length) (elK xs n.toNat fun e => K (.rptr e) hp ct)) | none => False)
    | some (.own r v off len), some (.v (.int _ n)) =>
      (match get T.sl t, get hp r with | some (_, sz, _), some k => chk (Nat.beq k.ver v && Nat.beq k.sz sz) (Sided (0 ≤ n ∧ n < len) (K (.ptr r v (off + n.toNat) 0) hp ct)) | _, _ => False)
    | some (.rptr cs), some (.v (.int _ n)) => (match get T.ar t with | some (m, _, sz) => Sided (0 ≤ n ∧ n < m) (K (.rptr (cs.drop (n.toNat * sz))) hp ct) | none => False)
    | some (.ptr r v j o), some (.v (.int _ n)) => (match get T.ar t with | some (m, _, sz) => Sided (0 ≤ n ∧ n < m) (K (.ptr r v j (o + n.toNat * sz)) hp ct) | none => False)
    | _, _ => False)
  | .index t x i =>
    (match operE E sl x, operE E sl i with
    | some (.v (.string b)), some (.v (.int _ n)) => (match get T.knd t with | some .str => Sided (0 ≤ n ∧ n < b.size) (K (.v (.int .u8 (byt b n.toNat))) hp ct) | _ => False)
    | some (.agg cs), some (.v (.int _ n)) =>
      (match get T.ar t with
      | some (m, e, sz) => Sided (0 ≤ n ∧ n < m) (partE T e (cs.drop (n.toNat * sz)) fun y => K y hp ct)
      | none => False)
    | _, _ => False)
  | .extract x i => (match operE E sl x with | some (.tup xs) => (match xs[i]? with | some a => K a hp ct | none => False) | _ => False)
  | .slice t x lo hi mx =>
    (match operE E sl x, bndE E sl lo, bndE E sl hi, bndE E sl mx with
    | some a, some l, some h, some m => sliceE T t hp a l h m fun y => K y hp ct
    | _, _, _, _ => False)
  | .makeSlice t l cp =>
    (match get T.sl t, operE E sl l, operE E sl cp, get hp nm with
    | some (e, n, by', cs), some (.v (.int .i64 a)), some (.v (.int .i64 b)), none =>
      Sided (b = a ∧ 0 ≤ a ∧ a ≤ maxLen ∧ a * by' ≤ 140737488355328) (K (.own nm ct 0 a.toNat) ((nm, ⟨n, e, ct, 0, false, List.replicate a.toNat cs⟩) :: hp) (ct + 8))
    | _, _, _, _ => False)
  | .call cl => callE E T hs nm cl sl hp ct K
  | _ => False

def onlyK (sl : List (Nat × AV)) : List Nat → List (Nat × AV) → (List (Nat × AV) → Prop) → Prop
  | [], acc, Q => Q acc
  | k :: ks, acc, Q => match get sl k with | some x => onlyK sl ks ((k, x) :: acc) Q | none => onlyK sl ks acc Q
def insE (E : Env) (T : Tab) (hs : List FuncId) (base : Nat) : Ins → List (Nat × AV) → List (Nat × Blk) → Nat → (List (Nat × AV) → List (Nat × Blk) → Nat → Prop) → Prop
  | ⟨i, d, op, none⟩, sl, hp, ct, R => stepE E T hs (base + i * 8) op sl hp ct fun x hp' ct' => putK d x sl fun sl' => R sl' hp' ct'
  | ⟨i, d, op, some (t, want)⟩, sl, hp, ct, R =>
    match get sl t with
    | some (.v (.bool b)) =>
      (match want with
      | true => brK b (stepE E T hs (base + i * 8) op ((t, .v (.bool true)) :: sl) hp ct fun x hp' ct' => putK d x ((t, .v (.bool true)) :: sl) fun sl' => R sl' hp' ct')
          (putK d (.v (.tuple #[])) ((t, .v (.bool false)) :: sl) fun sl' => R sl' hp ct)
      | false => brK b (putK d (.v (.tuple #[])) ((t, .v (.bool true)) :: sl) fun sl' => R sl' hp ct)
          (stepE E T hs (base + i * 8) op ((t, .v (.bool false)) :: sl) hp ct fun x hp' ct' => putK d x ((t, .v (.bool false)) :: sl) fun sl' => R sl' hp' ct'))
    | some (.v (.tuple _)) => putK d (.v (.tuple #[])) sl fun sl' => R sl' hp ct
    | _ => False
def runE (E : Env) (T : Tab) (hs : List FuncId) (base : Nat) : List Ins → List (Nat × AV) → List (Nat × Blk) → Nat → (St → Prop) → Prop
  | [], sl, hp, ct, Q => onlyK sl E.keep [] fun sl' => Q ⟨sl', hp, ct⟩
  | i :: rest, sl, hp, ct, Q => insE E T hs base i sl hp ct fun sl' hp' ct' => runE E T hs base rest sl' hp' ct' Q

def rnil (E : Env) : List (Nat × AV) → List (Nat × Blk) → Nat → (St → Prop) → Prop := fun sl hp ct Q => onlyK sl E.keep [] fun sl' => Q ⟨sl', hp, ct⟩
def rcons (E : Env) (T : Tab) (hs : List FuncId) (base : Nat) (a : Ins) (r : List (Nat × AV) → List (Nat × Blk) → Nat → (St → Prop) → Prop) : List (Nat × AV) → List (Nat × Blk) → Nat → (St → Prop) → Prop :=
  fun sl hp ct Q => insE E T hs base a sl hp ct fun sl' hp' ct' => r sl' hp' ct' Q
theorem runE_nil {E : Env} {T : Tab} {hs : List FuncId} {base : Nat} : runE E T hs base [] = rnil E := rfl
theorem runE_cons {E : Env} {T : Tab} {hs : List FuncId} {base : Nat} {a : Ins} {l : List Ins} : runE E T hs base (a :: l) = rcons E T hs base a (runE E T hs base l) := rfl
end Ev
end Go.Proofs.YtdgpilapblipbaaDoor.Abs
