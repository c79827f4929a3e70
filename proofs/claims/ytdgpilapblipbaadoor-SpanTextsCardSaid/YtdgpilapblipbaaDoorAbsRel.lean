/- A calculus over values: what a value of it stands for in memory, and what holds of a state. -/
import Derived.Test.YtdgpilapblipbaaDoorAbs
namespace Go.Proofs.YtdgpilapblipbaaDoor.Abs
open Go Go.RowKit
set_option linter.unusedSimpArgs false
set_option linter.unusedVariables false

/-- Cells that nobody writes any more. -/
abbrev Mem := Nat → Nat → Option Value
structure Loc where
  b : Nat
  cap : Nat
  sz : Nat
  nil : Bool

inductive PRel (M : Mem) : AV → Value → Prop
  | v (x : Value) : PRel M (.v x) x
  | agg {cs : List AV} {vs : Array Value} (hn : vs.size = cs.length) (h1 : ∀ (i : Nat) (v : Value), vs[i]? = some v → v.oneCell' = true)
      (h : ∀ (i : Nat) (c : AV) (v : Value), cs[i]? = some c → vs[i]? = some v → PRel M c v) : PRel M (.agg cs) (.agg vs)
  | tup {cs : List AV} {vs : Array Value} (hn : vs.size = cs.length)
      (h : ∀ (i : Nat) (c : AV) (v : Value), cs[i]? = some c → vs[i]? = some v → PRel M c v) : PRel M (.tup cs) (.tuple vs)
  | lst {sz : Nat} {xs : List (List AV)} {A : Option Addr} {n cap : Nat} (u : Nat → Nat → Value) (hn : n = xs.length) (hc : xs.length ≤ cap)
      (hz : ∀ (i : Nat) (e : List AV), xs[i]? = some e → e.length = sz) (hA : xs ≠ [] → ∃ b o, A = some ⟨b, o, none⟩)
      (hM : ∀ (b o i : Nat) (e : List AV) (j : Nat) (c : AV), A = some ⟨b, o, none⟩ → xs[i]? = some e → e[j]? = some c → M b (o + i * sz + j) = some (u i j))
      (h : ∀ (i : Nat) (e : List AV) (j : Nat) (c : AV), xs[i]? = some e → e[j]? = some c → PRel M c (u i j)) : PRel M (.lst sz xs) (.slice A n cap)
  | rptr {cs : List AV} {b o : Nat} (u : Nat → Value) (hM : ∀ (j : Nat) (c : AV), cs[j]? = some c → M b (o + j) = some (u j))
      (h : ∀ (j : Nat) (c : AV), cs[j]? = some c → PRel M c (u j)) : PRel M (.rptr cs) (.pointer (some ⟨b, o, none⟩))
  | clo {fn : Fn} {a b : List AV} {fs cs : Array Value} (hn : fs.size = a.length) (hm : cs.size = b.length)
      (h : ∀ (i : Nat) (c : AV) (v : Value), a[i]? = some c → fs[i]? = some v → PRel M c v) (h' : ∀ (i : Nat) (c : AV) (v : Value), b[i]? = some c → cs[i]? = some v → PRel M c v) :
      PRel M (.clo fn a b) (.func fn fs cs)

abbrev Locs := Nat → Option Loc

inductive Rel (M : Mem) (J : Locs) : AV → Value → Prop
  | pure {a : AV} {v : Value} (h : PRel M a v) : Rel M J a v
  | agg {cs : List AV} {vs : Array Value} (hn : vs.size = cs.length) (h1 : ∀ (i : Nat) (v : Value), vs[i]? = some v → v.oneCell' = true)
      (h : ∀ (i : Nat) (c : AV) (v : Value), cs[i]? = some c → vs[i]? = some v → Rel M J c v) : Rel M J (.agg cs) (.agg vs)
  | tup {cs : List AV} {vs : Array Value} (hn : vs.size = cs.length)
      (h : ∀ (i : Nat) (c : AV) (v : Value), cs[i]? = some c → vs[i]? = some v → Rel M J c v) : Rel M J (.tup cs) (.tuple vs)
  | clo {fn : Fn} {a b : List AV} {fs cs : Array Value} (hn : fs.size = a.length) (hm : cs.size = b.length)
      (h : ∀ (i : Nat) (c : AV) (v : Value), a[i]? = some c → fs[i]? = some v → Rel M J c v) (h' : ∀ (i : Nat) (c : AV) (v : Value), b[i]? = some c → cs[i]? = some v → Rel M J c v) :
      Rel M J (.clo fn a b) (.func fn fs cs)
  | own {r ver off len : Nat} {L : Loc} {A : Option Addr} {c : Nat} (hL : J ver = some L) (hl : off + len ≤ L.cap) (hN : L.nil = true → A = none)
      (hA : L.nil = false → off = 0 ∨ off < L.cap → A = some ⟨L.b, off * L.sz, none⟩) (hc : c = L.cap - off) : Rel M J (.own r ver off len) (.slice A len c)
  | ptr {r ver i o : Nat} {L : Loc} (hL : J ver = some L) (hN : L.nil = false) : Rel M J (.ptr r ver i o) (.pointer (some ⟨L.b, i * L.sz + o, none⟩))

theorem PRel.mono {M M' : Mem} (hM : ∀ b o u, M b o = some u → M' b o = some u) {a : AV} {v : Value} (h : PRel M a v) : PRel M' a v := by
  induction h with
  | v x => exact .v x
  | agg hn h1 _ ih => exact .agg hn h1 ih
  | tup hn _ ih => exact .tup hn ih
  | lst u hn hc hz hA hM' _ ih => exact .lst u hn hc hz hA (fun b o i e j c h1 h2 h3 => hM _ _ _ (hM' b o i e j c h1 h2 h3)) ih
  | rptr u hM' _ ih => exact .rptr u (fun j c h => hM _ _ _ (hM' j c h)) ih
  | clo hn hm _ _ ih ih' => exact .clo hn hm ih ih'

theorem Rel.mono {M M' : Mem} {J J' : Locs} (hM : ∀ b o u, M b o = some u → M' b o = some u) (hJ : ∀ r L, J r = some L → J' r = some L)
    {a : AV} {v : Value} (h : Rel M J a v) : Rel M' J' a v := by
  induction h with
  | pure h => exact .pure (h.mono hM)
  | agg hn h1 _ ih => exact .agg hn h1 ih
  | tup hn _ ih => exact .tup hn ih
  | clo hn hm _ _ ih ih' => exact .clo hn hm ih ih'
  | own hL hl hN hA hc => exact .own (hJ _ _ hL) hl hN hA hc
  | ptr hL hN => exact .ptr (hJ _ _ hL) hN

/-- What a row's, or a variable's, cells hold. -/
def CellRel (M : Mem) (J : Locs) (box : Bool) (c : AV) (u : Value) : Prop := if box then Rel M J c u else PRel M c u
theorem CellRel.rel {M : Mem} {J : Locs} {box : Bool} {c : AV} {u : Value} (h : CellRel M J box c u) : Rel M J c u := by
  unfold CellRel at h; split at h
  · exact h
  · exact .pure h
theorem CellRel.mono {M M' : Mem} {J J' : Locs} (hM : ∀ b o u, M b o = some u → M' b o = some u) (hJ : ∀ r L, J r = some L → J' r = some L)
    {box : Bool} {a : AV} {v : Value} (h : CellRel M J box a v) : CellRel M' J' box a v := by
  unfold CellRel at h ⊢; split at h
  · rename_i hb; rw [if_pos hb]; exact h.mono hM hJ
  · rename_i hb; rw [if_neg hb]; exact h.mono hM

structure BlkOK (M : Mem) (J : Locs) (w : World) (L : Loc) (k : Blk) (C : Array Value) : Prop where
  blk : L.nil = false → w.heap[L.b]? = some (.cells C k.ty (0, 0))
  none : L.nil = true → L.cap = 0
  size : C.size = L.cap * k.sz
  fits : k.es.length ≤ L.cap
  frz : k.frz ≤ k.es.length
  sz : L.sz = k.sz
  len : ∀ (i : Nat) (e : List AV), k.es[i]? = some e → e.length = k.sz
  cell : ∀ (i : Nat) (e : List AV) (j : Nat) (c : AV), k.es[i]? = some e → e[j]? = some c → ∃ u, C[i * k.sz + j]? = some u ∧ u.oneCell' = true ∧ CellRel M J k.box c u
  cap : L.cap ≤ maxLen

/-- What holds of a state: of the memory w0 in which the call began nothing has turned. -/
structure Inv (E : Env) (M0 : Mem) (w0 : World) (c : Nat) (M : Mem) (J : Locs) (s : St) (tm : Array Value) (w : World) : Prop where
  below : Below w0.heap.size w0 w
  mem : ∀ b o u, M b o = some u → w.cell? ⟨b, o, none⟩ = some u ∧ u.oneCell' = true
  newM : ∀ b o u, M b o = some u → M0 b o = some u ∨ w0.heap.size ≤ b
  oldM : ∀ b o u, M0 b o = some u → M b o = some u
  glob : ∀ g cs, E.G g = some cs → PRel M (.rptr cs) (.pointer (some ⟨g, 0, none⟩))
  slot : ∀ (t : Nat) (x : AV), get s.sl t = some x → ∃ v, tm[t]? = some v ∧ Rel M J x v
  heap : ∀ (r : Nat) (k : Blk), get s.hp r = some k → ∃ L C, J k.ver = some L ∧ (L.nil = false → w0.heap.size ≤ L.b) ∧ BlkOK M J w L k C
  apart : ∀ (r r' : Nat) (k k' : Blk) (L L' : Loc), get s.hp r = some k → get s.hp r' = some k' → J k.ver = some L → J k'.ver = some L' → L.nil = false → L'.nil = false → r ≠ r' → L.b ≠ L'.b
  owns : ∀ (r : Nat) (k : Blk) (L : Loc) (o : Nat) (u : Value), get s.hp r = some k → J k.ver = some L → L.nil = false → M L.b o = some u → o < k.frz * k.sz
  vers : ∀ r L, J r = some L → r < c

def Sub (M M' : Mem) : Prop := ∀ b o u, M b o = some u → M' b o = some u
def SubJ (J J' : Locs) : Prop := ∀ r L, J r = some L → J' r = some L
theorem Sub.refl (M : Mem) : Sub M M := fun _ _ _ h => h
theorem SubJ.refl (J : Locs) : SubJ J J := fun _ _ h => h
theorem Sub.trans {M M' M'' : Mem} (h : Sub M M') (h' : Sub M' M'') : Sub M M'' := fun b o u x => h' b o u (h b o u x)
theorem SubJ.trans {J J' J'' : Locs} (h : SubJ J J') (h' : SubJ J' J'') : SubJ J J'' := fun b o x => h' b o (h b o x)

end Go.Proofs.YtdgpilapblipbaaDoor.Abs
