/- A calculus over values: memory that others made, and conversions. -/
import Derived.Test.YtdgpilapblipbaaDoorAbsBin
import Derived.Lib.ConvBytes
namespace Go.Proofs.YtdgpilapblipbaaDoor.Abs
open Go Go.RowKit
set_option linter.unusedVariables false
set_option linter.unusedSimpArgs false

section
variable {E : Env} {M0 : Mem} {w0 : World} {c : Nat} {M : Mem} {J : Locs} {s : St} {tm : Array Value} {w : World}

/-- Memory that a call made, and that nobody writes. -/
theorem Inv.lay (inv : Inv E M0 w0 c M J s tm w) {w' : World} (hb : Below w.heap.size w w') {X : Mem}
    (hX : ∀ b o u, X b o = some u → w.heap.size ≤ b → w'.cell? ⟨b, o, none⟩ = some u ∧ u.oneCell' = true) :
    Sub M (fun b o => if b < w.heap.size then M b o else X b o) ∧ Inv E M0 w0 c (fun b o => if b < w.heap.size then M b o else X b o) J s tm w' := by
  have hlt : ∀ b o u, M b o = some u → b < w.heap.size := fun b o u h => World.block_lt_of_cell? w _ (inv.mem b o u h).1
  have hsub : Sub M (fun b o => if b < w.heap.size then M b o else X b o) := by
    intro b o u h
    show (if b < w.heap.size then M b o else X b o) = some u
    rw [if_pos (hlt b o u h)]; exact h
  refine ⟨hsub, ⟨inv.below.trans (hb.mono inv.below.size), ?_, ?_, fun b o u h => hsub _ _ _ (inv.oldM b o u h), fun g cs h => (inv.glob g cs h).mono hsub, ?_, ?_, inv.apart, ?_, inv.vers⟩⟩
  · intro b o u h
    split at h
    · rename_i hl
      obtain ⟨h1, h2⟩ := inv.mem b o u h
      exact ⟨by rw [hb.cell (p := ⟨b, o, none⟩) hl]; exact h1, h2⟩
    · rename_i hl; exact hX b o u h (by omega)
  · intro b o u h
    split at h
    · exact inv.newM b o u h
    · rename_i hl; have := inv.below.size; exact .inr (by omega)
  · intro t x hx
    obtain ⟨v, h1, h2⟩ := inv.slot t x hx
    exact ⟨v, h1, h2.mono hsub (SubJ.refl J)⟩
  · intro r k hk
    obtain ⟨L, C, a1, a2, a3⟩ := inv.heap r k hk
    exact ⟨L, C, a1, a2, (a3.mono hsub (SubJ.refl J)).world (fun hn => hb.block _ (lt_of_blk a3 hn))⟩
  · intro r k L o u hk hL hN hu
    obtain ⟨L', C, a1, a2, a3⟩ := inv.heap r k hk
    rw [hL] at a1; obtain rfl := Option.some.inj a1
    rw [if_pos (lt_of_blk a3 hN)] at hu
    exact inv.owns r k L o u hk hL hN hu

theorem below_bytes (w : World) (e : TypeId) (b : ByteArray) : Below w.heap.size w (Lib.bytesWorld w e b) := by
  refine ⟨?_, ?_, ?_, by rw [Lib.bytesWorld_size]; omega, fun k hk => Lib.bytesWorld_at_old w e b k hk⟩ <;>
    simp [Lib.bytesWorld, World.freeze, World.alloc, World.drew, -World.alloc_eq, -World.drew_eq]

theorem bytesAV_get {b : ByteArray} {i : Nat} {e : List AV} (h : (bytesAV b)[i]? = some e) : ∃ hi : i < b.size, e = [.v (.int .u8 (b[i]'hi).toNat)] := by
  simp only [bytesAV, List.getElem?_map, Option.map_eq_some_iff] at h
  obtain ⟨x, hx, rfl⟩ := h
  obtain ⟨hi, rfl⟩ := List.getElem?_eq_some_iff.1 hx
  exact ⟨by simpa using hi, rfl⟩

theorem bytes_lst (inv : Inv E M0 w0 c M J s tm w) (e : TypeId) (b : ByteArray) :
    ∃ M', Sub M M' ∧ Inv E M0 w0 c M' J s tm (Lib.bytesWorld w e b) ∧ PRel M' (.lst 1 (bytesAV b)) (.slice (some ⟨w.heap.size, 0, none⟩) b.size (grownCap w b.size 0 e)) := by
  obtain ⟨h1, h2⟩ := inv.lay (below_bytes w e b) (X := fun b' o => if b' = w.heap.size ∧ o < b.size then some (.int .u8 (b.data.toList.getD o 0).toNat) else none) (by
    intro b' o u h hb
    split at h
    · rename_i hc
      obtain ⟨rfl, ho⟩ := hc
      obtain rfl := Option.some.inj h
      exact ⟨Lib.bytesWorld_cell w e b o ho, rfl⟩
    · cases h)
  refine ⟨_, h1, h2, ?_⟩
  have hl : (bytesAV b).length = b.size := by simp [bytesAV]
  refine .lst (fun i _ => .int .u8 (b.data.toList.getD i 0).toNat) hl.symm (by rw [hl]; exact grownCap_ge w _ _ _) (fun i x hx => ?_) (fun _ => ⟨_, _, rfl⟩) ?_ ?_
  · obtain ⟨_, rfl⟩ := bytesAV_get hx; rfl
  · intro b' o i x j y hA hx hy
    simp only [Option.some.injEq, Addr.mk.injEq, and_true] at hA
    obtain ⟨rfl, rfl⟩ := hA
    obtain ⟨hi, rfl⟩ := bytesAV_get hx
    cases j with
    | zero => simp [hi]
    | succ j => simp at hy
  · intro i x j y hx hy
    obtain ⟨hi, rfl⟩ := bytesAV_get hx
    cases j with
    | zero =>
      simp at hy; subst hy
      have : b.data.toList.getD i 0 = b[i]'hi := by
        simp only [List.getD_eq_getElem?_getD]
        rw [List.getElem?_eq_getElem (by simpa using hi)]
        rfl
      simp only [this]
      exact .v _
    | succ j => simp at hy

/-- A row of bytes reads as its bytes. -/
theorem bytes_load (inv : Inv E M0 w0 c M J s tm w) {x : AV} {u : Value} {xs : List (List AV)} {bs : List UInt8} (hr : Rel M J x u) (h : elems s x = some xs) (hb : xs.mapM toByte = some bs) :
    (Conv.bytesToString u).run E.P w = .ok (.string ⟨bs.toArray⟩) w := by
  obtain ⟨A, cap, sz, rfl, hc, hz, hA, hcell⟩ := elems_rel inv hr h
  obtain ⟨hl, hg⟩ := mapM_some hb
  rcases Nat.eq_zero_or_pos xs.length with h0 | h0
  · have : bs = [] := List.eq_nil_of_length_eq_zero (by omega)
    subst this
    rw [h0]
    cases A with
    | none => simp [Conv.bytesToString]; rfl
    | some a => simp [Conv.bytesToString, loadCells, loadCellsFrom]; rfl
  · have hne : xs ≠ [] := by intro e; subst e; simp at h0
    obtain ⟨b, o, rfl⟩ := hA hne
    have hx : ∀ i, i < xs.length → ∃ n : Int, xs[i]? = some [.v (.int .u8 n)] ∧ bs[i]? = some (UInt8.ofNat n.toNat) := by
      intro i hi
      obtain ⟨y, hy⟩ : ∃ y, bs[i]? = some y := ⟨_, List.getElem?_eq_getElem (by omega)⟩
      obtain ⟨e, he, hf⟩ := hg i y hy
      unfold toByte at hf
      split at hf
      · rename_i n; obtain rfl := Option.some.inj hf; exact ⟨n, he, hy⟩
      · cases hf
    have hsz : sz = 1 := by
      obtain ⟨n, h1, _⟩ := hx 0 h0
      have := hz 0 _ h1
      simpa using this.symm
    subst hsz
    have hf : ∃ f : Nat → Int, ∀ i, i < xs.length → xs[i]? = some [.v (.int .u8 (f i))] ∧ bs[i]? = some (UInt8.ofNat (f i).toNat) :=
      ⟨fun i => if h : i < xs.length then Classical.choose (hx i h) else 0, fun i hi => by simp only [dif_pos hi]; exact Classical.choose_spec (hx i hi)⟩
    obtain ⟨f, hf⟩ := hf
    have hadd : ∀ j, (⟨b, o, none⟩ : Addr).add j = ⟨b, o + j, none⟩ := by
      intro j; unfold Addr.add; split
      · rename_i h0; subst h0; rfl
      · rfl
    have hld := run_loadCells (P := E.P) (w := w) ⟨b, o, none⟩ xs.length (fun i => .int .u8 (f i)) (fun j hj => by
      obtain ⟨v, h1, _, h3⟩ := hcell b o j _ 0 _ rfl (hf j hj).1 rfl
      rw [hadd]
      have := (Rel.pure (J := J) h3).v_inv
      subst this
      simpa using h1)
    rw [run_bytesToString w ⟨b, o, none⟩ xs.length cap ((List.range xs.length).map f) (by rw [hld]; simp)]
    congr 2
    have key : ∀ (l : List Int) (r : ByteArray), (l.foldl (fun r n => r.push (UInt8.ofNat n.toNat)) r) = ⟨r.data ++ (l.map fun n => UInt8.ofNat n.toNat).toArray⟩ := by
      intro l
      induction l with
      | nil => intro r; simp
      | cons n l ih => intro r; simp only [List.foldl_cons]; rw [ih]; congr 1; simp [ByteArray.push]
    rw [key]
    congr 1
    rw [show ByteArray.empty.data = #[] from rfl, Array.empty_append]
    congr 1
    apply List.ext_getElem?
    intro i
    simp only [List.getElem?_map]
    by_cases hi : i < xs.length
    · rw [List.getElem?_range hi, (hf i hi).2]; rfl
    · rw [List.getElem?_eq_none (by simpa using hi), List.getElem?_eq_none (by omega)]; rfl

theorem run_conv (inv : Inv E M0 w0 c M J s tm w) {src dst : TypeId} {x : AV} {u : Value} {K : AV → Prop} (hr : Rel M J x u) (h : convw E.P src dst s x K) :
    ∃ v w' M' y, (convert src dst u).run E.P w = .ok v w' ∧ K y ∧ Sub M M' ∧ Inv E M0 w0 c M' J s tm w' ∧ PRel M' y v := by
  unfold convw at h
  split at h
  · rename_i d k n kd hs hd
    obtain rfl := hr.v_inv
    exact ⟨_, w, M, _, by simp [convert, run_underlying hs, run_underlying hd, Conv.intToInt], h, Sub.refl M, inv, .v _⟩
  · rename_i b hs hd
    obtain rfl := hr.v_inv
    exact ⟨_, w, M, _, by simp [convert, run_underlying hs, run_underlying hd], h, Sub.refl M, inv, .v _⟩
  · rename_i e hs hd
    obtain ⟨he, xs, bs, h1, h2, h3⟩ := h
    have hrun := bytes_load inv hr h1 h2
    obtain ⟨A, cap, sz, rfl, _⟩ := elems_rel inv hr h1
    refine ⟨_, w, M, _, ?_, h3, Sub.refl M, inv, .v _⟩
    rw [run_convert_bytes_string w src dst e A _ _ hs he hd]; exact hrun
  · rename_i e b hs hd
    obtain rfl := hr.v_inv
    obtain ⟨M', h1, h2, h3⟩ := bytes_lst inv e b
    exact ⟨_, _, M', _, Lib.run_convert_string_bytes w src dst e b hs hd h.1, h.2, h1, h2, h3⟩
  · exact h.elim
end
end Go.Proofs.YtdgpilapblipbaaDoor.Abs
