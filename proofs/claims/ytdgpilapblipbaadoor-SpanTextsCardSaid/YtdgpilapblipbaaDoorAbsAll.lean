/- A calculus over values: every operation. -/
import Derived.Test.YtdgpilapblipbaaDoorAbsApp
namespace Go.Proofs.YtdgpilapblipbaaDoor.Abs
open Go Go.RowKit
set_option linter.unusedVariables false
set_option linter.unusedSimpArgs false

section
variable {E : Env} {M0 : Mem} {w0 : World} {c : Nat} {M : Mem} {J : Locs} {s : St} {tm : Array Value} {w : World} {K : AV → St → Prop} {ds : List Deferred} {nm ver : Nat}

theorem bnd_val (inv : Inv E M0 w0 c M J s tm w) {x : Option Operand} {l : Option Int} (h : bnd E s x = some l) :
    ∃ k, x.map (Act.eval ⟨tm, ds⟩) = l.map (Value.int k) := by
  cases x with
  | none => simp only [bnd, Option.some.injEq] at h; subst h; exact ⟨.i64, rfl⟩
  | some x =>
    simp only [bnd] at h
    split at h
    · rename_i k n hx
      obtain rfl := Option.some.inj h
      exact ⟨k, by simp [(inv.oper (ds := ds) hx).v_inv]⟩
    · cases h

theorem run_bounds {P : Program} {isSlice : Bool} {len cap : Nat} (hlc : len ≤ cap) {lo hi : Option Int} {k k' : IntKind} {K : Nat → Nat → Prop} (h : cutw len lo hi K) (w : World) :
    ∃ l u, (Instr.sliceBounds isSlice len cap (lo.map (Value.int k)) (hi.map (Value.int k')) none).run P w = .ok (l, u, cap) w ∧ l ≤ u ∧ u ≤ len ∧ K l u := by
  have hb : ∀ (i : Int) (y : Nat) (kk : IntKind) (code : BoundsCode), 0 ≤ i → i ≤ y → (Instr.sliceBound (.int kk i) y code).run P w = .ok i.toNat w := by
    intro i y kk code h0 h1
    simp [Instr.sliceBound, asIntOf, h0, h1]
  cases lo with
  | none =>
    cases hi with
    | none => exact ⟨0, len, by simp [Instr.sliceBounds], Nat.zero_le _, Nat.le_refl _, h⟩
    | some u =>
      obtain ⟨h0, h1, hk⟩ := h
      exact ⟨0, u.toNat, by simp [Instr.sliceBounds, hb u cap k' _ h0 (by omega)], Nat.zero_le _, by omega, hk⟩
  | some l =>
    cases hi with
    | none =>
      obtain ⟨h0, h1, hk⟩ := h
      exact ⟨l.toNat, len, by simp [Instr.sliceBounds, hb l len k _ h0 (by omega)], by omega, Nat.le_refl _, hk⟩
    | some u =>
      obtain ⟨h0, h1, h2, hk⟩ := h
      exact ⟨l.toNat, u.toNat, by simp [Instr.sliceBounds, hb u cap k' _ (by omega) (by omega), hb l u.toNat k _ h0 (by omega)], by omega, by omega, hk⟩

theorem run_bounds3 {P : Program} {len cap : Nat} (hlc : len ≤ cap) {lo : Option Int} {u m : Int} {k k' k2 : IntKind} {K : Nat → Nat → Prop} (h : cutw len lo (some u) K) (hm : u.toNat ≤ m) (hm' : m ≤ len) (w : World) :
    ∃ l, (Instr.sliceBounds true len cap (lo.map (Value.int k)) (some (Value.int k' u)) (some (Value.int k2 m))).run P w = .ok (l, u.toNat, m.toNat) w ∧ l ≤ u.toNat ∧ u.toNat ≤ len ∧ K l u.toNat := by
  have hb : ∀ (i : Int) (y : Nat) (kk : IntKind) (code : BoundsCode), 0 ≤ i → i ≤ y → (Instr.sliceBound (.int kk i) y code).run P w = .ok i.toNat w := by
    intro i y kk code h0 h1
    simp [Instr.sliceBound, asIntOf, h0, h1]
  cases lo with
  | none =>
    obtain ⟨h0, h1, hk⟩ := h
    exact ⟨0, by simp [Instr.sliceBounds, hb m cap k2 _ (by omega) (by omega), hb u m.toNat k' _ h0 (by omega)], Nat.zero_le _, by omega, hk⟩
  | some l =>
    obtain ⟨h0, h1, h2, hk⟩ := h
    exact ⟨l.toNat, by simp [Instr.sliceBounds, hb m cap k2 _ (by omega) (by omega), hb u m.toNat k' _ (by omega) (by omega), hb l u.toNat k _ h0 (by omega)], by omega, by omega, hk⟩

theorem run_sliceAt {P : Program} {t e : TypeId} (hu : P.underlying t = some (.slice e)) {z : Option Value} {n b : Nat} (hti : ti P e = some (z, n, b)) {A : Option Addr} {len cap : Nat} {lo hi mx : Option Value} {l u m : Nat} {w : World}
    (hb : (Instr.sliceBounds true len cap lo hi mx).run P w = .ok (l, u, m) w) :
    (Instr.sliceAt t (.slice A len cap) lo hi mx).run P w = .ok (.slice (if m = l then A else A.map (·.add (l * n))) (u - l) (m - l)) w := by
  simp [Instr.sliceAt, run_underlying hu, Instr.slice, hb, run_ti hti]

theorem slice_sound (inv : Inv E M0 w0 c M J s tm w) {t : TypeId} {x : AV} {u : Value} {lo hi mx : Option Int} {k1 k2 k3 : IntKind} (hr : Rel M J x u) (h : slicew E t s x lo hi mx K) :
    ∃ v y, (Instr.sliceAt t u (lo.map (Value.int k1)) (hi.map (Value.int k2)) (mx.map (Value.int k3))).run E.P w = .ok v w ∧ K y s ∧ Rel M J y v := by
  unfold slicew at h
  split at h
  · rename_i b
    obtain ⟨hu, rfl, h⟩ := h
    obtain rfl := hr.v_inv
    obtain ⟨l, h', hb, _, _, hk⟩ := run_bounds (P := E.P) (isSlice := false) (len := b.size) (cap := b.size) (Nat.le_refl _) (k := k1) (k' := k2) h w
    exact ⟨_, _, by simp [Instr.sliceAt, Instr.slice, run_underlying hu, hb], hk, .pure (.v _)⟩
  · obtain ⟨hs, rfl, h⟩ := h
    obtain rfl := hr.v_inv
    obtain ⟨⟨e, z, n, by'⟩, hs⟩ := Option.isSome_iff_exists.1 hs
    obtain ⟨hu, hti⟩ := sle_some hs
    obtain ⟨l, h', hb, h1, h2, hk⟩ := run_bounds (P := E.P) (isSlice := true) (len := 0) (cap := 0) (Nat.le_refl _) (k := k1) (k' := k2) h w
    have hl : l = 0 := by omega
    have hh : h' = 0 := by omega
    subst hl; subst hh
    exact ⟨_, _, by rw [Option.map_none]; exact run_sliceAt hu hti hb, hk, .pure (by simpa using PRel.v _)⟩
  · rename_i sz xs
    split at h
    · rename_i e z sz' by' hs
      obtain ⟨rfl, h⟩ := h
      obtain ⟨hu, hti⟩ := sle_some hs
      have hp := hr.lst_inv
      cases hp with
      | lst uu hn hc hz hA hM hx =>
        rename_i A n cap
        subst hn
        have fin : ∀ l h m, l ≤ h → h ≤ xs.length → h ≤ m → PRel M (.lst sz ((xs.drop l).take (h - l))) (.slice (if m = l then A else A.map (·.add (l * sz))) (h - l) (m - l)) := by
          intro l h m h1 h2 h3
          have hlen : ((xs.drop l).take (h - l)).length = h - l := by simp; omega
          have hget : ∀ (i : Nat) (e : List AV), ((xs.drop l).take (h - l))[i]? = some e → i < h - l ∧ xs[l + i]? = some e := by
            intro i e he
            have hi : i < h - l := by have := (List.getElem?_eq_some_iff.1 he).1; omega
            rw [List.getElem?_take, if_pos hi, List.getElem?_drop] at he
            exact ⟨hi, he⟩
          refine .lst (fun i j => uu (l + i) j) hlen.symm (by rw [hlen]; omega) (fun i e he => hz _ _ (hget i e he).2) (fun hne => ?_) (fun b o i e j c hAb he hj => ?_) (fun i e j c he hj => hx _ e j c (hget i e he).2 hj)
          · have : 0 < h - l := by rcases Nat.eq_zero_or_pos (h - l) with h0 | h0
                                   · rw [h0] at hne; simp at hne
                                   · exact h0
            obtain ⟨b, o, rfl⟩ := hA (by intro e; subst e; simp at h2; omega)
            rw [if_neg (by omega)]
            exact ⟨b, o + l * sz, by simp [toAdd]⟩
          · obtain ⟨hi, he'⟩ := hget i e he
            obtain ⟨b', o', rfl⟩ := hA (by intro e; subst e; simp at h2; omega)
            rw [if_neg (by omega)] at hAb
            simp only [Option.map_some, toAdd, Option.some.injEq, Addr.mk.injEq, and_true] at hAb
            obtain ⟨rfl, rfl⟩ := hAb
            rw [← hM b' o' (l + i) e j c rfl he' hj, Nat.add_mul, ← Nat.add_assoc]
        cases mx with
        | none =>
          obtain ⟨l, h', hb, h1, h2, h3⟩ := run_bounds (P := E.P) (isSlice := true) (len := xs.length) (cap := cap) hc (k := k1) (k' := k2) h w
          exact ⟨_, _, by rw [Option.map_none]; exact run_sliceAt hu hti hb, h3.2, .pure (fin l h' cap h1 h2 (by omega))⟩
        | some m =>
          cases hi with
          | none =>
            exfalso
            cases lo with
            | none => exact absurd h.1.1 (by simp)
            | some l => exact absurd h.2.2.1.1 (by simp)
          | some u' =>
            have hmm : (u'.toNat : Int) ≤ m ∧ m ≤ xs.length := by
              cases lo with
              | none => obtain ⟨_, _, ⟨_, a, b⟩, _⟩ := h; exact ⟨a, b⟩
              | some l => obtain ⟨_, _, _, ⟨_, a, b⟩, _⟩ := h; exact ⟨a, b⟩
            obtain ⟨l, hb, h1, h2, h3⟩ := run_bounds3 (P := E.P) (len := xs.length) (cap := cap) hc (k := k1) (k' := k2) (k2 := k3) h hmm.1 hmm.2 w
            exact ⟨_, _, run_sliceAt hu hti hb, h3.2, .pure (fin l u'.toNat m.toNat h1 h2 (by omega))⟩
    · exact h.elim
  · rename_i r v off len
    split at h
    · rename_i e z sz' by' k hs hk
      obtain ⟨hv, hsz, rfl, h⟩ := h
      obtain ⟨hu, hti⟩ := sle_some hs
      obtain ⟨L, A, rfl, hL, hcap, hLN, hLA⟩ := hr.own_inv
      obtain ⟨L', C, hL', hb, ok⟩ := inv.heap r k hk
      rw [hv, hL] at hL'; obtain rfl := Option.some.inj hL'
      obtain ⟨l, h', hb', h1, h2, h3⟩ := run_bounds (P := E.P) (isSlice := true) (len := len) (cap := L.cap - off) (by omega) (k := k1) (k' := k2) h w
      refine ⟨_, _, by rw [Option.map_none]; exact run_sliceAt hu hti hb', h3, .own hL (by omega) ?_ ?_ (by omega)⟩
      · intro hn; rw [hLN hn]; simp
      · intro hn hc
        rcases hc with h0 | h0
        · have hl0 : l = 0 := by omega
          have hoff : off = 0 := by omega
          subst hl0; subst hoff
          rw [hLA hn (.inl rfl)]
          split <;> simp [toAdd]
        · rw [if_neg (by omega), hLA hn (.inr (by omega))]
          simp only [Option.map_some, toAdd, ok.sz, hsz, Nat.add_mul]
    · exact h.elim
  · exact h.elim
end
end Go.Proofs.YtdgpilapblipbaaDoor.Abs
