/- The reference's first code point is the model's decoder's. -/
import Derived.Test.YtdgpilapblipbaaDoorFnA
import Derived.Lib.ValidU
namespace Go.Proofs.YtdgpilapblipbaaDoor.Abs
open Go
set_option linter.unusedSimpArgs false
set_option linter.unusedVariables false
def firstF (t : ByteArray) : Int × Int := if t.size = 0 ∨ Utf8.decode t 0 = (65533, 1) then (0, 0) else (((Utf8.decode t 0).1 : Int), ((Utf8.decode t 0).2 : Int))
theorem byt_get {t : ByteArray} {i : Nat} (h : i < t.size) : Ev.byt t i = ((t.get! i).toNat : Int) := by
  rw [Ev.byt_eq h]
  have : t.get! i = t[i]'h := by
    show t.data[i]! = t.data[i]
    rw [getElem!_pos t.data i h]
  rw [this]
theorem decN (t : ByteArray) : Utf8.decode t 0 =
    if (t.get! 0).toNat < 128 then ((t.get! 0).toNat, 1)
    else if (t.get! 0).toNat / 32 = 6 ∧ 1 < t.size ∧ (t.get! 1).toNat / 64 = 2 then
      (if (t.get! 0).toNat % 32 * 64 + (t.get! 1).toNat % 64 ≥ 128 then ((t.get! 0).toNat % 32 * 64 + (t.get! 1).toNat % 64, 2) else (65533, 1))
    else if (t.get! 0).toNat / 16 = 14 ∧ (1 < t.size ∧ (t.get! 1).toNat / 64 = 2) ∧ 2 < t.size ∧ (t.get! 2).toNat / 64 = 2 then
      (if (t.get! 0).toNat % 16 * 4096 + (t.get! 1).toNat % 64 * 64 + (t.get! 2).toNat % 64 ≥ 2048 ∧ Utf8.valid ((t.get! 0).toNat % 16 * 4096 + (t.get! 1).toNat % 64 * 64 + (t.get! 2).toNat % 64 : Nat) = true then ((t.get! 0).toNat % 16 * 4096 + (t.get! 1).toNat % 64 * 64 + (t.get! 2).toNat % 64, 3) else (65533, 1))
    else if (t.get! 0).toNat / 8 = 30 ∧ (1 < t.size ∧ (t.get! 1).toNat / 64 = 2) ∧ (2 < t.size ∧ (t.get! 2).toNat / 64 = 2) ∧ 3 < t.size ∧ (t.get! 3).toNat / 64 = 2 then
      (if (t.get! 0).toNat % 8 * 262144 + (t.get! 1).toNat % 64 * 4096 + (t.get! 2).toNat % 64 * 64 + (t.get! 3).toNat % 64 ≥ 65536 ∧ Utf8.valid ((t.get! 0).toNat % 8 * 262144 + (t.get! 1).toNat % 64 * 4096 + (t.get! 2).toNat % 64 * 64 + (t.get! 3).toNat % 64 : Nat) = true then ((t.get! 0).toNat % 8 * 262144 + (t.get! 1).toNat % 64 * 4096 + (t.get! 2).toNat % 64 * 64 + (t.get! 3).toNat % 64, 4) else (65533, 1))
    else (65533, 1) := by
  simp only [Utf8.decode, Utf8.runeError, Nat.zero_add, Bool.and_eq_true, decide_eq_true_eq, beq_iff_eq, and_assoc]
theorem valid_iff (n : Nat) : Utf8.valid (n : Int) = true ↔ (n < 55296 ∨ (57344 ≤ n ∧ n ≤ 1114111)) := by
  simp only [Utf8.valid, Bool.or_eq_true, Bool.and_eq_true, decide_eq_true_eq]; omega
theorem acc_ok {t : ByteArray} {n0 n : Int} {i : Nat} (h : accF t n0 i = some n) (h1 : 128 ≤ Ev.byt t (i + 1)) (h2 : Ev.byt t (i + 1) ≤ 191) : accF t n0 (i + 1) = some (n * 64 + Ev.byt t (i + 1) - 128) := by
  simp only [accF, h]; rw [if_pos ⟨h1, h2⟩]
theorem acc_inv {t : ByteArray} {n0 n : Int} {i : Nat} (h : accF t n0 (i + 1) = some n) : ∃ n', accF t n0 i = some n' ∧ 128 ≤ Ev.byt t (i + 1) ∧ Ev.byt t (i + 1) ≤ 191 ∧ n = n' * 64 + Ev.byt t (i + 1) - 128 := by
  simp only [accF] at h
  split at h
  · rename_i n' hn'
    split at h
    · rename_i hc; exact ⟨n', hn', hc.1, hc.2, (Option.some.inj h).symm⟩
    · cases h
  · cases h
theorem firstP_eq {t : ByteArray} {n k : Int} (h : firstP t n k) : (n, k) = firstF t := by
  unfold firstF
  by_cases hz : t.size = 0
  · rw [if_pos (Or.inl hz)]
    rcases h with ⟨rfl, rfl, _⟩ | ⟨h, _⟩
    · rfl
    · omega
  have e0 := byt_get (t := t) (i := 0) (by omega)
  have l0 := (t.get! 0).toNat_lt
  have l1 := (t.get! 1).toNat_lt
  have l2 := (t.get! 2).toNat_lt
  have l3 := (t.get! 3).toNat_lt
  have e1 : 1 < t.size → Ev.byt t 1 = ((t.get! 1).toNat : Int) := fun h => byt_get h
  have e2 : 2 < t.size → Ev.byt t 2 = ((t.get! 2).toNat : Int) := fun h => byt_get h
  have e3 : 3 < t.size → Ev.byt t 3 = ((t.get! 3).toNat : Int) := fun h => byt_get h
  have D := decN t
  generalize (t.get! 0).toNat = b0 at *
  generalize (t.get! 1).toNat = b1 at *
  generalize (t.get! 2).toNat = b2 at *
  generalize (t.get! 3).toNat = b3 at *
  simp only [valid_iff] at D
  rcases h with ⟨rfl, rfl, h⟩ | ⟨hs, m, n0, hl, hsz, ha, hn, rfl⟩
  · have goal : Utf8.decode t 0 = (65533, 1) := by
      rw [D]
      rcases h with h | h | ⟨m, n0, hl, h⟩
      · exact absurd h hz
      · rw [if_neg (by omega), if_neg (by omega), if_neg (by omega), if_neg (by omega)]
      · rcases hl with ⟨a1, a2, rfl, rfl⟩ | ⟨a1, a2, rfl, rfl⟩ | ⟨a1, a2, rfl, rfl⟩ | ⟨a1, rfl, rfl⟩
        · rw [if_neg (by omega), if_neg (by omega), if_neg (by omega)]
          by_cases hc : b0 / 8 = 30 ∧ (1 < t.size ∧ b1 / 64 = 2) ∧ (2 < t.size ∧ b2 / 64 = 2) ∧ 3 < t.size ∧ b3 / 64 = 2
          · rw [if_pos hc, if_neg]
            obtain ⟨c0, ⟨c1, c1'⟩, ⟨c2, c2'⟩, c3, c3'⟩ := hc
            have q1 : accF t (Ev.byt t 0 - 240) 1 = some ((Ev.byt t 0 - 240) * 64 + Ev.byt t 1 - 128) := acc_ok (i := 0) rfl (by have := e1 c1; show 128 ≤ Ev.byt t 1; omega) (by have := e1 c1; show Ev.byt t 1 ≤ 191; omega)
            have q2 : accF t (Ev.byt t 0 - 240) 2 = some (((Ev.byt t 0 - 240) * 64 + Ev.byt t 1 - 128) * 64 + Ev.byt t 2 - 128) := acc_ok (i := 1) q1 (by have := e2 c2; show 128 ≤ Ev.byt t 2; omega) (by have := e2 c2; show Ev.byt t 2 ≤ 191; omega)
            have q3 : accF t (Ev.byt t 0 - 240) 3 = some ((((Ev.byt t 0 - 240) * 64 + Ev.byt t 1 - 128) * 64 + Ev.byt t 2 - 128) * 64 + Ev.byt t 3 - 128) := acc_ok (i := 2) q2 (by have := e3 c3; show 128 ≤ Ev.byt t 3; omega) (by have := e3 c3; show Ev.byt t 3 ≤ 191; omega)
            have := e1 c1; have := e2 c2; have := e3 c3
            rcases h with h | ⟨i, hi, h⟩ | ⟨n', h, h'⟩
            · omega
            · have : i = 0 ∨ i = 1 ∨ i = 2 ∨ i = 3 := by omega
              rcases this with rfl | rfl | rfl | rfl
              · simp [accF] at h
              · rw [q1] at h; cases h
              · rw [q2] at h; cases h
              · rw [q3] at h; cases h
            · rw [show (3 : Int).toNat = 3 from rfl, q3] at h
              obtain rfl := Option.some.inj h
              unfold sizeF at h'
              split at h' <;> omega
          · rw [if_neg hc]
        · rw [if_neg (by omega), if_neg (by omega)]
          by_cases hc : b0 / 16 = 14 ∧ (1 < t.size ∧ b1 / 64 = 2) ∧ 2 < t.size ∧ b2 / 64 = 2
          · rw [if_pos hc, if_neg]
            obtain ⟨c0, ⟨c1, c1'⟩, c2, c2'⟩ := hc
            have q1 : accF t (Ev.byt t 0 - 224) 1 = some ((Ev.byt t 0 - 224) * 64 + Ev.byt t 1 - 128) := acc_ok (i := 0) rfl (by have := e1 c1; show 128 ≤ Ev.byt t 1; omega) (by have := e1 c1; show Ev.byt t 1 ≤ 191; omega)
            have q2 : accF t (Ev.byt t 0 - 224) 2 = some (((Ev.byt t 0 - 224) * 64 + Ev.byt t 1 - 128) * 64 + Ev.byt t 2 - 128) := acc_ok (i := 1) q1 (by have := e2 c2; show 128 ≤ Ev.byt t 2; omega) (by have := e2 c2; show Ev.byt t 2 ≤ 191; omega)
            have := e1 c1; have := e2 c2
            rcases h with h | ⟨i, hi, h⟩ | ⟨n', h, h'⟩
            · omega
            · have : i = 0 ∨ i = 1 ∨ i = 2 := by omega
              rcases this with rfl | rfl | rfl
              · simp [accF] at h
              · rw [q1] at h; cases h
              · rw [q2] at h; cases h
            · rw [show (2 : Int).toNat = 2 from rfl, q2] at h
              obtain rfl := Option.some.inj h
              unfold sizeF at h'
              split at h' <;> omega
          · rw [if_neg hc, if_neg (by omega)]
        · rw [if_neg (by omega)]
          by_cases hc : b0 / 32 = 6 ∧ 1 < t.size ∧ b1 / 64 = 2
          · rw [if_pos hc, if_neg]
            obtain ⟨c0, c1, c1'⟩ := hc
            have q1 : accF t (Ev.byt t 0 - 192) 1 = some ((Ev.byt t 0 - 192) * 64 + Ev.byt t 1 - 128) := acc_ok (i := 0) rfl (by have := e1 c1; show 128 ≤ Ev.byt t 1; omega) (by have := e1 c1; show Ev.byt t 1 ≤ 191; omega)
            have := e1 c1
            rcases h with h | ⟨i, hi, h⟩ | ⟨n', h, h'⟩
            · omega
            · have : i = 0 ∨ i = 1 := by omega
              rcases this with rfl | rfl
              · simp [accF] at h
              · rw [q1] at h; cases h
            · rw [show (1 : Int).toNat = 1 from rfl, q1] at h
              obtain rfl := Option.some.inj h
              unfold sizeF at h'
              split at h' <;> omega
          · rw [if_neg hc, if_neg (by omega), if_neg (by omega)]
        · exfalso
          rcases h with h | ⟨i, hi, h⟩ | ⟨n', h, h'⟩
          · omega
          · have : i = 0 := by omega
            subst this; simp [accF] at h
          · simp only [Int.toNat_zero, accF, Option.some.injEq] at h
            unfold sizeF at h'
            split at h' <;> omega
    rw [if_pos (Or.inr goal)]
  · have goal : Utf8.decode t 0 = (n.toNat, (m + 1).toNat) ∧ 0 ≤ n ∧ 0 ≤ m ∧ ¬ (n = 65533 ∧ m = 0) := by
      rw [D]
      rcases hl with ⟨a1, a2, rfl, rfl⟩ | ⟨a1, a2, rfl, rfl⟩ | ⟨a1, a2, rfl, rfl⟩ | ⟨a1, rfl, rfl⟩
      · have := e1 (by omega); have := e2 (by omega); have := e3 (by omega)
        obtain ⟨n1, ha2, c1, c1', rfl⟩ := acc_inv (i := 2) ha
        obtain ⟨n2, ha1, c2, c2', rfl⟩ := acc_inv (i := 1) ha2
        obtain ⟨n3, ha0, c3, c3', rfl⟩ := acc_inv (i := 0) ha1
        simp only [accF, Option.some.injEq] at ha0
        subst ha0
        simp only [Nat.zero_add, Nat.reduceAdd] at *
        unfold sizeF at hn
        split at hn
        · omega
        rw [if_neg (by omega), if_neg (by omega), if_neg (by omega), if_pos (by omega), if_pos (by omega)]
        refine ⟨?_, by omega, by omega, by omega⟩
        simp only [Prod.mk.injEq]; omega
      · have := e1 (by omega); have := e2 (by omega)
        obtain ⟨n2, ha1, c2, c2', rfl⟩ := acc_inv (i := 1) ha
        obtain ⟨n3, ha0, c3, c3', rfl⟩ := acc_inv (i := 0) ha1
        simp only [accF, Option.some.injEq] at ha0
        subst ha0
        simp only [Nat.zero_add, Nat.reduceAdd] at *
        unfold sizeF at hn
        split at hn
        · omega
        rw [if_neg (by omega), if_neg (by omega), if_pos (by omega), if_pos (by omega)]
        refine ⟨?_, by omega, by omega, by omega⟩
        simp only [Prod.mk.injEq]; omega
      · have := e1 (by omega)
        obtain ⟨n3, ha0, c3, c3', rfl⟩ := acc_inv (i := 0) ha
        simp only [accF, Option.some.injEq] at ha0
        subst ha0
        simp only [Nat.zero_add, Nat.reduceAdd] at *
        unfold sizeF at hn
        split at hn
        · omega
        rw [if_neg (by omega), if_pos (by omega), if_pos (by omega)]
        refine ⟨?_, by omega, by omega, by omega⟩
        simp only [Prod.mk.injEq]; omega
      · simp only [Int.toNat_zero, accF, Option.some.injEq] at ha
        subst ha
        rw [if_pos (by omega)]
        refine ⟨?_, by omega, by omega, by omega⟩
        simp only [Prod.mk.injEq]; omega
    rw [if_neg]
    · rw [goal.1]; simp only [Prod.mk.injEq]; omega
    · rw [goal.1]; simp only [Prod.mk.injEq]; omega
end Go.Proofs.YtdgpilapblipbaaDoor.Abs
