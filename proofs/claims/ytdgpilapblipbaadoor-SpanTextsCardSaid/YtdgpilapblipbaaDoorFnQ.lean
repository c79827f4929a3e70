/- What texts that are made have in them. -/
import Derived.Test.YtdgpilapblipbaaDoorFnF
namespace Go.Proofs.YtdgpilapblipbaaDoor.Abs
open Go Go.Lib
set_option linter.unusedSimpArgs false
def encB (l : List Int) : List UInt8 := (l.flatMap encI).map fun n => UInt8.ofNat n.toNat
def Eight (l : List Int) : Prop := ∀ n ∈ l, n = 97 ∨ n = 98 ∨ n = 99 ∨ n = 120 ∨ n = 121 ∨ n = 233 ∨ n = 8364 ∨ n = 128512
theorem dec_enc {n : Int} (h : n = 97 ∨ n = 98 ∨ n = 99 ∨ n = 120 ∨ n = 121 ∨ n = 233 ∨ n = 8364 ∨ n = 128512) (rest : List UInt8) :
    ∃ w, decodeL ((encI n).map (fun n => UInt8.ofNat n.toNat) ++ rest) = (n.toNat, w) ∧ w = (encI n).length ∧ n.toNat ≠ 65533 := by
  rcases h with rfl | rfl | rfl | rfl | rfl | rfl | rfl | rfl
  · refine ⟨1, ?_, by simp [encI, sizeF], by decide⟩
    show decodeL ((97 : UInt8) :: rest) = (97, 1)
    rw [decodeL_N]; simp [decodeN]
  · refine ⟨1, ?_, by simp [encI, sizeF], by decide⟩
    show decodeL ((98 : UInt8) :: rest) = (98, 1)
    rw [decodeL_N]; simp [decodeN]
  · refine ⟨1, ?_, by simp [encI, sizeF], by decide⟩
    show decodeL ((99 : UInt8) :: rest) = (99, 1)
    rw [decodeL_N]; simp [decodeN]
  · refine ⟨1, ?_, by simp [encI, sizeF], by decide⟩
    show decodeL ((120 : UInt8) :: rest) = (120, 1)
    rw [decodeL_N]; simp [decodeN]
  · refine ⟨1, ?_, by simp [encI, sizeF], by decide⟩
    show decodeL ((121 : UInt8) :: rest) = (121, 1)
    rw [decodeL_N]; simp [decodeN]
  · refine ⟨2, ?_, by simp [encI, sizeF], by decide⟩
    show decodeL ((195 : UInt8) :: (169 : UInt8) :: rest) = (233, 2)
    rw [decodeL_N]; simp [decodeN]
  · refine ⟨3, ?_, by simp [encI, sizeF], by decide⟩
    show decodeL ((226 : UInt8) :: (130 : UInt8) :: (172 : UInt8) :: rest) = (8364, 3)
    rw [decodeL_N]; simp [decodeN]
  · refine ⟨4, ?_, by simp [encI, sizeF], by decide⟩
    show decodeL ((240 : UInt8) :: (159 : UInt8) :: (152 : UInt8) :: (128 : UInt8) :: rest) = (128512, 4)
    rw [decodeL_N]; simp [decodeN]
theorem encB_nil : encB [] = [] := rfl
theorem encB_cons (n : Int) (l : List Int) : encB (n :: l) = (encI n).map (fun n => UInt8.ofNat n.toNat) ++ encB l := by simp [encB]
theorem encB_app (a b : List Int) : encB (a ++ b) = encB a ++ encB b := by simp [encB]
theorem enc_ne {n : Int} (h : n = 97 ∨ n = 98 ∨ n = 99 ∨ n = 120 ∨ n = 121 ∨ n = 233 ∨ n = 8364 ∨ n = 128512) (rest : List UInt8) : (encI n).map (fun n => UInt8.ofNat n.toNat) ++ rest ≠ [] := by
  rcases h with rfl | rfl | rfl | rfl | rfl | rfl | rfl | rfl <;> simp [encI, sizeF]
theorem valid_enc : ∀ {l : List Int}, Eight l → ∀ rest, validD (encB l ++ rest) = validD rest
  | [], _, rest => rfl
  | n :: l, h, rest => by
    have hn := h n (by simp)
    have ih := valid_enc (l := l) (fun m hm => h m (by simp [hm])) rest
    rw [encB_cons, List.append_assoc]
    obtain ⟨w, hd, hw, hne⟩ := dec_enc hn (encB l ++ rest)
    rw [validD_step (enc_ne hn _), hd, if_neg (by simp [hne]), hw]
    rw [show (encI n).length = ((encI n).map (fun n => UInt8.ofNat n.toNat)).length by simp, List.drop_left]
    exact ih
theorem pos_enc : ∀ {l : List Int}, Eight l → ∀ rest (a : Int), ∃ b, (posD (encB l ++ rest) a).length = l.length + (posD rest b).length
  | [], _, rest, a => ⟨a, by simp [encB_nil]⟩
  | n :: l, h, rest, a => by
    have hn := h n (by simp)
    rw [encB_cons, List.append_assoc]
    obtain ⟨w, hd, hw, hne⟩ := dec_enc hn (encB l ++ rest)
    rw [posD_step (enc_ne hn _), hd, hw]
    obtain ⟨b, hb⟩ := pos_enc (l := l) (fun m hm => h m (by simp [hm])) rest (a + (encI n).length)
    refine ⟨b, ?_⟩
    rw [show (encI n).length = ((encI n).map (fun n => UInt8.ofNat n.toNat)).length by simp, List.drop_left]
    rw [List.length_cons, List.length_cons]
    simp only [List.length_map]
    rw [hb]; omega
theorem valid_all {l : List Int} (h : Eight l) : validD (encB l) = true := by
  have := valid_enc h []
  rw [List.append_nil] at this; rw [this]; rfl
theorem count_all {l : List Int} (h : Eight l) : countD (encB l) = l.length := by
  unfold countD
  rw [if_pos (valid_all h)]
  obtain ⟨b, hb⟩ := pos_enc h [] 0
  rw [List.append_nil] at hb; rw [hb, posD_nil]; simp
theorem strI_list (l : List Int) : (strI (l.flatMap encI)).data.toList = encB l := by simp [strI, encB]
theorem eight_fit (t : ByteArray) (k : Nat) : Eight (fitL t k) := fun n hn => fitL_mem hn
theorem enc_len {l : List Int} (h : Eight l) : l.length ≤ (encB l).length ∧ (encB l).length ≤ 4 * l.length := by
  induction l with
  | nil => simp [encB]
  | cons n l ih =>
    obtain ⟨i1, i2⟩ := ih (fun m hm => h m (by simp [hm]))
    have hn := h n (by simp)
    rw [encB_cons, List.length_append, List.length_map, List.length_cons]
    have : 1 ≤ (encI n).length ∧ (encI n).length ≤ 4 := by
      rcases hn with rfl | rfl | rfl | rfl | rfl | rfl | rfl | rfl <;> simp [encI, sizeF]
    omega
end Go.Proofs.YtdgpilapblipbaaDoor.Abs
