/- The reference's texts: where the code points begin. -/
import Derived.Test.YtdgpilapblipbaaDoorFnP
import Derived.Lib.MapLaws
namespace Go.Proofs.YtdgpilapblipbaaDoor.Abs
open Go
set_option maxRecDepth 100000
set_option linter.unusedSimpArgs false
set_option linter.unusedVariables false
attribute [local irreducible] Ev.FinL Ev.brC Ev.Side Ev.Wp Ev.Again Ev.To Ev.Fin
open Go.Lib
def ints (l : List Int) : List (List AV) := l.map fun n => [.v (.int .i64 n)]
def posGo : Nat → List UInt8 → Int → List Int
  | 0, _, _ => []
  | n + 1, l, at' => if l = [] then [] else (at' + (decodeL l).2) :: posGo n (l.drop (decodeL l).2) (at' + (decodeL l).2)
def posD (l : List UInt8) (at' : Int) : List Int := posGo l.length l at'
theorem posGo_fuel : ∀ (n m : Nat) (l : List UInt8) (a : Int), l.length ≤ n → l.length ≤ m → posGo n l a = posGo m l a
  | 0, 0, l, a, _, _ => rfl
  | 0, m + 1, l, a, h, _ => by
    have : l = [] := List.length_eq_zero_iff.1 (by omega)
    subst this; simp [posGo]
  | n + 1, 0, l, a, _, h => by
    have : l = [] := List.length_eq_zero_iff.1 (by omega)
    subst this; simp [posGo]
  | n + 1, m + 1, l, a, h1, h2 => by
    simp only [posGo]
    by_cases he : l = []
    · rw [if_pos he, if_pos he]
    · rw [if_neg he, if_neg he]
      have := decodeL_width l
      rw [posGo_fuel n m _ _ (by rw [List.length_drop]; omega) (by rw [List.length_drop]; omega)]
theorem posD_nil (a : Int) : posD [] a = [] := rfl
theorem posD_step {l : List UInt8} (h : l ≠ []) (a : Int) : posD l a = (a + (decodeL l).2) :: posD (l.drop (decodeL l).2) (a + (decodeL l).2) := by
  unfold posD
  obtain ⟨n, hn⟩ : ∃ n, l.length = n + 1 := ⟨l.length - 1, by have := List.length_pos_iff.2 h; omega⟩
  rw [hn, posGo, if_neg h]
  have := decodeL_width l
  rw [posGo_fuel n _ _ _ (by rw [List.length_drop]; omega) (Nat.le_refl _)]
theorem validGo_fuel : ∀ (n m : Nat) (l : List UInt8), l.length ≤ n → l.length ≤ m → validGoD n l = validGoD m l
  | 0, 0, l, _, _ => rfl
  | 0, m + 1, l, h, _ => by
    have : l = [] := List.length_eq_zero_iff.1 (by omega)
    subst this; simp [validGoD]
  | n + 1, 0, l, _, h => by
    have : l = [] := List.length_eq_zero_iff.1 (by omega)
    subst this; simp [validGoD]
  | n + 1, m + 1, l, h1, h2 => by
    simp only [validGoD]
    by_cases he : l = []
    · rw [if_pos he, if_pos he]
    · rw [if_neg he, if_neg he]
      have := decodeL_width l
      rw [validGo_fuel n m _ (by rw [List.length_drop]; omega) (by rw [List.length_drop]; omega)]
theorem validD_nil' : validD [] = true := rfl
theorem validD_step {l : List UInt8} (h : l ≠ []) : validD l = if decodeL l = (65533, 1) then false else validD (l.drop (decodeL l).2) := by
  unfold validD
  obtain ⟨n, hn⟩ : ∃ n, l.length = n + 1 := ⟨l.length - 1, by have := List.length_pos_iff.2 h; omega⟩
  rw [hn, validGoD, if_neg h]
  have := decodeL_width l
  rw [validGo_fuel n _ _ (by rw [List.length_drop]; omega) (Nat.le_refl _)]
  have e : (decodeL l = (65533, 1)) ↔ ((decodeL l).1 = 65533 ∧ (decodeL l).2 = 1) := by rw [Prod.ext_iff]
  simp only [e]
theorem extract_list (t : ByteArray) (i : Nat) : (t.extract i t.size).data.toList = t.data.toList.drop i := by
  simp only [ByteArray.data_extract, Array.toList_extract, List.extract_eq_take_drop]
  apply List.take_of_length_le
  simp
theorem firstF_drop (t : ByteArray) (i : Nat) (hi : i < t.size) : firstF (t.extract i t.size) = if decodeL (t.data.toList.drop i) = (65533, 1) then (0, 0) else (((decodeL (t.data.toList.drop i)).1 : Int), ((decodeL (t.data.toList.drop i)).2 : Int)) := by
  have e : Utf8.decode (t.extract i t.size) 0 = decodeL (t.data.toList.drop i) := by
    rw [← decodeL_drop (t.extract i t.size) 0, List.drop_zero, extract_list]
  unfold firstF
  rw [e]
  have : ¬ (t.extract i t.size).size = 0 := by rw [ByteArray.size_extract]; omega
  by_cases h : decodeL (t.data.toList.drop i) = (65533, 1)
  · rw [if_pos (Or.inr h), if_pos h]
  · rw [if_neg (by rintro (h' | h'); exact this h'; exact h h'), if_neg h]
theorem len_list (t : ByteArray) : t.data.toList.length = t.size := Array.length_toList
theorem first_det (t : ByteArray) : CallW env 42 [.v (.string t)] (fun r hs => r = .tup [.v (.int .i64 (firstF t).1), .v (.int .i64 (firstF t).2)] ∧ hs = []) :=
  (first_call t).mono fun r hs ⟨n, k, a, b, c⟩ => by rw [← firstP_eq b]; exact ⟨a, c⟩
def cc39 : CC := (.seq (.reg 0 [⟨0, some 2, (.assign (.const (.slice none 0 0))), none⟩, ⟨1, some 3, (.assign (.const (.bool false))), none⟩]) (.seq (.reg 1 [⟨0, some 8, (.buildSlice 60 1 #[(0, .const (.int .i64 0))]), none⟩, ⟨1, some 4, (.assign (.tmp 8)), none⟩]) (.seq (.reg 2 [⟨0, some 5, (.assign (.const (.int .i64 0))), none⟩]) (.seq (.block 0 (.loop (.seq (.seq (.reg 3 [⟨0, some 9, (.move (.tmp 5)), none⟩, ⟨1, some 10, (.move (.tmp 0)), none⟩, ⟨2, some 11, (.call { callee := .builtin .len, args := #[.tmp 10], argTypes := #[9] }), none⟩, ⟨3, some 12, (.binOp .lss 3 (.tmp 9) (.tmp 11) 3), none⟩]) (.cond (.tmp 12) .skip (.exit 0))) (.block 1 (.seq (.reg 4 [⟨0, some 14, (.move (.tmp 0)), none⟩, ⟨1, some 15, (.move (.tmp 5)), none⟩, ⟨2, some 16, (.slice 9 (.tmp 14) (some (.tmp 15)) none none), none⟩, ⟨3, some 17, (.call { callee := .value (.func 42), args := #[.tmp 16], argTypes := #[9] }), none⟩, ⟨4, some 13, (.move (.tmp 17)), none⟩, ⟨5, some 18, (.extract (.tmp 13) 0), none⟩, ⟨6, some 19, (.extract (.tmp 13) 1), none⟩, ⟨7, some 6, (.assign (.tmp 18)), none⟩, ⟨8, some 7, (.assign (.tmp 19)), none⟩]) (.seq (.seq (.reg 5 [⟨0, some 20, (.move (.tmp 7)), none⟩, ⟨1, some 21, (.binOp .eql 3 (.tmp 20) (.const (.int .i64 0)) 3), none⟩]) (.cond (.tmp 21) (.seq (.reg 6 [⟨0, some 2, (.assign (.const (.slice none 0 0))), none⟩, ⟨1, some 3, (.assign (.const (.bool false))), none⟩]) .ret) .skip)) (.seq (.reg 7 [⟨0, some 22, (.move (.tmp 5)), none⟩, ⟨1, some 23, (.move (.tmp 7)), none⟩, ⟨2, some 24, (.binOp .add 3 (.tmp 22) (.tmp 23) 3), none⟩, ⟨3, some 5, (.assign (.tmp 24)), none⟩]) (.reg 8 [⟨0, some 25, (.move (.tmp 4)), none⟩, ⟨1, some 26, (.move (.tmp 5)), none⟩, ⟨2, some 27, (.buildSlice 60 1 #[(0, .tmp 26)]), none⟩, ⟨3, some 28, (.call { callee := .builtin .append, args := #[.tmp 25, .tmp 27], argTypes := #[60, 60] }), none⟩, ⟨4, some 4, (.assign (.tmp 28)), none⟩])))))))) (.seq (.reg 9 [⟨0, some 29, (.move (.tmp 4)), none⟩, ⟨1, some 2, (.assign (.tmp 29)), none⟩, ⟨2, some 3, (.assign (.const (.bool true))), none⟩]) .ret)))))
theorem comp39 : ∀ c, Tryd.f39.body = some c → comp c = cc39 := by
  intro c h
  have : c = Tryd.f39.body.get rfl := by rw [← Option.some_inj, ← h]; rfl
  rw [this]; rfl
def StartsR (t : ByteArray) (r : AV) (hs : List Blk) : Prop :=
  if validD t.data.toList then r = .tup [.own 0 0 0 ((posD t.data.toList 0).length + 1), .v (.bool true)] ∧ hs = [⟨1, 3, 0, 0, false, ints (0 :: posD t.data.toList 0)⟩] else r = .tup [.v (.slice none 0 0), .v (.bool false)] ∧ hs = []
theorem starts_call (t : ByteArray) (ht : t.size ≤ 1000000000) : CallW env 39 [.v (.string t)] (StartsR t) := by
  refine Ev.funcO tabOK [0, 2, 3, 4, 5, 7, 12, 21] 0 Tryd.func39 rfl rfl (by simp [Tryd.ntmps39]) (by rfl) (comp39 _ rfl) (rs := [.tmp 2, .tmp 3]) rfl ?_; rw [cc39]; show Ev.Wp _ _ _ _ ⟨[(0, _)], [], 0⟩
  repeat' (first | ((with_reducible refine Ev.sided ?_ ?_); (conv => whnf)) | ((with_reducible refine Ev.w_put ?_); (conv => whnf)) | ((with_reducible refine Ev.w_step ?_); (conv => whnf)) | ((with_reducible refine Ev.w_opt ?_); (conv => whnf)) | ((with_reducible refine Ev.chk_k ?_ ?_); rotate_left; (focus first | rfl | (simp only [Ev.nbeq, Bool.and_true, Bool.true_and, Bool.not_false]; done)); conv => whnf) | with_reducible refine Ev.c_dec (fun _ => ?_) (fun _ => ?_) | with_reducible refine Ev.c_not ?_ | with_reducible refine Ev.c_t ?_ | with_reducible refine Ev.c_f ?_ | with_reducible refine Ev.c_br (fun _ => ?_) (fun _ => ?_) | ((with_reducible refine Ev.br_not ?_); conv => whnf) | with_reducible refine Ev.br_dec (fun _ => ?_) (fun _ => ?_) | with_reducible refine Ev.br (fun _ => ?_) (fun _ => ?_) | with_reducible refine Ev.eo_ret ?_ | with_reducible refine Ev.eo_norm ?_ | with_reducible refine Ev.t_norm ?_ | with_reducible refine Ev.k_seq ?_ | ((with_reducible refine Ev.k_reg (hs := []) (tabOK' _ _) (fun Q hQ => ?_)); (simp only [Ev.runE_cons, Ev.runE_nil]); conv => whnf) | (with_reducible refine hQ _ ?_; clear hQ Q) | with_reducible refine Ev.k_cond rfl ?_ | with_reducible refine Ev.k_skip ?_ | with_reducible refine Ev.k_block ?_ | with_reducible refine Ev.k_exit ?_ | with_reducible refine Ev.k_ret ?_ | with_reducible refine Ev.t_ret ?_ | with_reducible refine Ev.t_exit ?_ | with_reducible refine Ev.b_norm ?_ | with_reducible refine Ev.b_ret ?_ | with_reducible refine Ev.b_here ?_ | with_reducible refine Ev.b_off rfl ?_ | ((with_reducible refine Ev.e_ret (fun F hF => ?_)); conv => whnf) | ((with_reducible refine Ev.e_norm (fun F hF => ?_)); conv => whnf) | (with_reducible refine hF _ ?_; clear hF F) | (refine Ev.Side.of ?_; exact Nat.le_of_ble_eq_true rfl))
  refine Ev.loop (fun k s => ∃ (i v c : Nat) (out : List Int), s = ⟨[(0, .v (.string t)), (2, .v (.slice none 0 0)), (3, .v (.bool false)), (4, .own 512 v 0 out.length), (5, .v (.int .i64 i))], [(512, ⟨1, 3, v, 0, false, ints out⟩)], c⟩ ∧
      k + i = t.size ∧ out ++ posD (t.data.toList.drop i) i = 0 :: posD t.data.toList 0 ∧ validD (t.data.toList.drop i) = validD t.data.toList ∧ out.length ≤ i + 1) ?_ ?_
  · exact Ev.to ⟨[(0, _), (2, _), (3, _), (4, .own 512 0 0 1), (5, .v (.int .i64 ((0 : Nat) : Int)))], [(512, ⟨1, 3, 0, 0, false, ints [0]⟩)], 8⟩ ⟨rfl, rfl, rfl, rfl, rfl, trivial⟩ ⟨rfl, trivial⟩ (Nat.le_refl _) ⟨t.size, 0, 0, 8, [0], rfl, by omega, rfl, rfl, by simp⟩
  rintro k s1 ⟨i, v, c, out, rfl, hk, ho, hv, hl⟩
  repeat' (first | ((with_reducible refine Ev.sided ?_ ?_); (conv => whnf)) | ((with_reducible refine Ev.w_put ?_); (conv => whnf)) | ((with_reducible refine Ev.w_step ?_); (conv => whnf)) | ((with_reducible refine Ev.w_opt ?_); (conv => whnf)) | ((with_reducible refine Ev.chk_k ?_ ?_); rotate_left; (focus first | rfl | (simp only [Ev.nbeq, Bool.and_true, Bool.true_and, Bool.not_false]; done)); conv => whnf) | with_reducible refine Ev.c_dec (fun _ => ?_) (fun _ => ?_) | with_reducible refine Ev.c_not ?_ | with_reducible refine Ev.c_t ?_ | with_reducible refine Ev.c_f ?_ | with_reducible refine Ev.c_br (fun _ => ?_) (fun _ => ?_) | ((with_reducible refine Ev.br_not ?_); conv => whnf) | with_reducible refine Ev.br_dec (fun _ => ?_) (fun _ => ?_) | with_reducible refine Ev.br (fun _ => ?_) (fun _ => ?_) | with_reducible refine Ev.eo_ret ?_ | with_reducible refine Ev.eo_norm ?_ | with_reducible refine Ev.t_norm ?_ | with_reducible refine Ev.k_seq ?_ | ((with_reducible refine Ev.k_reg (hs := []) (tabOK' _ _) (fun Q hQ => ?_)); (simp only [Ev.runE_cons, Ev.runE_nil]); conv => whnf) | (with_reducible refine hQ _ ?_; clear hQ Q) | with_reducible refine Ev.k_cond rfl ?_ | with_reducible refine Ev.k_skip ?_ | with_reducible refine Ev.k_block ?_ | with_reducible refine Ev.k_exit ?_ | with_reducible refine Ev.k_ret ?_ | with_reducible refine Ev.t_ret ?_ | with_reducible refine Ev.t_exit ?_ | with_reducible refine Ev.b_norm ?_ | with_reducible refine Ev.b_ret ?_ | with_reducible refine Ev.b_here ?_ | with_reducible refine Ev.b_off rfl ?_ | ((with_reducible refine Ev.e_ret (fun F hF => ?_)); conv => whnf) | ((with_reducible refine Ev.e_norm (fun F hF => ?_)); conv => whnf) | (with_reducible refine hF _ ?_; clear hF F) | ((refine Ev.call_det (first_det _) rfl rfl ?_); conv => whnf) | (refine Ev.Side.of ?_; exact Nat.le_of_ble_eq_true rfl))
  · rename_i hi hk0
    refine Ev.finL [] (by simp) (fun F hF => ?_)
    conv => whnf
    refine hF _ ?_
    simp only [Int.toNat_natCast] at hk0
    rw [firstF_drop t i (by omega)] at hk0
    unfold StartsR
    have hne : t.data.toList.drop i ≠ [] := by intro e; have := congrArg List.length e; rw [List.length_drop, len_list] at this; simp at this; omega
    rw [validD_step hne] at hv
    have hw := decodeL_width (t.data.toList.drop i)
    split at hk0
    · rename_i hd
      rw [if_pos hd] at hv
      rw [if_neg (by rw [← hv]; decide)]; exact ⟨rfl, rfl⟩
    · simp only at hk0; omega
  · rename_i hi hk0
    simp only [Int.toNat_natCast] at hk0
    have hne : t.data.toList.drop i ≠ [] := by intro e; have := congrArg List.length e; rw [List.length_drop, len_list] at this; simp at this; omega
    have hw := decodeL_width (t.data.toList.drop i)
    have hw' := decodeL_le (t.data.toList.drop i) hne
    rw [List.length_drop, len_list] at hw'
    have hf := firstF_drop t i (by omega)
    have hd : ¬ decodeL (t.data.toList.drop i) = (65533, 1) := by
      intro e; rw [hf, if_pos e] at hk0; exact hk0 rfl
    rw [if_neg hd] at hf
    rw [validD_step hne, if_neg hd, List.drop_drop] at hv
    rw [posD_step hne, List.drop_drop] at ho
    refine Ev.again (k - (decodeL (t.data.toList.drop i)).2) ⟨[(0, _), (2, _), (3, _), (4, _), (5, .v (.int .i64 ((i + (decodeL (t.data.toList.drop i)).2 : Nat) : Int)))], [(512, ⟨1, 3, c + 8, 0, false, ints (out ++ [((i + (decodeL (t.data.toList.drop i)).2 : Nat) : Int)])⟩)], c + 8 + 8⟩ (by omega)
      ⟨rfl, rfl, rfl, rfl, Ev.slot_int rfl ?_, trivial⟩ ⟨Ev.slot_eq rfl ?_, trivial⟩ (Nat.le_refl _) ⟨i + (decodeL (t.data.toList.drop i)).2, c + 8, c + 8 + 8, out ++ [((i + (decodeL (t.data.toList.drop i)).2 : Nat) : Int)], ?_, by omega, ?_, by rw [Nat.add_comm]; rw [Nat.add_comm] at hv; exact hv, by rw [List.length_append]; simp only [List.length_cons, List.length_nil]; omega⟩
    · rw [Int.toNat_natCast, hf, Ev.wrap64]; simp only; omega
    · simp only [Blk.mk.injEq, true_and, and_true, List.drop_zero, Int.toNat_natCast, hf]
      simp only [ints, List.map_append, List.map_cons, List.map_nil, List.take_succ_cons, List.take_zero, Ev.wrap64]
      rw [show ((i : Int) + ((decodeL (t.data.toList.drop i)).2 : Int) + 9223372036854775808) % 18446744073709551616 - 9223372036854775808 = ((i + (decodeL (t.data.toList.drop i)).2 : Nat) : Int) by omega]
    · simp only [List.length_append, List.length_cons, List.length_nil]; rfl
    · rw [List.append_assoc]; rw [← ho]
      simp only [Int.natCast_add, List.singleton_append]
  · refine Ev.Side.of ?_
    have hm : 2000000003 ≤ maxLen := by decide
    simp [ints]
    omega
  · refine Ev.Side.of ?_; omega
  · rename_i hi
    refine Ev.finL [(512, v)] (by simp) (fun F hF => ?_)
    have e : i = t.size := by omega
    subst e
    have en : t.data.toList.drop t.size = [] := by apply List.drop_of_length_le; rw [len_list]; exact Nat.le_refl _
    rw [en] at hv ho
    rw [posD_nil, List.append_nil] at ho
    subst ho
    simp only [Ev.FinP.resK, get_cons, get_nil, Nat.reduceEqDiff, if_false, if_true, handed, rens, ren, idx, and_self, Option.map_some, resOf]
    refine hF _ ?_
    unfold StartsR
    rw [if_pos (by rw [← hv]; rfl)]
    exact ⟨rfl, rfl⟩
end Go.Proofs.YtdgpilapblipbaaDoor.Abs
