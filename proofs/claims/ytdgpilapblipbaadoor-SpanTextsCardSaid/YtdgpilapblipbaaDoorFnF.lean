/- Texts that are made of any string. -/
import Derived.Test.YtdgpilapblipbaaDoorFnO
namespace Go.Proofs.YtdgpilapblipbaaDoor.Abs
open Go
set_option maxRecDepth 100000
set_option linter.unusedSimpArgs false
set_option linter.unusedVariables false
attribute [local irreducible] Ev.FinL Ev.brC Ev.Side Ev.Wp Ev.Again Ev.To Ev.Fin
open Go.Lib Go.RowKit
def eight (r : Int) : Int := ([97, 98, 99, 120, 121, 233, 8364, 128512] : List Int).getD r.toNat 0
def fitL (t : ByteArray) (k : Nat) : List Int := (List.range k).map fun i => eight (Ev.byt t i % 8)
theorem fitL_succ (t : ByteArray) (k : Nat) : fitL t (k + 1) = fitL t k ++ [eight (Ev.byt t k % 8)] := by simp [fitL, List.range_succ]
theorem fitL_len (t : ByteArray) (k : Nat) : (fitL t k).length = k := by simp [fitL]
theorem fitL_mem {t : ByteArray} {k : Nat} {n : Int} (h : n ∈ fitL t k) : n = 97 ∨ n = 98 ∨ n = 99 ∨ n = 120 ∨ n = 121 ∨ n = 233 ∨ n = 8364 ∨ n = 128512 := by
  simp only [fitL, List.mem_map] at h
  obtain ⟨i, _, rfl⟩ := h
  have : Ev.byt t i % 8 = 0 ∨ Ev.byt t i % 8 = 1 ∨ Ev.byt t i % 8 = 2 ∨ Ev.byt t i % 8 = 3 ∨ Ev.byt t i % 8 = 4 ∨ Ev.byt t i % 8 = 5 ∨ Ev.byt t i % 8 = 6 ∨ Ev.byt t i % 8 = 7 := by omega
  rcases this with h | h | h | h | h | h | h | h <;> rw [h] <;> simp [eight]
def fitS (t : ByteArray) : ByteArray := strI ((fitL t t.size).flatMap encI)
def cc18 : CC := (.seq (.reg 0 [⟨0, some 2, (.assign (.const (.string { data := #[] }))), none⟩]) (.seq (.reg 1 [⟨0, some 6, (.build 53 #[(0, .const (.int .i32 97)), (1, .const (.int .i32 98)), (2, .const (.int .i32 99)), (3, .const (.int .i32 120)), (4, .const (.int .i32 121)), (5, .const (.int .i32 233)), (6, .const (.int .i32 8364)), (7, .const (.int .i32 128512))]), none⟩, ⟨1, some 3, (.alloc 53), none⟩, ⟨2, none, (.store 53 (.tmp 3) (.tmp 6)), none⟩]) (.seq (.reg 2 [⟨0, some 7, (.buildSlice 54 0 #[]), none⟩, ⟨1, some 4, (.assign (.tmp 7)), none⟩]) (.seq (.seq (.reg 3 [⟨0, some 5, (.assign (.const (.int .i64 0))), none⟩]) (.block 0 (.loop (.seq (.seq (.reg 4 [⟨0, some 8, (.move (.tmp 5)), none⟩, ⟨1, some 9, (.move (.tmp 0)), none⟩, ⟨2, some 10, (.call { callee := .builtin .len, args := #[.tmp 9], argTypes := #[9] }), none⟩, ⟨3, some 11, (.binOp .lss 3 (.tmp 8) (.tmp 10) 3), none⟩]) (.cond (.tmp 11) .skip (.exit 0))) (.seq (.block 1 (.reg 6 [⟨0, some 14, (.move (.tmp 4)), none⟩, ⟨1, some 15, (.move (.tmp 0)), none⟩, ⟨2, some 16, (.move (.tmp 5)), none⟩, ⟨3, some 17, (.index 9 (.tmp 15) (.tmp 16)), none⟩, ⟨4, some 18, (.binOp .rem 5 (.tmp 17) (.const (.int .u8 8)) 5), none⟩, ⟨5, some 19, (.indexAddr 53 (.tmp 3) (.tmp 18)), none⟩, ⟨6, some 20, (.load 21 (.tmp 19)), none⟩, ⟨7, some 21, (.buildSlice 54 1 #[(0, .tmp 20)]), none⟩, ⟨8, some 22, (.call { callee := .builtin .append, args := #[.tmp 14, .tmp 21], argTypes := #[54, 54] }), none⟩, ⟨9, some 4, (.assign (.tmp 22)), none⟩])) (.reg 5 [⟨0, some 12, (.move (.tmp 5)), none⟩, ⟨1, some 13, (.binOp .add 3 (.tmp 12) (.const (.int .i64 1)) 3), none⟩, ⟨2, some 5, (.assign (.tmp 13)), none⟩])))))) (.seq (.reg 7 [⟨0, some 23, (.move (.tmp 4)), none⟩, ⟨1, some 24, (.call { callee := .value (.func 36), args := #[.tmp 23], argTypes := #[54] }), none⟩, ⟨2, some 2, (.assign (.tmp 24)), none⟩]) .ret)))))
theorem comp18 : ∀ c, Tryd.f18.body = some c → comp c = cc18 := by
  intro c h
  have : c = Tryd.f18.body.get rfl := by rw [← Option.some_inj, ← h]; rfl
  rw [this]; rfl
theorem fit_call (t : ByteArray) (ht : t.size ≤ 1000000) : CallW env 18 [.v (.string t)] (fun r hs => r = .v (.string (fitS t)) ∧ hs = []) := by
  refine Ev.func tabOK [0, 2, 3, 4, 5, 11] 0 Tryd.func18 rfl rfl (by simp [Tryd.ntmps18]) (by rfl) (comp18 _ rfl) (rs := [.tmp 2]) rfl ?_; rw [cc18]; show Ev.Wp _ _ _ _ ⟨[(0, _)], [], 0⟩
  repeat' (first | ((with_reducible refine Ev.sided ?_ ?_); (conv => whnf)) | ((with_reducible refine Ev.w_put ?_); (conv => whnf)) | ((with_reducible refine Ev.w_step ?_); (conv => whnf)) | ((with_reducible refine Ev.w_opt ?_); (conv => whnf)) | ((with_reducible refine Ev.chk_k ?_ ?_); rotate_left; (focus first | rfl | (simp only [Ev.nbeq, Bool.and_true, Bool.true_and, Bool.not_false]; done)); conv => whnf) | with_reducible refine Ev.c_dec (fun _ => ?_) (fun _ => ?_) | with_reducible refine Ev.c_not ?_ | with_reducible refine Ev.c_t ?_ | with_reducible refine Ev.c_f ?_ | with_reducible refine Ev.c_br (fun _ => ?_) (fun _ => ?_) | ((with_reducible refine Ev.br_not ?_); conv => whnf) | with_reducible refine Ev.br_dec (fun _ => ?_) (fun _ => ?_) | with_reducible refine Ev.br (fun _ => ?_) (fun _ => ?_) | with_reducible refine Ev.eo_ret ?_ | with_reducible refine Ev.eo_norm ?_ | with_reducible refine Ev.t_norm ?_ | with_reducible refine Ev.k_seq ?_ | ((with_reducible refine Ev.k_reg (hs := []) (tabOK' _ _) (fun Q hQ => ?_)); (simp only [Ev.runE_cons, Ev.runE_nil]); conv => whnf) | (with_reducible refine hQ _ ?_; clear hQ Q) | with_reducible refine Ev.k_cond rfl ?_ | with_reducible refine Ev.k_skip ?_ | with_reducible refine Ev.k_block ?_ | with_reducible refine Ev.k_exit ?_ | with_reducible refine Ev.k_ret ?_ | with_reducible refine Ev.t_ret ?_ | with_reducible refine Ev.t_exit ?_ | with_reducible refine Ev.b_norm ?_ | with_reducible refine Ev.b_ret ?_ | with_reducible refine Ev.b_here ?_ | with_reducible refine Ev.b_off rfl ?_ | ((with_reducible refine Ev.e_ret (fun F hF => ?_)); conv => whnf) | ((with_reducible refine Ev.e_norm (fun F hF => ?_)); conv => whnf) | (with_reducible refine hF _ ?_; clear hF F) | (refine Ev.Side.of ?_; exact Nat.le_of_ble_eq_true rfl))
  · refine Ev.loop (fun k s => ∃ (i v c : Nat), s = ⟨[(0, .v (.string t)), (2, .v (.string ⟨#[]⟩)), (3, .ptr 520 0 0 0), (4, .own 1024 v 0 (fitL t i).length), (5, .v (.int .i64 i))], [(1024, ⟨1, 21, v, 0, false, rns (fitL t i)⟩), (520, ⟨8, 53, 0, 0, true, [[.v (.int .i32 97), .v (.int .i32 98), .v (.int .i32 99), .v (.int .i32 120), .v (.int .i32 121), .v (.int .i32 233), .v (.int .i32 8364), .v (.int .i32 128512)]]⟩)], c⟩ ∧ k + i = t.size) ?_ ?_
    · exact Ev.to ⟨[(0, _), (2, _), (3, .ptr 520 0 0 0), (4, .own 1024 8 0 0), (5, .v (.int .i64 ((0 : Nat) : Int)))], [(1024, ⟨1, 21, 8, 0, false, rns []⟩), (520, ⟨8, 53, 0, 0, true, [[.v (.int .i32 97), .v (.int .i32 98), .v (.int .i32 99), .v (.int .i32 120), .v (.int .i32 121), .v (.int .i32 233), .v (.int .i32 8364), .v (.int .i32 128512)]]⟩)], 16⟩ ⟨rfl, rfl, rfl, rfl, rfl, trivial⟩ ⟨rfl, rfl, trivial⟩ (Nat.le_refl _) ⟨t.size, 0, 8, 16, rfl, by omega⟩
    rintro k s1 ⟨i, v, c, rfl, hk⟩
    have hb := Ev.byt_lt t i
    have hr0 : (Ev.byt t (↑i : Int).toNat).tmod 8 = Ev.byt t i % 8 := by rw [Int.toNat_natCast, Int.tmod_eq_emod_of_nonneg hb.1]
    have hlen := fitL_len t i
    have this : Ev.byt t i % 8 = 0 ∨ Ev.byt t i % 8 = 1 ∨ Ev.byt t i % 8 = 2 ∨ Ev.byt t i % 8 = 3 ∨ Ev.byt t i % 8 = 4 ∨ Ev.byt t i % 8 = 5 ∨ Ev.byt t i % 8 = 6 ∨ Ev.byt t i % 8 = 7 := by omega
    rcases this with h8 | h8 | h8 | h8 | h8 | h8 | h8 | h8
    all_goals rw [h8] at hr0
    · repeat' (first | (simp only [hr0]) | ((with_reducible refine Ev.sided ?_ ?_); (conv => whnf)) | ((with_reducible refine Ev.w_put ?_); (conv => whnf)) | ((with_reducible refine Ev.w_step ?_); (conv => whnf)) | ((with_reducible refine Ev.w_opt ?_); (conv => whnf)) | ((with_reducible refine Ev.chk_k ?_ ?_); rotate_left; (focus first | rfl | (simp only [Ev.nbeq, Bool.and_true, Bool.true_and, Bool.not_false]; done)); conv => whnf) | with_reducible refine Ev.c_dec (fun _ => ?_) (fun _ => ?_) | with_reducible refine Ev.c_not ?_ | with_reducible refine Ev.c_t ?_ | with_reducible refine Ev.c_f ?_ | with_reducible refine Ev.c_br (fun _ => ?_) (fun _ => ?_) | ((with_reducible refine Ev.br_not ?_); conv => whnf) | with_reducible refine Ev.br_dec (fun _ => ?_) (fun _ => ?_) | with_reducible refine Ev.br (fun _ => ?_) (fun _ => ?_) | with_reducible refine Ev.eo_ret ?_ | with_reducible refine Ev.eo_norm ?_ | with_reducible refine Ev.t_norm ?_ | with_reducible refine Ev.k_seq ?_ | ((with_reducible refine Ev.k_reg (hs := []) (tabOK' _ _) (fun Q hQ => ?_)); (simp only [Ev.runE_cons, Ev.runE_nil]); conv => whnf) | (with_reducible refine hQ _ ?_; clear hQ Q) | with_reducible refine Ev.k_cond rfl ?_ | with_reducible refine Ev.k_skip ?_ | with_reducible refine Ev.k_block ?_ | with_reducible refine Ev.k_exit ?_ | with_reducible refine Ev.k_ret ?_ | with_reducible refine Ev.t_ret ?_ | with_reducible refine Ev.t_exit ?_ | with_reducible refine Ev.b_norm ?_ | with_reducible refine Ev.b_ret ?_ | with_reducible refine Ev.b_here ?_ | with_reducible refine Ev.b_off rfl ?_ | ((with_reducible refine Ev.e_ret (fun F hF => ?_)); conv => whnf) | ((with_reducible refine Ev.e_norm (fun F hF => ?_)); conv => whnf) | (with_reducible refine hF _ ?_; clear hF F) | ((refine Ev.call_det (of_text (fitL t i) (by rw [fitL_len]; omega) (fun n hn => by have := fitL_mem hn; omega)) ?_ rfl ?_; rotate_left); conv => whnf) | (refine Ev.Side.of ?_; exact Nat.le_of_ble_eq_true rfl))
      · have he : fitL t (i + 1) = fitL t i ++ [97] := by rw [fitL_succ, h8]; rfl
        refine Ev.again (k - 1) ⟨[(0, _), (2, _), (3, _), (4, .own 1024 (c + 8) 0 (fitL t (i + 1)).length), (5, .v (.int .i64 ((i + 1 : Nat) : Int)))], [(1024, ⟨1, 21, c + 8, 0, false, rns (fitL t (i + 1))⟩), (520, ⟨8, 53, 0, 0, true, [[.v (.int .i32 97), .v (.int .i32 98), .v (.int .i32 99), .v (.int .i32 120), .v (.int .i32 121), .v (.int .i32 233), .v (.int .i32 8364), .v (.int .i32 128512)]]⟩)], c + 8 + 8⟩ (by omega) ⟨rfl, rfl, rfl, Ev.slot_eq rfl ?_, Ev.slot_int rfl (by rw [Ev.wrap64]; omega), trivial⟩ ⟨Ev.slot_eq rfl ?_, rfl, trivial⟩ (Nat.le_refl _) ⟨i + 1, c + 8, c + 8 + 8, rfl, by omega⟩
        · rw [he]; simp
        · rw [he]; simp [rns]
      · refine Ev.Side.of ?_
        have hm : 2000000003 ≤ maxLen := by decide
        simp [rns, hlen]
        omega
      · exact Ev.Side.of (by decide)
      · exact Ev.Side.of (by decide)
      · refine Ev.Side.of ?_; omega
      · rename_i hx
        have ei : i = t.size := by omega
        subst ei
        exact ⟨rfl, trivial⟩
      · rw [List.drop_zero, List.take_of_length_le (by simp [rns])]
      · refine Ev.Side.of ?_; simp [rns]
    · repeat' (first | (simp only [hr0]) | ((with_reducible refine Ev.sided ?_ ?_); (conv => whnf)) | ((with_reducible refine Ev.w_put ?_); (conv => whnf)) | ((with_reducible refine Ev.w_step ?_); (conv => whnf)) | ((with_reducible refine Ev.w_opt ?_); (conv => whnf)) | ((with_reducible refine Ev.chk_k ?_ ?_); rotate_left; (focus first | rfl | (simp only [Ev.nbeq, Bool.and_true, Bool.true_and, Bool.not_false]; done)); conv => whnf) | with_reducible refine Ev.c_dec (fun _ => ?_) (fun _ => ?_) | with_reducible refine Ev.c_not ?_ | with_reducible refine Ev.c_t ?_ | with_reducible refine Ev.c_f ?_ | with_reducible refine Ev.c_br (fun _ => ?_) (fun _ => ?_) | ((with_reducible refine Ev.br_not ?_); conv => whnf) | with_reducible refine Ev.br_dec (fun _ => ?_) (fun _ => ?_) | with_reducible refine Ev.br (fun _ => ?_) (fun _ => ?_) | with_reducible refine Ev.eo_ret ?_ | with_reducible refine Ev.eo_norm ?_ | with_reducible refine Ev.t_norm ?_ | with_reducible refine Ev.k_seq ?_ | ((with_reducible refine Ev.k_reg (hs := []) (tabOK' _ _) (fun Q hQ => ?_)); (simp only [Ev.runE_cons, Ev.runE_nil]); conv => whnf) | (with_reducible refine hQ _ ?_; clear hQ Q) | with_reducible refine Ev.k_cond rfl ?_ | with_reducible refine Ev.k_skip ?_ | with_reducible refine Ev.k_block ?_ | with_reducible refine Ev.k_exit ?_ | with_reducible refine Ev.k_ret ?_ | with_reducible refine Ev.t_ret ?_ | with_reducible refine Ev.t_exit ?_ | with_reducible refine Ev.b_norm ?_ | with_reducible refine Ev.b_ret ?_ | with_reducible refine Ev.b_here ?_ | with_reducible refine Ev.b_off rfl ?_ | ((with_reducible refine Ev.e_ret (fun F hF => ?_)); conv => whnf) | ((with_reducible refine Ev.e_norm (fun F hF => ?_)); conv => whnf) | (with_reducible refine hF _ ?_; clear hF F) | ((refine Ev.call_det (of_text (fitL t i) (by rw [fitL_len]; omega) (fun n hn => by have := fitL_mem hn; omega)) ?_ rfl ?_; rotate_left); conv => whnf) | (refine Ev.Side.of ?_; exact Nat.le_of_ble_eq_true rfl))
      · have he : fitL t (i + 1) = fitL t i ++ [98] := by rw [fitL_succ, h8]; rfl
        refine Ev.again (k - 1) ⟨[(0, _), (2, _), (3, _), (4, .own 1024 (c + 8) 0 (fitL t (i + 1)).length), (5, .v (.int .i64 ((i + 1 : Nat) : Int)))], [(1024, ⟨1, 21, c + 8, 0, false, rns (fitL t (i + 1))⟩), (520, ⟨8, 53, 0, 0, true, [[.v (.int .i32 97), .v (.int .i32 98), .v (.int .i32 99), .v (.int .i32 120), .v (.int .i32 121), .v (.int .i32 233), .v (.int .i32 8364), .v (.int .i32 128512)]]⟩)], c + 8 + 8⟩ (by omega) ⟨rfl, rfl, rfl, Ev.slot_eq rfl ?_, Ev.slot_int rfl (by rw [Ev.wrap64]; omega), trivial⟩ ⟨Ev.slot_eq rfl ?_, rfl, trivial⟩ (Nat.le_refl _) ⟨i + 1, c + 8, c + 8 + 8, rfl, by omega⟩
        · rw [he]; simp
        · rw [he]; simp [rns]
      · refine Ev.Side.of ?_
        have hm : 2000000003 ≤ maxLen := by decide
        simp [rns, hlen]
        omega
      · exact Ev.Side.of (by decide)
      · exact Ev.Side.of (by decide)
      · refine Ev.Side.of ?_; omega
      · rename_i hx
        have ei : i = t.size := by omega
        subst ei
        exact ⟨rfl, trivial⟩
      · rw [List.drop_zero, List.take_of_length_le (by simp [rns])]
      · refine Ev.Side.of ?_; simp [rns]
    · repeat' (first | (simp only [hr0]) | ((with_reducible refine Ev.sided ?_ ?_); (conv => whnf)) | ((with_reducible refine Ev.w_put ?_); (conv => whnf)) | ((with_reducible refine Ev.w_step ?_); (conv => whnf)) | ((with_reducible refine Ev.w_opt ?_); (conv => whnf)) | ((with_reducible refine Ev.chk_k ?_ ?_); rotate_left; (focus first | rfl | (simp only [Ev.nbeq, Bool.and_true, Bool.true_and, Bool.not_false]; done)); conv => whnf) | with_reducible refine Ev.c_dec (fun _ => ?_) (fun _ => ?_) | with_reducible refine Ev.c_not ?_ | with_reducible refine Ev.c_t ?_ | with_reducible refine Ev.c_f ?_ | with_reducible refine Ev.c_br (fun _ => ?_) (fun _ => ?_) | ((with_reducible refine Ev.br_not ?_); conv => whnf) | with_reducible refine Ev.br_dec (fun _ => ?_) (fun _ => ?_) | with_reducible refine Ev.br (fun _ => ?_) (fun _ => ?_) | with_reducible refine Ev.eo_ret ?_ | with_reducible refine Ev.eo_norm ?_ | with_reducible refine Ev.t_norm ?_ | with_reducible refine Ev.k_seq ?_ | ((with_reducible refine Ev.k_reg (hs := []) (tabOK' _ _) (fun Q hQ => ?_)); (simp only [Ev.runE_cons, Ev.runE_nil]); conv => whnf) | (with_reducible refine hQ _ ?_; clear hQ Q) | with_reducible refine Ev.k_cond rfl ?_ | with_reducible refine Ev.k_skip ?_ | with_reducible refine Ev.k_block ?_ | with_reducible refine Ev.k_exit ?_ | with_reducible refine Ev.k_ret ?_ | with_reducible refine Ev.t_ret ?_ | with_reducible refine Ev.t_exit ?_ | with_reducible refine Ev.b_norm ?_ | with_reducible refine Ev.b_ret ?_ | with_reducible refine Ev.b_here ?_ | with_reducible refine Ev.b_off rfl ?_ | ((with_reducible refine Ev.e_ret (fun F hF => ?_)); conv => whnf) | ((with_reducible refine Ev.e_norm (fun F hF => ?_)); conv => whnf) | (with_reducible refine hF _ ?_; clear hF F) | ((refine Ev.call_det (of_text (fitL t i) (by rw [fitL_len]; omega) (fun n hn => by have := fitL_mem hn; omega)) ?_ rfl ?_; rotate_left); conv => whnf) | (refine Ev.Side.of ?_; exact Nat.le_of_ble_eq_true rfl))
      · have he : fitL t (i + 1) = fitL t i ++ [99] := by rw [fitL_succ, h8]; rfl
        refine Ev.again (k - 1) ⟨[(0, _), (2, _), (3, _), (4, .own 1024 (c + 8) 0 (fitL t (i + 1)).length), (5, .v (.int .i64 ((i + 1 : Nat) : Int)))], [(1024, ⟨1, 21, c + 8, 0, false, rns (fitL t (i + 1))⟩), (520, ⟨8, 53, 0, 0, true, [[.v (.int .i32 97), .v (.int .i32 98), .v (.int .i32 99), .v (.int .i32 120), .v (.int .i32 121), .v (.int .i32 233), .v (.int .i32 8364), .v (.int .i32 128512)]]⟩)], c + 8 + 8⟩ (by omega) ⟨rfl, rfl, rfl, Ev.slot_eq rfl ?_, Ev.slot_int rfl (by rw [Ev.wrap64]; omega), trivial⟩ ⟨Ev.slot_eq rfl ?_, rfl, trivial⟩ (Nat.le_refl _) ⟨i + 1, c + 8, c + 8 + 8, rfl, by omega⟩
        · rw [he]; simp
        · rw [he]; simp [rns]
      · refine Ev.Side.of ?_
        have hm : 2000000003 ≤ maxLen := by decide
        simp [rns, hlen]
        omega
      · exact Ev.Side.of (by decide)
      · exact Ev.Side.of (by decide)
      · refine Ev.Side.of ?_; omega
      · rename_i hx
        have ei : i = t.size := by omega
        subst ei
        exact ⟨rfl, trivial⟩
      · rw [List.drop_zero, List.take_of_length_le (by simp [rns])]
      · refine Ev.Side.of ?_; simp [rns]
    · repeat' (first | (simp only [hr0]) | ((with_reducible refine Ev.sided ?_ ?_); (conv => whnf)) | ((with_reducible refine Ev.w_put ?_); (conv => whnf)) | ((with_reducible refine Ev.w_step ?_); (conv => whnf)) | ((with_reducible refine Ev.w_opt ?_); (conv => whnf)) | ((with_reducible refine Ev.chk_k ?_ ?_); rotate_left; (focus first | rfl | (simp only [Ev.nbeq, Bool.and_true, Bool.true_and, Bool.not_false]; done)); conv => whnf) | with_reducible refine Ev.c_dec (fun _ => ?_) (fun _ => ?_) | with_reducible refine Ev.c_not ?_ | with_reducible refine Ev.c_t ?_ | with_reducible refine Ev.c_f ?_ | with_reducible refine Ev.c_br (fun _ => ?_) (fun _ => ?_) | ((with_reducible refine Ev.br_not ?_); conv => whnf) | with_reducible refine Ev.br_dec (fun _ => ?_) (fun _ => ?_) | with_reducible refine Ev.br (fun _ => ?_) (fun _ => ?_) | with_reducible refine Ev.eo_ret ?_ | with_reducible refine Ev.eo_norm ?_ | with_reducible refine Ev.t_norm ?_ | with_reducible refine Ev.k_seq ?_ | ((with_reducible refine Ev.k_reg (hs := []) (tabOK' _ _) (fun Q hQ => ?_)); (simp only [Ev.runE_cons, Ev.runE_nil]); conv => whnf) | (with_reducible refine hQ _ ?_; clear hQ Q) | with_reducible refine Ev.k_cond rfl ?_ | with_reducible refine Ev.k_skip ?_ | with_reducible refine Ev.k_block ?_ | with_reducible refine Ev.k_exit ?_ | with_reducible refine Ev.k_ret ?_ | with_reducible refine Ev.t_ret ?_ | with_reducible refine Ev.t_exit ?_ | with_reducible refine Ev.b_norm ?_ | with_reducible refine Ev.b_ret ?_ | with_reducible refine Ev.b_here ?_ | with_reducible refine Ev.b_off rfl ?_ | ((with_reducible refine Ev.e_ret (fun F hF => ?_)); conv => whnf) | ((with_reducible refine Ev.e_norm (fun F hF => ?_)); conv => whnf) | (with_reducible refine hF _ ?_; clear hF F) | ((refine Ev.call_det (of_text (fitL t i) (by rw [fitL_len]; omega) (fun n hn => by have := fitL_mem hn; omega)) ?_ rfl ?_; rotate_left); conv => whnf) | (refine Ev.Side.of ?_; exact Nat.le_of_ble_eq_true rfl))
      · have he : fitL t (i + 1) = fitL t i ++ [120] := by rw [fitL_succ, h8]; rfl
        refine Ev.again (k - 1) ⟨[(0, _), (2, _), (3, _), (4, .own 1024 (c + 8) 0 (fitL t (i + 1)).length), (5, .v (.int .i64 ((i + 1 : Nat) : Int)))], [(1024, ⟨1, 21, c + 8, 0, false, rns (fitL t (i + 1))⟩), (520, ⟨8, 53, 0, 0, true, [[.v (.int .i32 97), .v (.int .i32 98), .v (.int .i32 99), .v (.int .i32 120), .v (.int .i32 121), .v (.int .i32 233), .v (.int .i32 8364), .v (.int .i32 128512)]]⟩)], c + 8 + 8⟩ (by omega) ⟨rfl, rfl, rfl, Ev.slot_eq rfl ?_, Ev.slot_int rfl (by rw [Ev.wrap64]; omega), trivial⟩ ⟨Ev.slot_eq rfl ?_, rfl, trivial⟩ (Nat.le_refl _) ⟨i + 1, c + 8, c + 8 + 8, rfl, by omega⟩
        · rw [he]; simp
        · rw [he]; simp [rns]
      · refine Ev.Side.of ?_
        have hm : 2000000003 ≤ maxLen := by decide
        simp [rns, hlen]
        omega
      · exact Ev.Side.of (by decide)
      · exact Ev.Side.of (by decide)
      · refine Ev.Side.of ?_; omega
      · rename_i hx
        have ei : i = t.size := by omega
        subst ei
        exact ⟨rfl, trivial⟩
      · rw [List.drop_zero, List.take_of_length_le (by simp [rns])]
      · refine Ev.Side.of ?_; simp [rns]
    · repeat' (first | (simp only [hr0]) | ((with_reducible refine Ev.sided ?_ ?_); (conv => whnf)) | ((with_reducible refine Ev.w_put ?_); (conv => whnf)) | ((with_reducible refine Ev.w_step ?_); (conv => whnf)) | ((with_reducible refine Ev.w_opt ?_); (conv => whnf)) | ((with_reducible refine Ev.chk_k ?_ ?_); rotate_left; (focus first | rfl | (simp only [Ev.nbeq, Bool.and_true, Bool.true_and, Bool.not_false]; done)); conv => whnf) | with_reducible refine Ev.c_dec (fun _ => ?_) (fun _ => ?_) | with_reducible refine Ev.c_not ?_ | with_reducible refine Ev.c_t ?_ | with_reducible refine Ev.c_f ?_ | with_reducible refine Ev.c_br (fun _ => ?_) (fun _ => ?_) | ((with_reducible refine Ev.br_not ?_); conv => whnf) | with_reducible refine Ev.br_dec (fun _ => ?_) (fun _ => ?_) | with_reducible refine Ev.br (fun _ => ?_) (fun _ => ?_) | with_reducible refine Ev.eo_ret ?_ | with_reducible refine Ev.eo_norm ?_ | with_reducible refine Ev.t_norm ?_ | with_reducible refine Ev.k_seq ?_ | ((with_reducible refine Ev.k_reg (hs := []) (tabOK' _ _) (fun Q hQ => ?_)); (simp only [Ev.runE_cons, Ev.runE_nil]); conv => whnf) | (with_reducible refine hQ _ ?_; clear hQ Q) | with_reducible refine Ev.k_cond rfl ?_ | with_reducible refine Ev.k_skip ?_ | with_reducible refine Ev.k_block ?_ | with_reducible refine Ev.k_exit ?_ | with_reducible refine Ev.k_ret ?_ | with_reducible refine Ev.t_ret ?_ | with_reducible refine Ev.t_exit ?_ | with_reducible refine Ev.b_norm ?_ | with_reducible refine Ev.b_ret ?_ | with_reducible refine Ev.b_here ?_ | with_reducible refine Ev.b_off rfl ?_ | ((with_reducible refine Ev.e_ret (fun F hF => ?_)); conv => whnf) | ((with_reducible refine Ev.e_norm (fun F hF => ?_)); conv => whnf) | (with_reducible refine hF _ ?_; clear hF F) | ((refine Ev.call_det (of_text (fitL t i) (by rw [fitL_len]; omega) (fun n hn => by have := fitL_mem hn; omega)) ?_ rfl ?_; rotate_left); conv => whnf) | (refine Ev.Side.of ?_; exact Nat.le_of_ble_eq_true rfl))
      · have he : fitL t (i + 1) = fitL t i ++ [121] := by rw [fitL_succ, h8]; rfl
        refine Ev.again (k - 1) ⟨[(0, _), (2, _), (3, _), (4, .own 1024 (c + 8) 0 (fitL t (i + 1)).length), (5, .v (.int .i64 ((i + 1 : Nat) : Int)))], [(1024, ⟨1, 21, c + 8, 0, false, rns (fitL t (i + 1))⟩), (520, ⟨8, 53, 0, 0, true, [[.v (.int .i32 97), .v (.int .i32 98), .v (.int .i32 99), .v (.int .i32 120), .v (.int .i32 121), .v (.int .i32 233), .v (.int .i32 8364), .v (.int .i32 128512)]]⟩)], c + 8 + 8⟩ (by omega) ⟨rfl, rfl, rfl, Ev.slot_eq rfl ?_, Ev.slot_int rfl (by rw [Ev.wrap64]; omega), trivial⟩ ⟨Ev.slot_eq rfl ?_, rfl, trivial⟩ (Nat.le_refl _) ⟨i + 1, c + 8, c + 8 + 8, rfl, by omega⟩
        · rw [he]; simp
        · rw [he]; simp [rns]
      · refine Ev.Side.of ?_
        have hm : 2000000003 ≤ maxLen := by decide
        simp [rns, hlen]
        omega
      · exact Ev.Side.of (by decide)
      · exact Ev.Side.of (by decide)
      · refine Ev.Side.of ?_; omega
      · rename_i hx
        have ei : i = t.size := by omega
        subst ei
        exact ⟨rfl, trivial⟩
      · rw [List.drop_zero, List.take_of_length_le (by simp [rns])]
      · refine Ev.Side.of ?_; simp [rns]
    · repeat' (first | (simp only [hr0]) | ((with_reducible refine Ev.sided ?_ ?_); (conv => whnf)) | ((with_reducible refine Ev.w_put ?_); (conv => whnf)) | ((with_reducible refine Ev.w_step ?_); (conv => whnf)) | ((with_reducible refine Ev.w_opt ?_); (conv => whnf)) | ((with_reducible refine Ev.chk_k ?_ ?_); rotate_left; (focus first | rfl | (simp only [Ev.nbeq, Bool.and_true, Bool.true_and, Bool.not_false]; done)); conv => whnf) | with_reducible refine Ev.c_dec (fun _ => ?_) (fun _ => ?_) | with_reducible refine Ev.c_not ?_ | with_reducible refine Ev.c_t ?_ | with_reducible refine Ev.c_f ?_ | with_reducible refine Ev.c_br (fun _ => ?_) (fun _ => ?_) | ((with_reducible refine Ev.br_not ?_); conv => whnf) | with_reducible refine Ev.br_dec (fun _ => ?_) (fun _ => ?_) | with_reducible refine Ev.br (fun _ => ?_) (fun _ => ?_) | with_reducible refine Ev.eo_ret ?_ | with_reducible refine Ev.eo_norm ?_ | with_reducible refine Ev.t_norm ?_ | with_reducible refine Ev.k_seq ?_ | ((with_reducible refine Ev.k_reg (hs := []) (tabOK' _ _) (fun Q hQ => ?_)); (simp only [Ev.runE_cons, Ev.runE_nil]); conv => whnf) | (with_reducible refine hQ _ ?_; clear hQ Q) | with_reducible refine Ev.k_cond rfl ?_ | with_reducible refine Ev.k_skip ?_ | with_reducible refine Ev.k_block ?_ | with_reducible refine Ev.k_exit ?_ | with_reducible refine Ev.k_ret ?_ | with_reducible refine Ev.t_ret ?_ | with_reducible refine Ev.t_exit ?_ | with_reducible refine Ev.b_norm ?_ | with_reducible refine Ev.b_ret ?_ | with_reducible refine Ev.b_here ?_ | with_reducible refine Ev.b_off rfl ?_ | ((with_reducible refine Ev.e_ret (fun F hF => ?_)); conv => whnf) | ((with_reducible refine Ev.e_norm (fun F hF => ?_)); conv => whnf) | (with_reducible refine hF _ ?_; clear hF F) | ((refine Ev.call_det (of_text (fitL t i) (by rw [fitL_len]; omega) (fun n hn => by have := fitL_mem hn; omega)) ?_ rfl ?_; rotate_left); conv => whnf) | (refine Ev.Side.of ?_; exact Nat.le_of_ble_eq_true rfl))
      · have he : fitL t (i + 1) = fitL t i ++ [233] := by rw [fitL_succ, h8]; rfl
        refine Ev.again (k - 1) ⟨[(0, _), (2, _), (3, _), (4, .own 1024 (c + 8) 0 (fitL t (i + 1)).length), (5, .v (.int .i64 ((i + 1 : Nat) : Int)))], [(1024, ⟨1, 21, c + 8, 0, false, rns (fitL t (i + 1))⟩), (520, ⟨8, 53, 0, 0, true, [[.v (.int .i32 97), .v (.int .i32 98), .v (.int .i32 99), .v (.int .i32 120), .v (.int .i32 121), .v (.int .i32 233), .v (.int .i32 8364), .v (.int .i32 128512)]]⟩)], c + 8 + 8⟩ (by omega) ⟨rfl, rfl, rfl, Ev.slot_eq rfl ?_, Ev.slot_int rfl (by rw [Ev.wrap64]; omega), trivial⟩ ⟨Ev.slot_eq rfl ?_, rfl, trivial⟩ (Nat.le_refl _) ⟨i + 1, c + 8, c + 8 + 8, rfl, by omega⟩
        · rw [he]; simp
        · rw [he]; simp [rns]
      · refine Ev.Side.of ?_
        have hm : 2000000003 ≤ maxLen := by decide
        simp [rns, hlen]
        omega
      · exact Ev.Side.of (by decide)
      · exact Ev.Side.of (by decide)
      · refine Ev.Side.of ?_; omega
      · rename_i hx
        have ei : i = t.size := by omega
        subst ei
        exact ⟨rfl, trivial⟩
      · rw [List.drop_zero, List.take_of_length_le (by simp [rns])]
      · refine Ev.Side.of ?_; simp [rns]
    · repeat' (first | (simp only [hr0]) | ((with_reducible refine Ev.sided ?_ ?_); (conv => whnf)) | ((with_reducible refine Ev.w_put ?_); (conv => whnf)) | ((with_reducible refine Ev.w_step ?_); (conv => whnf)) | ((with_reducible refine Ev.w_opt ?_); (conv => whnf)) | ((with_reducible refine Ev.chk_k ?_ ?_); rotate_left; (focus first | rfl | (simp only [Ev.nbeq, Bool.and_true, Bool.true_and, Bool.not_false]; done)); conv => whnf) | with_reducible refine Ev.c_dec (fun _ => ?_) (fun _ => ?_) | with_reducible refine Ev.c_not ?_ | with_reducible refine Ev.c_t ?_ | with_reducible refine Ev.c_f ?_ | with_reducible refine Ev.c_br (fun _ => ?_) (fun _ => ?_) | ((with_reducible refine Ev.br_not ?_); conv => whnf) | with_reducible refine Ev.br_dec (fun _ => ?_) (fun _ => ?_) | with_reducible refine Ev.br (fun _ => ?_) (fun _ => ?_) | with_reducible refine Ev.eo_ret ?_ | with_reducible refine Ev.eo_norm ?_ | with_reducible refine Ev.t_norm ?_ | with_reducible refine Ev.k_seq ?_ | ((with_reducible refine Ev.k_reg (hs := []) (tabOK' _ _) (fun Q hQ => ?_)); (simp only [Ev.runE_cons, Ev.runE_nil]); conv => whnf) | (with_reducible refine hQ _ ?_; clear hQ Q) | with_reducible refine Ev.k_cond rfl ?_ | with_reducible refine Ev.k_skip ?_ | with_reducible refine Ev.k_block ?_ | with_reducible refine Ev.k_exit ?_ | with_reducible refine Ev.k_ret ?_ | with_reducible refine Ev.t_ret ?_ | with_reducible refine Ev.t_exit ?_ | with_reducible refine Ev.b_norm ?_ | with_reducible refine Ev.b_ret ?_ | with_reducible refine Ev.b_here ?_ | with_reducible refine Ev.b_off rfl ?_ | ((with_reducible refine Ev.e_ret (fun F hF => ?_)); conv => whnf) | ((with_reducible refine Ev.e_norm (fun F hF => ?_)); conv => whnf) | (with_reducible refine hF _ ?_; clear hF F) | ((refine Ev.call_det (of_text (fitL t i) (by rw [fitL_len]; omega) (fun n hn => by have := fitL_mem hn; omega)) ?_ rfl ?_; rotate_left); conv => whnf) | (refine Ev.Side.of ?_; exact Nat.le_of_ble_eq_true rfl))
      · have he : fitL t (i + 1) = fitL t i ++ [8364] := by rw [fitL_succ, h8]; rfl
        refine Ev.again (k - 1) ⟨[(0, _), (2, _), (3, _), (4, .own 1024 (c + 8) 0 (fitL t (i + 1)).length), (5, .v (.int .i64 ((i + 1 : Nat) : Int)))], [(1024, ⟨1, 21, c + 8, 0, false, rns (fitL t (i + 1))⟩), (520, ⟨8, 53, 0, 0, true, [[.v (.int .i32 97), .v (.int .i32 98), .v (.int .i32 99), .v (.int .i32 120), .v (.int .i32 121), .v (.int .i32 233), .v (.int .i32 8364), .v (.int .i32 128512)]]⟩)], c + 8 + 8⟩ (by omega) ⟨rfl, rfl, rfl, Ev.slot_eq rfl ?_, Ev.slot_int rfl (by rw [Ev.wrap64]; omega), trivial⟩ ⟨Ev.slot_eq rfl ?_, rfl, trivial⟩ (Nat.le_refl _) ⟨i + 1, c + 8, c + 8 + 8, rfl, by omega⟩
        · rw [he]; simp
        · rw [he]; simp [rns]
      · refine Ev.Side.of ?_
        have hm : 2000000003 ≤ maxLen := by decide
        simp [rns, hlen]
        omega
      · exact Ev.Side.of (by decide)
      · exact Ev.Side.of (by decide)
      · refine Ev.Side.of ?_; omega
      · rename_i hx
        have ei : i = t.size := by omega
        subst ei
        exact ⟨rfl, trivial⟩
      · rw [List.drop_zero, List.take_of_length_le (by simp [rns])]
      · refine Ev.Side.of ?_; simp [rns]
    · repeat' (first | (simp only [hr0]) | ((with_reducible refine Ev.sided ?_ ?_); (conv => whnf)) | ((with_reducible refine Ev.w_put ?_); (conv => whnf)) | ((with_reducible refine Ev.w_step ?_); (conv => whnf)) | ((with_reducible refine Ev.w_opt ?_); (conv => whnf)) | ((with_reducible refine Ev.chk_k ?_ ?_); rotate_left; (focus first | rfl | (simp only [Ev.nbeq, Bool.and_true, Bool.true_and, Bool.not_false]; done)); conv => whnf) | with_reducible refine Ev.c_dec (fun _ => ?_) (fun _ => ?_) | with_reducible refine Ev.c_not ?_ | with_reducible refine Ev.c_t ?_ | with_reducible refine Ev.c_f ?_ | with_reducible refine Ev.c_br (fun _ => ?_) (fun _ => ?_) | ((with_reducible refine Ev.br_not ?_); conv => whnf) | with_reducible refine Ev.br_dec (fun _ => ?_) (fun _ => ?_) | with_reducible refine Ev.br (fun _ => ?_) (fun _ => ?_) | with_reducible refine Ev.eo_ret ?_ | with_reducible refine Ev.eo_norm ?_ | with_reducible refine Ev.t_norm ?_ | with_reducible refine Ev.k_seq ?_ | ((with_reducible refine Ev.k_reg (hs := []) (tabOK' _ _) (fun Q hQ => ?_)); (simp only [Ev.runE_cons, Ev.runE_nil]); conv => whnf) | (with_reducible refine hQ _ ?_; clear hQ Q) | with_reducible refine Ev.k_cond rfl ?_ | with_reducible refine Ev.k_skip ?_ | with_reducible refine Ev.k_block ?_ | with_reducible refine Ev.k_exit ?_ | with_reducible refine Ev.k_ret ?_ | with_reducible refine Ev.t_ret ?_ | with_reducible refine Ev.t_exit ?_ | with_reducible refine Ev.b_norm ?_ | with_reducible refine Ev.b_ret ?_ | with_reducible refine Ev.b_here ?_ | with_reducible refine Ev.b_off rfl ?_ | ((with_reducible refine Ev.e_ret (fun F hF => ?_)); conv => whnf) | ((with_reducible refine Ev.e_norm (fun F hF => ?_)); conv => whnf) | (with_reducible refine hF _ ?_; clear hF F) | ((refine Ev.call_det (of_text (fitL t i) (by rw [fitL_len]; omega) (fun n hn => by have := fitL_mem hn; omega)) ?_ rfl ?_; rotate_left); conv => whnf) | (refine Ev.Side.of ?_; exact Nat.le_of_ble_eq_true rfl))
      · have he : fitL t (i + 1) = fitL t i ++ [128512] := by rw [fitL_succ, h8]; rfl
        refine Ev.again (k - 1) ⟨[(0, _), (2, _), (3, _), (4, .own 1024 (c + 8) 0 (fitL t (i + 1)).length), (5, .v (.int .i64 ((i + 1 : Nat) : Int)))], [(1024, ⟨1, 21, c + 8, 0, false, rns (fitL t (i + 1))⟩), (520, ⟨8, 53, 0, 0, true, [[.v (.int .i32 97), .v (.int .i32 98), .v (.int .i32 99), .v (.int .i32 120), .v (.int .i32 121), .v (.int .i32 233), .v (.int .i32 8364), .v (.int .i32 128512)]]⟩)], c + 8 + 8⟩ (by omega) ⟨rfl, rfl, rfl, Ev.slot_eq rfl ?_, Ev.slot_int rfl (by rw [Ev.wrap64]; omega), trivial⟩ ⟨Ev.slot_eq rfl ?_, rfl, trivial⟩ (Nat.le_refl _) ⟨i + 1, c + 8, c + 8 + 8, rfl, by omega⟩
        · rw [he]; simp
        · rw [he]; simp [rns]
      · refine Ev.Side.of ?_
        have hm : 2000000003 ≤ maxLen := by decide
        simp [rns, hlen]
        omega
      · exact Ev.Side.of (by decide)
      · exact Ev.Side.of (by decide)
      · refine Ev.Side.of ?_; omega
      · rename_i hx
        have ei : i = t.size := by omega
        subst ei
        exact ⟨rfl, trivial⟩
      · rw [List.drop_zero, List.take_of_length_le (by simp [rns])]
      · refine Ev.Side.of ?_; simp [rns]
  all_goals (refine Ev.Side.of ?_; exact Nat.le_refl _)
end Go.Proofs.YtdgpilapblipbaaDoor.Abs
