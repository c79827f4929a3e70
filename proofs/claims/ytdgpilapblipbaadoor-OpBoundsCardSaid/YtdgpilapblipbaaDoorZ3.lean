/- A part of the proof: a calculus over values, and contracts of functions. No condition. -/
import Derived.Test.YtdgpilapblipbaaDoorZ2
/- Texts that are made of any string. -/
namespace Go.Proofs.YtdgpilapblipbaaDoor.Abs
open Go
set_option maxRecDepth 100000
set_option linter.unusedSimpArgs false
set_option linter.unusedVariables false
attribute [local irreducible] Ev.FinL Ev.brC Ev.Side Ev.Wp Ev.Again Ev.To Ev.Fin
open Go.Lib Go.RowKit
def eight (r : Int) : Int := ([97, 98, 99, 120, 121, 233, 8364, 128512] : List Int).getD r.toNat 0
def fitL (t : ByteArray) (k : Nat) : List Int := (List.range k).map fun i => eight (Ev.byt t i % 8)
theorem fitL_succ (t : ByteArray) (k : Nat) : fitL t (k + 1) = fitL t k ++ [eight (Ev.byt t k % 8)] := by simp [fitL, List.range_succ]
theorem fitL_len (t : ByteArray) (k : Nat) : (fitL t k).length = k := by simp [fitL]
theorem fitL_mem {t : ByteArray} {k : Nat} {n : Int} (h : n ∈ fitL t k) : n = 97 ∨ n = 98 ∨ n = 99 ∨ n = 120 ∨ n = 121 ∨ n = 233 ∨ n = 8364 ∨ n = 128512 := by
  simp only [fitL, List.mem_map] at h
  obtain ⟨i, _, rfl⟩ := h
  have : Ev.byt t i % 8 = 0 ∨ Ev.byt t i % 8 = 1 ∨ Ev.byt t i % 8 = 2 ∨ Ev.byt t i % 8 = 3 ∨ Ev.byt t i % 8 = 4 ∨ Ev.byt t i % 8 = 5 ∨ Ev.byt t i % 8 = 6 ∨ Ev.byt t i % 8 = 7 := by omega
  rcases this with h | h | h | h | h | h | h | h <;> rw [h] <;> simp [eight]
def fitS (t : ByteArray) : ByteArray := strI ((fitL t t.size).flatMap encI)
def cc18 : CC := (.seq (.reg 0 [⟨0, some 2, (.assign (.const (Value.string { data := #[] }))), none⟩]) (.seq (.reg 1 [⟨0, some 6, (.build 53 #[(0, .const (Value.int .i32 97)), (1, .const (Value.int .i32 98)), (2, .const (Value.int .i32 99)), (3, .const (Value.int .i32 120)), (4, .const (Value.int .i32 121)), (5, .const (Value.int .i32 233)), (6, .const (Value.int .i32 8364)), (7, .const (Value.int .i32 128512))]), none⟩, ⟨1, some 3, (.alloc 53), none⟩, ⟨2, none, (.store 53 (.tmp 3) (.tmp 6)), none⟩]) (.seq (.reg 2 [⟨0, some 7, (.buildSlice 54 0 #[]), none⟩, ⟨1, some 4, (.assign (.tmp 7)), none⟩]) (.seq (.seq (.reg 3 [⟨0, some 5, (.assign (.const (Value.int .i64 0))), none⟩]) (.block 0 (.loop (.seq (.seq (.reg 4 [⟨0, some 8, (.move (.tmp 5)), none⟩, ⟨1, some 9, (.move (.tmp 0)), none⟩, ⟨2, some 10, (.call { callee := .builtin .len, args := #[.tmp 9], argTypes := #[9] }), none⟩, ⟨3, some 11, (.binOp .lss 3 (.tmp 8) (.tmp 10) 3), none⟩]) (.cond (.tmp 11) .skip (.exit 0))) (.seq (.block 1 (.reg 6 [⟨0, some 14, (.move (.tmp 4)), none⟩, ⟨1, some 15, (.move (.tmp 0)), none⟩, ⟨2, some 16, (.move (.tmp 5)), none⟩, ⟨3, some 17, (.index 9 (.tmp 15) (.tmp 16)), none⟩, ⟨4, some 18, (.binOp .rem 5 (.tmp 17) (.const (Value.int .u8 8)) 5), none⟩, ⟨5, some 19, (.indexAddr 53 (.tmp 3) (.tmp 18)), none⟩, ⟨6, some 20, (.load 21 (.tmp 19)), none⟩, ⟨7, some 21, (.buildSlice 54 1 #[(0, .tmp 20)]), none⟩, ⟨8, some 22, (.call { callee := .builtin .append, args := #[.tmp 14, .tmp 21], argTypes := #[54, 54] }), none⟩, ⟨9, some 4, (.assign (.tmp 22)), none⟩])) (.reg 5 [⟨0, some 12, (.move (.tmp 5)), none⟩, ⟨1, some 13, (.binOp .add 3 (.tmp 12) (.const (Value.int .i64 1)) 3), none⟩, ⟨2, some 5, (.assign (.tmp 13)), none⟩])))))) (.seq (.reg 7 [⟨0, some 23, (.move (.tmp 4)), none⟩, ⟨1, some 24, (.call { callee := .value (.func 36), args := #[.tmp 23], argTypes := #[54] }), none⟩, ⟨2, some 2, (.assign (.tmp 24)), none⟩]) .ret)))))
theorem comp18 : ∀ c, Tryd.f18.body = some c → comp c = cc18 := by
  intro c h
  have : c = Tryd.f18.body.get rfl := by rw [← Option.some_inj, ← h]; rfl
  rw [this]; rfl
theorem fit_call (t : ByteArray) (ht : t.size ≤ 1000000) : CallW env 18 [.v (.string t)] (fun r hs => r = .v (.string (fitS t)) ∧ hs = []) := by
  refine Ev.func tabOK [0, 2, 3, 4, 5, 11] 0 Tryd.func18 rfl rfl (by simp [Tryd.ntmps18]) (by rfl) (comp18 _ rfl) (rs := [.tmp 2]) rfl ?_; rw [cc18]; show Ev.Wp _ _ _ _ ⟨[(0, _)], [], 0⟩
  repeat' (first | ((with_reducible refine Ev.sided ?_ ?_); (conv => whnf)) | ((with_reducible refine Ev.w_put ?_); (conv => whnf)) | ((with_reducible refine Ev.w_step ?_); (conv => whnf)) | ((with_reducible refine Ev.w_opt ?_); (conv => whnf)) | ((with_reducible refine Ev.chk_k ?_ ?_); rotate_left; (focus first | rfl | (simp only [Ev.nbeq, Bool.and_true, Bool.true_and, Bool.not_false]; done) | ((repeat' (first | exact Ev.nbeq _ | rfl | refine Bool.and_eq_true_iff.2 ⟨?_, ?_⟩)); done)); conv => whnf) | with_reducible refine Ev.c_dec (fun _ => ?_) (fun _ => ?_) | with_reducible refine Ev.c_not ?_ | with_reducible refine Ev.c_t ?_ | with_reducible refine Ev.c_f ?_ | with_reducible refine Ev.c_br (fun _ => ?_) (fun _ => ?_) | ((with_reducible refine Ev.br_not ?_); conv => whnf) | with_reducible refine Ev.br_dec (fun _ => ?_) (fun _ => ?_) | with_reducible refine Ev.br (fun _ => ?_) (fun _ => ?_) | with_reducible refine Ev.eo_ret ?_ | with_reducible refine Ev.eo_norm ?_ | with_reducible refine Ev.t_norm ?_ | with_reducible refine Ev.k_seq ?_ | ((with_reducible refine Ev.k_reg (hs := []) (tabOK' _ _) (fun Q hQ => ?_)); (simp only [Ev.runE_cons, Ev.runE_nil]); conv => whnf) | (with_reducible refine hQ _ ?_; clear hQ Q) | with_reducible refine Ev.k_cond rfl ?_ | with_reducible refine Ev.k_skip ?_ | with_reducible refine Ev.k_block ?_ | with_reducible refine Ev.k_exit ?_ | with_reducible refine Ev.k_ret ?_ | with_reducible refine Ev.t_ret ?_ | with_reducible refine Ev.t_exit ?_ | with_reducible refine Ev.b_norm ?_ | with_reducible refine Ev.b_ret ?_ | with_reducible refine Ev.b_here ?_ | with_reducible refine Ev.b_off rfl ?_ | ((with_reducible refine Ev.e_ret (fun F hF => ?_)); conv => whnf) | ((with_reducible refine Ev.e_norm (fun F hF => ?_)); conv => whnf) | (with_reducible refine hF _ ?_; clear hF F) | (refine Ev.Side.of ?_; exact Nat.le_of_ble_eq_true rfl))
  · refine Ev.loop (fun k s => ∃ (i v c : Nat), s = ⟨[(0, .v (.string t)), (2, .v (.string ⟨#[]⟩)), (3, .ptr 520 0 0 0), (4, .own 1024 v 0 (fitL t i).length), (5, .v (.int .i64 i))], [(1024, ⟨1, 21, v, 0, false, rns (fitL t i)⟩), (520, ⟨8, 53, 0, 0, true, [[.v (.int .i32 97), .v (.int .i32 98), .v (.int .i32 99), .v (.int .i32 120), .v (.int .i32 121), .v (.int .i32 233), .v (.int .i32 8364), .v (.int .i32 128512)]]⟩)], c⟩ ∧ k + i = t.size) ?_ ?_
    · exact Ev.to ⟨[(0, _), (2, _), (3, .ptr 520 0 0 0), (4, .own 1024 8 0 0), (5, .v (.int .i64 ((0 : Nat) : Int)))], [(1024, ⟨1, 21, 8, 0, false, rns []⟩), (520, ⟨8, 53, 0, 0, true, [[.v (.int .i32 97), .v (.int .i32 98), .v (.int .i32 99), .v (.int .i32 120), .v (.int .i32 121), .v (.int .i32 233), .v (.int .i32 8364), .v (.int .i32 128512)]]⟩)], 16⟩ ⟨rfl, rfl, rfl, rfl, rfl, trivial⟩ ⟨rfl, rfl, trivial⟩ (Nat.le_refl _) ⟨t.size, 0, 8, 16, rfl, by omega⟩
    rintro k s1 ⟨i, v, c, rfl, hk⟩
    have hb := Ev.byt_lt t i
    have hr0 : (Ev.byt t (↑i : Int).toNat).tmod 8 = Ev.byt t i % 8 := by rw [Int.toNat_natCast, Int.tmod_eq_emod_of_nonneg hb.1]
    have hlen := fitL_len t i
    have this : Ev.byt t i % 8 = 0 ∨ Ev.byt t i % 8 = 1 ∨ Ev.byt t i % 8 = 2 ∨ Ev.byt t i % 8 = 3 ∨ Ev.byt t i % 8 = 4 ∨ Ev.byt t i % 8 = 5 ∨ Ev.byt t i % 8 = 6 ∨ Ev.byt t i % 8 = 7 := by omega
    rcases this with h8 | h8 | h8 | h8 | h8 | h8 | h8 | h8
    all_goals rw [h8] at hr0
    · repeat' (first | (simp only [hr0]) | ((with_reducible refine Ev.sided ?_ ?_); (conv => whnf)) | ((with_reducible refine Ev.w_put ?_); (conv => whnf)) | ((with_reducible refine Ev.w_step ?_); (conv => whnf)) | ((with_reducible refine Ev.w_opt ?_); (conv => whnf)) | ((with_reducible refine Ev.chk_k ?_ ?_); rotate_left; (focus first | rfl | (simp only [Ev.nbeq, Bool.and_true, Bool.true_and, Bool.not_false]; done) | ((repeat' (first | exact Ev.nbeq _ | rfl | refine Bool.and_eq_true_iff.2 ⟨?_, ?_⟩)); done)); conv => whnf) | with_reducible refine Ev.c_dec (fun _ => ?_) (fun _ => ?_) | with_reducible refine Ev.c_not ?_ | with_reducible refine Ev.c_t ?_ | with_reducible refine Ev.c_f ?_ | with_reducible refine Ev.c_br (fun _ => ?_) (fun _ => ?_) | ((with_reducible refine Ev.br_not ?_); conv => whnf) | with_reducible refine Ev.br_dec (fun _ => ?_) (fun _ => ?_) | with_reducible refine Ev.br (fun _ => ?_) (fun _ => ?_) | with_reducible refine Ev.eo_ret ?_ | with_reducible refine Ev.eo_norm ?_ | with_reducible refine Ev.t_norm ?_ | with_reducible refine Ev.k_seq ?_ | ((with_reducible refine Ev.k_reg (hs := []) (tabOK' _ _) (fun Q hQ => ?_)); (simp only [Ev.runE_cons, Ev.runE_nil]); conv => whnf) | (with_reducible refine hQ _ ?_; clear hQ Q) | with_reducible refine Ev.k_cond rfl ?_ | with_reducible refine Ev.k_skip ?_ | with_reducible refine Ev.k_block ?_ | with_reducible refine Ev.k_exit ?_ | with_reducible refine Ev.k_ret ?_ | with_reducible refine Ev.t_ret ?_ | with_reducible refine Ev.t_exit ?_ | with_reducible refine Ev.b_norm ?_ | with_reducible refine Ev.b_ret ?_ | with_reducible refine Ev.b_here ?_ | with_reducible refine Ev.b_off rfl ?_ | ((with_reducible refine Ev.e_ret (fun F hF => ?_)); conv => whnf) | ((with_reducible refine Ev.e_norm (fun F hF => ?_)); conv => whnf) | (with_reducible refine hF _ ?_; clear hF F) | ((refine Ev.call_det (of_text (fitL t i) (by rw [fitL_len]; omega) (fun n hn => by have := fitL_mem hn; omega)) ?_ rfl ?_; rotate_left); conv => whnf) | (refine Ev.Side.of ?_; exact Nat.le_of_ble_eq_true rfl))
      · have he : fitL t (i + 1) = fitL t i ++ [97] := by rw [fitL_succ, h8]; rfl
        refine Ev.again (k - 1) ⟨[(0, _), (2, _), (3, _), (4, .own 1024 (c + 8) 0 (fitL t (i + 1)).length), (5, .v (.int .i64 ((i + 1 : Nat) : Int)))], [(1024, ⟨1, 21, c + 8, 0, false, rns (fitL t (i + 1))⟩), (520, ⟨8, 53, 0, 0, true, [[.v (.int .i32 97), .v (.int .i32 98), .v (.int .i32 99), .v (.int .i32 120), .v (.int .i32 121), .v (.int .i32 233), .v (.int .i32 8364), .v (.int .i32 128512)]]⟩)], c + 8 + 8⟩ (by omega) ⟨rfl, rfl, rfl, Ev.slot_eq rfl ?_, Ev.slot_int rfl (by rw [Ev.wrap64]; omega), trivial⟩ ⟨Ev.slot_eq rfl ?_, rfl, trivial⟩ (Nat.le_refl _) ⟨i + 1, c + 8, c + 8 + 8, rfl, by omega⟩
        · rw [he]; simp
        · rw [he]; simp [rns]
      · refine Ev.Side.of ?_
        have hm : 2000000003 ≤ maxLen := by decide
        simp [rns, hlen]
        omega
      · exact Ev.Side.of (by decide)
      · exact Ev.Side.of (by decide)
      · refine Ev.Side.of ?_; omega
      · rename_i hx
        have ei : i = t.size := by omega
        subst ei
        exact ⟨rfl, trivial⟩
      · rw [List.drop_zero, List.take_of_length_le (by simp [rns])]
      · refine Ev.Side.of ?_; simp [rns]
    · repeat' (first | (simp only [hr0]) | ((with_reducible refine Ev.sided ?_ ?_); (conv => whnf)) | ((with_reducible refine Ev.w_put ?_); (conv => whnf)) | ((with_reducible refine Ev.w_step ?_); (conv => whnf)) | ((with_reducible refine Ev.w_opt ?_); (conv => whnf)) | ((with_reducible refine Ev.chk_k ?_ ?_); rotate_left; (focus first | rfl | (simp only [Ev.nbeq, Bool.and_true, Bool.true_and, Bool.not_false]; done) | ((repeat' (first | exact Ev.nbeq _ | rfl | refine Bool.and_eq_true_iff.2 ⟨?_, ?_⟩)); done)); conv => whnf) | with_reducible refine Ev.c_dec (fun _ => ?_) (fun _ => ?_) | with_reducible refine Ev.c_not ?_ | with_reducible refine Ev.c_t ?_ | with_reducible refine Ev.c_f ?_ | with_reducible refine Ev.c_br (fun _ => ?_) (fun _ => ?_) | ((with_reducible refine Ev.br_not ?_); conv => whnf) | with_reducible refine Ev.br_dec (fun _ => ?_) (fun _ => ?_) | with_reducible refine Ev.br (fun _ => ?_) (fun _ => ?_) | with_reducible refine Ev.eo_ret ?_ | with_reducible refine Ev.eo_norm ?_ | with_reducible refine Ev.t_norm ?_ | with_reducible refine Ev.k_seq ?_ | ((with_reducible refine Ev.k_reg (hs := []) (tabOK' _ _) (fun Q hQ => ?_)); (simp only [Ev.runE_cons, Ev.runE_nil]); conv => whnf) | (with_reducible refine hQ _ ?_; clear hQ Q) | with_reducible refine Ev.k_cond rfl ?_ | with_reducible refine Ev.k_skip ?_ | with_reducible refine Ev.k_block ?_ | with_reducible refine Ev.k_exit ?_ | with_reducible refine Ev.k_ret ?_ | with_reducible refine Ev.t_ret ?_ | with_reducible refine Ev.t_exit ?_ | with_reducible refine Ev.b_norm ?_ | with_reducible refine Ev.b_ret ?_ | with_reducible refine Ev.b_here ?_ | with_reducible refine Ev.b_off rfl ?_ | ((with_reducible refine Ev.e_ret (fun F hF => ?_)); conv => whnf) | ((with_reducible refine Ev.e_norm (fun F hF => ?_)); conv => whnf) | (with_reducible refine hF _ ?_; clear hF F) | ((refine Ev.call_det (of_text (fitL t i) (by rw [fitL_len]; omega) (fun n hn => by have := fitL_mem hn; omega)) ?_ rfl ?_; rotate_left); conv => whnf) | (refine Ev.Side.of ?_; exact Nat.le_of_ble_eq_true rfl))
      · have he : fitL t (i + 1) = fitL t i ++ [98] := by rw [fitL_succ, h8]; rfl
        refine Ev.again (k - 1) ⟨[(0, _), (2, _), (3, _), (4, .own 1024 (c + 8) 0 (fitL t (i + 1)).length), (5, .v (.int .i64 ((i + 1 : Nat) : Int)))], [(1024, ⟨1, 21, c + 8, 0, false, rns (fitL t (i + 1))⟩), (520, ⟨8, 53, 0, 0, true, [[.v (.int .i32 97), .v (.int .i32 98), .v (.int .i32 99), .v (.int .i32 120), .v (.int .i32 121), .v (.int .i32 233), .v (.int .i32 8364), .v (.int .i32 128512)]]⟩)], c + 8 + 8⟩ (by omega) ⟨rfl, rfl, rfl, Ev.slot_eq rfl ?_, Ev.slot_int rfl (by rw [Ev.wrap64]; omega), trivial⟩ ⟨Ev.slot_eq rfl ?_, rfl, trivial⟩ (Nat.le_refl _) ⟨i + 1, c + 8, c + 8 + 8, rfl, by omega⟩
        · rw [he]; simp
        · rw [he]; simp [rns]
      · refine Ev.Side.of ?_
        have hm : 2000000003 ≤ maxLen := by decide
        simp [rns, hlen]
        omega
      · exact Ev.Side.of (by decide)
      · exact Ev.Side.of (by decide)
      · refine Ev.Side.of ?_; omega
      · rename_i hx
        have ei : i = t.size := by omega
        subst ei
        exact ⟨rfl, trivial⟩
      · rw [List.drop_zero, List.take_of_length_le (by simp [rns])]
      · refine Ev.Side.of ?_; simp [rns]
    · repeat' (first | (simp only [hr0]) | ((with_reducible refine Ev.sided ?_ ?_); (conv => whnf)) | ((with_reducible refine Ev.w_put ?_); (conv => whnf)) | ((with_reducible refine Ev.w_step ?_); (conv => whnf)) | ((with_reducible refine Ev.w_opt ?_); (conv => whnf)) | ((with_reducible refine Ev.chk_k ?_ ?_); rotate_left; (focus first | rfl | (simp only [Ev.nbeq, Bool.and_true, Bool.true_and, Bool.not_false]; done) | ((repeat' (first | exact Ev.nbeq _ | rfl | refine Bool.and_eq_true_iff.2 ⟨?_, ?_⟩)); done)); conv => whnf) | with_reducible refine Ev.c_dec (fun _ => ?_) (fun _ => ?_) | with_reducible refine Ev.c_not ?_ | with_reducible refine Ev.c_t ?_ | with_reducible refine Ev.c_f ?_ | with_reducible refine Ev.c_br (fun _ => ?_) (fun _ => ?_) | ((with_reducible refine Ev.br_not ?_); conv => whnf) | with_reducible refine Ev.br_dec (fun _ => ?_) (fun _ => ?_) | with_reducible refine Ev.br (fun _ => ?_) (fun _ => ?_) | with_reducible refine Ev.eo_ret ?_ | with_reducible refine Ev.eo_norm ?_ | with_reducible refine Ev.t_norm ?_ | with_reducible refine Ev.k_seq ?_ | ((with_reducible refine Ev.k_reg (hs := []) (tabOK' _ _) (fun Q hQ => ?_)); (simp only [Ev.runE_cons, Ev.runE_nil]); conv => whnf) | (with_reducible refine hQ _ ?_; clear hQ Q) | with_reducible refine Ev.k_cond rfl ?_ | with_reducible refine Ev.k_skip ?_ | with_reducible refine Ev.k_block ?_ | with_reducible refine Ev.k_exit ?_ | with_reducible refine Ev.k_ret ?_ | with_reducible refine Ev.t_ret ?_ | with_reducible refine Ev.t_exit ?_ | with_reducible refine Ev.b_norm ?_ | with_reducible refine Ev.b_ret ?_ | with_reducible refine Ev.b_here ?_ | with_reducible refine Ev.b_off rfl ?_ | ((with_reducible refine Ev.e_ret (fun F hF => ?_)); conv => whnf) | ((with_reducible refine Ev.e_norm (fun F hF => ?_)); conv => whnf) | (with_reducible refine hF _ ?_; clear hF F) | ((refine Ev.call_det (of_text (fitL t i) (by rw [fitL_len]; omega) (fun n hn => by have := fitL_mem hn; omega)) ?_ rfl ?_; rotate_left); conv => whnf) | (refine Ev.Side.of ?_; exact Nat.le_of_ble_eq_true rfl))
      · have he : fitL t (i + 1) = fitL t i ++ [99] := by rw [fitL_succ, h8]; rfl
        refine Ev.again (k - 1) ⟨[(0, _), (2, _), (3, _), (4, .own 1024 (c + 8) 0 (fitL t (i + 1)).length), (5, .v (.int .i64 ((i + 1 : Nat) : Int)))], [(1024, ⟨1, 21, c + 8, 0, false, rns (fitL t (i + 1))⟩), (520, ⟨8, 53, 0, 0, true, [[.v (.int .i32 97), .v (.int .i32 98), .v (.int .i32 99), .v (.int .i32 120), .v (.int .i32 121), .v (.int .i32 233), .v (.int .i32 8364), .v (.int .i32 128512)]]⟩)], c + 8 + 8⟩ (by omega) ⟨rfl, rfl, rfl, Ev.slot_eq rfl ?_, Ev.slot_int rfl (by rw [Ev.wrap64]; omega), trivial⟩ ⟨Ev.slot_eq rfl ?_, rfl, trivial⟩ (Nat.le_refl _) ⟨i + 1, c + 8, c + 8 + 8, rfl, by omega⟩
        · rw [he]; simp
        · rw [he]; simp [rns]
      · refine Ev.Side.of ?_
        have hm : 2000000003 ≤ maxLen := by decide
        simp [rns, hlen]
        omega
      · exact Ev.Side.of (by decide)
      · exact Ev.Side.of (by decide)
      · refine Ev.Side.of ?_; omega
      · rename_i hx
        have ei : i = t.size := by omega
        subst ei
        exact ⟨rfl, trivial⟩
      · rw [List.drop_zero, List.take_of_length_le (by simp [rns])]
      · refine Ev.Side.of ?_; simp [rns]
    · repeat' (first | (simp only [hr0]) | ((with_reducible refine Ev.sided ?_ ?_); (conv => whnf)) | ((with_reducible refine Ev.w_put ?_); (conv => whnf)) | ((with_reducible refine Ev.w_step ?_); (conv => whnf)) | ((with_reducible refine Ev.w_opt ?_); (conv => whnf)) | ((with_reducible refine Ev.chk_k ?_ ?_); rotate_left; (focus first | rfl | (simp only [Ev.nbeq, Bool.and_true, Bool.true_and, Bool.not_false]; done) | ((repeat' (first | exact Ev.nbeq _ | rfl | refine Bool.and_eq_true_iff.2 ⟨?_, ?_⟩)); done)); conv => whnf) | with_reducible refine Ev.c_dec (fun _ => ?_) (fun _ => ?_) | with_reducible refine Ev.c_not ?_ | with_reducible refine Ev.c_t ?_ | with_reducible refine Ev.c_f ?_ | with_reducible refine Ev.c_br (fun _ => ?_) (fun _ => ?_) | ((with_reducible refine Ev.br_not ?_); conv => whnf) | with_reducible refine Ev.br_dec (fun _ => ?_) (fun _ => ?_) | with_reducible refine Ev.br (fun _ => ?_) (fun _ => ?_) | with_reducible refine Ev.eo_ret ?_ | with_reducible refine Ev.eo_norm ?_ | with_reducible refine Ev.t_norm ?_ | with_reducible refine Ev.k_seq ?_ | ((with_reducible refine Ev.k_reg (hs := []) (tabOK' _ _) (fun Q hQ => ?_)); (simp only [Ev.runE_cons, Ev.runE_nil]); conv => whnf) | (with_reducible refine hQ _ ?_; clear hQ Q) | with_reducible refine Ev.k_cond rfl ?_ | with_reducible refine Ev.k_skip ?_ | with_reducible refine Ev.k_block ?_ | with_reducible refine Ev.k_exit ?_ | with_reducible refine Ev.k_ret ?_ | with_reducible refine Ev.t_ret ?_ | with_reducible refine Ev.t_exit ?_ | with_reducible refine Ev.b_norm ?_ | with_reducible refine Ev.b_ret ?_ | with_reducible refine Ev.b_here ?_ | with_reducible refine Ev.b_off rfl ?_ | ((with_reducible refine Ev.e_ret (fun F hF => ?_)); conv => whnf) | ((with_reducible refine Ev.e_norm (fun F hF => ?_)); conv => whnf) | (with_reducible refine hF _ ?_; clear hF F) | ((refine Ev.call_det (of_text (fitL t i) (by rw [fitL_len]; omega) (fun n hn => by have := fitL_mem hn; omega)) ?_ rfl ?_; rotate_left); conv => whnf) | (refine Ev.Side.of ?_; exact Nat.le_of_ble_eq_true rfl))
      · have he : fitL t (i + 1) = fitL t i ++ [120] := by rw [fitL_succ, h8]; rfl
        refine Ev.again (k - 1) ⟨[(0, _), (2, _), (3, _), (4, .own 1024 (c + 8) 0 (fitL t (i + 1)).length), (5, .v (.int .i64 ((i + 1 : Nat) : Int)))], [(1024, ⟨1, 21, c + 8, 0, false, rns (fitL t (i + 1))⟩), (520, ⟨8, 53, 0, 0, true, [[.v (.int .i32 97), .v (.int .i32 98), .v (.int .i32 99), .v (.int .i32 120), .v (.int .i32 121), .v (.int .i32 233), .v (.int .i32 8364), .v (.int .i32 128512)]]⟩)], c + 8 + 8⟩ (by omega) ⟨rfl, rfl, rfl, Ev.slot_eq rfl ?_, Ev.slot_int rfl (by rw [Ev.wrap64]; omega), trivial⟩ ⟨Ev.slot_eq rfl ?_, rfl, trivial⟩ (Nat.le_refl _) ⟨i + 1, c + 8, c + 8 + 8, rfl, by omega⟩
        · rw [he]; simp
        · rw [he]; simp [rns]
      · refine Ev.Side.of ?_
        have hm : 2000000003 ≤ maxLen := by decide
        simp [rns, hlen]
        omega
      · exact Ev.Side.of (by decide)
      · exact Ev.Side.of (by decide)
      · refine Ev.Side.of ?_; omega
      · rename_i hx
        have ei : i = t.size := by omega
        subst ei
        exact ⟨rfl, trivial⟩
      · rw [List.drop_zero, List.take_of_length_le (by simp [rns])]
      · refine Ev.Side.of ?_; simp [rns]
    · repeat' (first | (simp only [hr0]) | ((with_reducible refine Ev.sided ?_ ?_); (conv => whnf)) | ((with_reducible refine Ev.w_put ?_); (conv => whnf)) | ((with_reducible refine Ev.w_step ?_); (conv => whnf)) | ((with_reducible refine Ev.w_opt ?_); (conv => whnf)) | ((with_reducible refine Ev.chk_k ?_ ?_); rotate_left; (focus first | rfl | (simp only [Ev.nbeq, Bool.and_true, Bool.true_and, Bool.not_false]; done) | ((repeat' (first | exact Ev.nbeq _ | rfl | refine Bool.and_eq_true_iff.2 ⟨?_, ?_⟩)); done)); conv => whnf) | with_reducible refine Ev.c_dec (fun _ => ?_) (fun _ => ?_) | with_reducible refine Ev.c_not ?_ | with_reducible refine Ev.c_t ?_ | with_reducible refine Ev.c_f ?_ | with_reducible refine Ev.c_br (fun _ => ?_) (fun _ => ?_) | ((with_reducible refine Ev.br_not ?_); conv => whnf) | with_reducible refine Ev.br_dec (fun _ => ?_) (fun _ => ?_) | with_reducible refine Ev.br (fun _ => ?_) (fun _ => ?_) | with_reducible refine Ev.eo_ret ?_ | with_reducible refine Ev.eo_norm ?_ | with_reducible refine Ev.t_norm ?_ | with_reducible refine Ev.k_seq ?_ | ((with_reducible refine Ev.k_reg (hs := []) (tabOK' _ _) (fun Q hQ => ?_)); (simp only [Ev.runE_cons, Ev.runE_nil]); conv => whnf) | (with_reducible refine hQ _ ?_; clear hQ Q) | with_reducible refine Ev.k_cond rfl ?_ | with_reducible refine Ev.k_skip ?_ | with_reducible refine Ev.k_block ?_ | with_reducible refine Ev.k_exit ?_ | with_reducible refine Ev.k_ret ?_ | with_reducible refine Ev.t_ret ?_ | with_reducible refine Ev.t_exit ?_ | with_reducible refine Ev.b_norm ?_ | with_reducible refine Ev.b_ret ?_ | with_reducible refine Ev.b_here ?_ | with_reducible refine Ev.b_off rfl ?_ | ((with_reducible refine Ev.e_ret (fun F hF => ?_)); conv => whnf) | ((with_reducible refine Ev.e_norm (fun F hF => ?_)); conv => whnf) | (with_reducible refine hF _ ?_; clear hF F) | ((refine Ev.call_det (of_text (fitL t i) (by rw [fitL_len]; omega) (fun n hn => by have := fitL_mem hn; omega)) ?_ rfl ?_; rotate_left); conv => whnf) | (refine Ev.Side.of ?_; exact Nat.le_of_ble_eq_true rfl))
      · have he : fitL t (i + 1) = fitL t i ++ [121] := by rw [fitL_succ, h8]; rfl
        refine Ev.again (k - 1) ⟨[(0, _), (2, _), (3, _), (4, .own 1024 (c + 8) 0 (fitL t (i + 1)).length), (5, .v (.int .i64 ((i + 1 : Nat) : Int)))], [(1024, ⟨1, 21, c + 8, 0, false, rns (fitL t (i + 1))⟩), (520, ⟨8, 53, 0, 0, true, [[.v (.int .i32 97), .v (.int .i32 98), .v (.int .i32 99), .v (.int .i32 120), .v (.int .i32 121), .v (.int .i32 233), .v (.int .i32 8364), .v (.int .i32 128512)]]⟩)], c + 8 + 8⟩ (by omega) ⟨rfl, rfl, rfl, Ev.slot_eq rfl ?_, Ev.slot_int rfl (by rw [Ev.wrap64]; omega), trivial⟩ ⟨Ev.slot_eq rfl ?_, rfl, trivial⟩ (Nat.le_refl _) ⟨i + 1, c + 8, c + 8 + 8, rfl, by omega⟩
        · rw [he]; simp
        · rw [he]; simp [rns]
      · refine Ev.Side.of ?_
        have hm : 2000000003 ≤ maxLen := by decide
        simp [rns, hlen]
        omega
      · exact Ev.Side.of (by decide)
      · exact Ev.Side.of (by decide)
      · refine Ev.Side.of ?_; omega
      · rename_i hx
        have ei : i = t.size := by omega
        subst ei
        exact ⟨rfl, trivial⟩
      · rw [List.drop_zero, List.take_of_length_le (by simp [rns])]
      · refine Ev.Side.of ?_; simp [rns]
    · repeat' (first | (simp only [hr0]) | ((with_reducible refine Ev.sided ?_ ?_); (conv => whnf)) | ((with_reducible refine Ev.w_put ?_); (conv => whnf)) | ((with_reducible refine Ev.w_step ?_); (conv => whnf)) | ((with_reducible refine Ev.w_opt ?_); (conv => whnf)) | ((with_reducible refine Ev.chk_k ?_ ?_); rotate_left; (focus first | rfl | (simp only [Ev.nbeq, Bool.and_true, Bool.true_and, Bool.not_false]; done) | ((repeat' (first | exact Ev.nbeq _ | rfl | refine Bool.and_eq_true_iff.2 ⟨?_, ?_⟩)); done)); conv => whnf) | with_reducible refine Ev.c_dec (fun _ => ?_) (fun _ => ?_) | with_reducible refine Ev.c_not ?_ | with_reducible refine Ev.c_t ?_ | with_reducible refine Ev.c_f ?_ | with_reducible refine Ev.c_br (fun _ => ?_) (fun _ => ?_) | ((with_reducible refine Ev.br_not ?_); conv => whnf) | with_reducible refine Ev.br_dec (fun _ => ?_) (fun _ => ?_) | with_reducible refine Ev.br (fun _ => ?_) (fun _ => ?_) | with_reducible refine Ev.eo_ret ?_ | with_reducible refine Ev.eo_norm ?_ | with_reducible refine Ev.t_norm ?_ | with_reducible refine Ev.k_seq ?_ | ((with_reducible refine Ev.k_reg (hs := []) (tabOK' _ _) (fun Q hQ => ?_)); (simp only [Ev.runE_cons, Ev.runE_nil]); conv => whnf) | (with_reducible refine hQ _ ?_; clear hQ Q) | with_reducible refine Ev.k_cond rfl ?_ | with_reducible refine Ev.k_skip ?_ | with_reducible refine Ev.k_block ?_ | with_reducible refine Ev.k_exit ?_ | with_reducible refine Ev.k_ret ?_ | with_reducible refine Ev.t_ret ?_ | with_reducible refine Ev.t_exit ?_ | with_reducible refine Ev.b_norm ?_ | with_reducible refine Ev.b_ret ?_ | with_reducible refine Ev.b_here ?_ | with_reducible refine Ev.b_off rfl ?_ | ((with_reducible refine Ev.e_ret (fun F hF => ?_)); conv => whnf) | ((with_reducible refine Ev.e_norm (fun F hF => ?_)); conv => whnf) | (with_reducible refine hF _ ?_; clear hF F) | ((refine Ev.call_det (of_text (fitL t i) (by rw [fitL_len]; omega) (fun n hn => by have := fitL_mem hn; omega)) ?_ rfl ?_; rotate_left); conv => whnf) | (refine Ev.Side.of ?_; exact Nat.le_of_ble_eq_true rfl))
      · have he : fitL t (i + 1) = fitL t i ++ [233] := by rw [fitL_succ, h8]; rfl
        refine Ev.again (k - 1) ⟨[(0, _), (2, _), (3, _), (4, .own 1024 (c + 8) 0 (fitL t (i + 1)).length), (5, .v (.int .i64 ((i + 1 : Nat) : Int)))], [(1024, ⟨1, 21, c + 8, 0, false, rns (fitL t (i + 1))⟩), (520, ⟨8, 53, 0, 0, true, [[.v (.int .i32 97), .v (.int .i32 98), .v (.int .i32 99), .v (.int .i32 120), .v (.int .i32 121), .v (.int .i32 233), .v (.int .i32 8364), .v (.int .i32 128512)]]⟩)], c + 8 + 8⟩ (by omega) ⟨rfl, rfl, rfl, Ev.slot_eq rfl ?_, Ev.slot_int rfl (by rw [Ev.wrap64]; omega), trivial⟩ ⟨Ev.slot_eq rfl ?_, rfl, trivial⟩ (Nat.le_refl _) ⟨i + 1, c + 8, c + 8 + 8, rfl, by omega⟩
        · rw [he]; simp
        · rw [he]; simp [rns]
      · refine Ev.Side.of ?_
        have hm : 2000000003 ≤ maxLen := by decide
        simp [rns, hlen]
        omega
      · exact Ev.Side.of (by decide)
      · exact Ev.Side.of (by decide)
      · refine Ev.Side.of ?_; omega
      · rename_i hx
        have ei : i = t.size := by omega
        subst ei
        exact ⟨rfl, trivial⟩
      · rw [List.drop_zero, List.take_of_length_le (by simp [rns])]
      · refine Ev.Side.of ?_; simp [rns]
    · repeat' (first | (simp only [hr0]) | ((with_reducible refine Ev.sided ?_ ?_); (conv => whnf)) | ((with_reducible refine Ev.w_put ?_); (conv => whnf)) | ((with_reducible refine Ev.w_step ?_); (conv => whnf)) | ((with_reducible refine Ev.w_opt ?_); (conv => whnf)) | ((with_reducible refine Ev.chk_k ?_ ?_); rotate_left; (focus first | rfl | (simp only [Ev.nbeq, Bool.and_true, Bool.true_and, Bool.not_false]; done) | ((repeat' (first | exact Ev.nbeq _ | rfl | refine Bool.and_eq_true_iff.2 ⟨?_, ?_⟩)); done)); conv => whnf) | with_reducible refine Ev.c_dec (fun _ => ?_) (fun _ => ?_) | with_reducible refine Ev.c_not ?_ | with_reducible refine Ev.c_t ?_ | with_reducible refine Ev.c_f ?_ | with_reducible refine Ev.c_br (fun _ => ?_) (fun _ => ?_) | ((with_reducible refine Ev.br_not ?_); conv => whnf) | with_reducible refine Ev.br_dec (fun _ => ?_) (fun _ => ?_) | with_reducible refine Ev.br (fun _ => ?_) (fun _ => ?_) | with_reducible refine Ev.eo_ret ?_ | with_reducible refine Ev.eo_norm ?_ | with_reducible refine Ev.t_norm ?_ | with_reducible refine Ev.k_seq ?_ | ((with_reducible refine Ev.k_reg (hs := []) (tabOK' _ _) (fun Q hQ => ?_)); (simp only [Ev.runE_cons, Ev.runE_nil]); conv => whnf) | (with_reducible refine hQ _ ?_; clear hQ Q) | with_reducible refine Ev.k_cond rfl ?_ | with_reducible refine Ev.k_skip ?_ | with_reducible refine Ev.k_block ?_ | with_reducible refine Ev.k_exit ?_ | with_reducible refine Ev.k_ret ?_ | with_reducible refine Ev.t_ret ?_ | with_reducible refine Ev.t_exit ?_ | with_reducible refine Ev.b_norm ?_ | with_reducible refine Ev.b_ret ?_ | with_reducible refine Ev.b_here ?_ | with_reducible refine Ev.b_off rfl ?_ | ((with_reducible refine Ev.e_ret (fun F hF => ?_)); conv => whnf) | ((with_reducible refine Ev.e_norm (fun F hF => ?_)); conv => whnf) | (with_reducible refine hF _ ?_; clear hF F) | ((refine Ev.call_det (of_text (fitL t i) (by rw [fitL_len]; omega) (fun n hn => by have := fitL_mem hn; omega)) ?_ rfl ?_; rotate_left); conv => whnf) | (refine Ev.Side.of ?_; exact Nat.le_of_ble_eq_true rfl))
      · have he : fitL t (i + 1) = fitL t i ++ [8364] := by rw [fitL_succ, h8]; rfl
        refine Ev.again (k - 1) ⟨[(0, _), (2, _), (3, _), (4, .own 1024 (c + 8) 0 (fitL t (i + 1)).length), (5, .v (.int .i64 ((i + 1 : Nat) : Int)))], [(1024, ⟨1, 21, c + 8, 0, false, rns (fitL t (i + 1))⟩), (520, ⟨8, 53, 0, 0, true, [[.v (.int .i32 97), .v (.int .i32 98), .v (.int .i32 99), .v (.int .i32 120), .v (.int .i32 121), .v (.int .i32 233), .v (.int .i32 8364), .v (.int .i32 128512)]]⟩)], c + 8 + 8⟩ (by omega) ⟨rfl, rfl, rfl, Ev.slot_eq rfl ?_, Ev.slot_int rfl (by rw [Ev.wrap64]; omega), trivial⟩ ⟨Ev.slot_eq rfl ?_, rfl, trivial⟩ (Nat.le_refl _) ⟨i + 1, c + 8, c + 8 + 8, rfl, by omega⟩
        · rw [he]; simp
        · rw [he]; simp [rns]
      · refine Ev.Side.of ?_
        have hm : 2000000003 ≤ maxLen := by decide
        simp [rns, hlen]
        omega
      · exact Ev.Side.of (by decide)
      · exact Ev.Side.of (by decide)
      · refine Ev.Side.of ?_; omega
      · rename_i hx
        have ei : i = t.size := by omega
        subst ei
        exact ⟨rfl, trivial⟩
      · rw [List.drop_zero, List.take_of_length_le (by simp [rns])]
      · refine Ev.Side.of ?_; simp [rns]
    · repeat' (first | (simp only [hr0]) | ((with_reducible refine Ev.sided ?_ ?_); (conv => whnf)) | ((with_reducible refine Ev.w_put ?_); (conv => whnf)) | ((with_reducible refine Ev.w_step ?_); (conv => whnf)) | ((with_reducible refine Ev.w_opt ?_); (conv => whnf)) | ((with_reducible refine Ev.chk_k ?_ ?_); rotate_left; (focus first | rfl | (simp only [Ev.nbeq, Bool.and_true, Bool.true_and, Bool.not_false]; done) | ((repeat' (first | exact Ev.nbeq _ | rfl | refine Bool.and_eq_true_iff.2 ⟨?_, ?_⟩)); done)); conv => whnf) | with_reducible refine Ev.c_dec (fun _ => ?_) (fun _ => ?_) | with_reducible refine Ev.c_not ?_ | with_reducible refine Ev.c_t ?_ | with_reducible refine Ev.c_f ?_ | with_reducible refine Ev.c_br (fun _ => ?_) (fun _ => ?_) | ((with_reducible refine Ev.br_not ?_); conv => whnf) | with_reducible refine Ev.br_dec (fun _ => ?_) (fun _ => ?_) | with_reducible refine Ev.br (fun _ => ?_) (fun _ => ?_) | with_reducible refine Ev.eo_ret ?_ | with_reducible refine Ev.eo_norm ?_ | with_reducible refine Ev.t_norm ?_ | with_reducible refine Ev.k_seq ?_ | ((with_reducible refine Ev.k_reg (hs := []) (tabOK' _ _) (fun Q hQ => ?_)); (simp only [Ev.runE_cons, Ev.runE_nil]); conv => whnf) | (with_reducible refine hQ _ ?_; clear hQ Q) | with_reducible refine Ev.k_cond rfl ?_ | with_reducible refine Ev.k_skip ?_ | with_reducible refine Ev.k_block ?_ | with_reducible refine Ev.k_exit ?_ | with_reducible refine Ev.k_ret ?_ | with_reducible refine Ev.t_ret ?_ | with_reducible refine Ev.t_exit ?_ | with_reducible refine Ev.b_norm ?_ | with_reducible refine Ev.b_ret ?_ | with_reducible refine Ev.b_here ?_ | with_reducible refine Ev.b_off rfl ?_ | ((with_reducible refine Ev.e_ret (fun F hF => ?_)); conv => whnf) | ((with_reducible refine Ev.e_norm (fun F hF => ?_)); conv => whnf) | (with_reducible refine hF _ ?_; clear hF F) | ((refine Ev.call_det (of_text (fitL t i) (by rw [fitL_len]; omega) (fun n hn => by have := fitL_mem hn; omega)) ?_ rfl ?_; rotate_left); conv => whnf) | (refine Ev.Side.of ?_; exact Nat.le_of_ble_eq_true rfl))
      · have he : fitL t (i + 1) = fitL t i ++ [128512] := by rw [fitL_succ, h8]; rfl
        refine Ev.again (k - 1) ⟨[(0, _), (2, _), (3, _), (4, .own 1024 (c + 8) 0 (fitL t (i + 1)).length), (5, .v (.int .i64 ((i + 1 : Nat) : Int)))], [(1024, ⟨1, 21, c + 8, 0, false, rns (fitL t (i + 1))⟩), (520, ⟨8, 53, 0, 0, true, [[.v (.int .i32 97), .v (.int .i32 98), .v (.int .i32 99), .v (.int .i32 120), .v (.int .i32 121), .v (.int .i32 233), .v (.int .i32 8364), .v (.int .i32 128512)]]⟩)], c + 8 + 8⟩ (by omega) ⟨rfl, rfl, rfl, Ev.slot_eq rfl ?_, Ev.slot_int rfl (by rw [Ev.wrap64]; omega), trivial⟩ ⟨Ev.slot_eq rfl ?_, rfl, trivial⟩ (Nat.le_refl _) ⟨i + 1, c + 8, c + 8 + 8, rfl, by omega⟩
        · rw [he]; simp
        · rw [he]; simp [rns]
      · refine Ev.Side.of ?_
        have hm : 2000000003 ≤ maxLen := by decide
        simp [rns, hlen]
        omega
      · exact Ev.Side.of (by decide)
      · exact Ev.Side.of (by decide)
      · refine Ev.Side.of ?_; omega
      · rename_i hx
        have ei : i = t.size := by omega
        subst ei
        exact ⟨rfl, trivial⟩
      · rw [List.drop_zero, List.take_of_length_le (by simp [rns])]
      · refine Ev.Side.of ?_; simp [rns]
  all_goals (refine Ev.Side.of ?_; exact Nat.le_refl _)
end Go.Proofs.YtdgpilapblipbaaDoor.Abs

/- What texts that are made have in them. -/
namespace Go.Proofs.YtdgpilapblipbaaDoor.Abs
open Go Go.Lib
set_option linter.unusedSimpArgs false
def encB (l : List Int) : List UInt8 := (l.flatMap encI).map fun n => UInt8.ofNat n.toNat
def Eight (l : List Int) : Prop := ∀ n ∈ l, n = 97 ∨ n = 98 ∨ n = 99 ∨ n = 120 ∨ n = 121 ∨ n = 233 ∨ n = 8364 ∨ n = 128512
theorem dec_enc {n : Int} (h : n = 97 ∨ n = 98 ∨ n = 99 ∨ n = 120 ∨ n = 121 ∨ n = 233 ∨ n = 8364 ∨ n = 128512) (rest : List UInt8) :
    ∃ w, decodeL ((encI n).map (fun n => UInt8.ofNat n.toNat) ++ rest) = (n.toNat, w) ∧ w = (encI n).length ∧ n.toNat ≠ 65533 := by
  rcases h with rfl | rfl | rfl | rfl | rfl | rfl | rfl | rfl
  · refine ⟨1, ?_, by simp [encI, sizeF], by decide⟩
    show decodeL ((97 : UInt8) :: rest) = (97, 1)
    rw [decodeL_N]; simp [decodeN]
  · refine ⟨1, ?_, by simp [encI, sizeF], by decide⟩
    show decodeL ((98 : UInt8) :: rest) = (98, 1)
    rw [decodeL_N]; simp [decodeN]
  · refine ⟨1, ?_, by simp [encI, sizeF], by decide⟩
    show decodeL ((99 : UInt8) :: rest) = (99, 1)
    rw [decodeL_N]; simp [decodeN]
  · refine ⟨1, ?_, by simp [encI, sizeF], by decide⟩
    show decodeL ((120 : UInt8) :: rest) = (120, 1)
    rw [decodeL_N]; simp [decodeN]
  · refine ⟨1, ?_, by simp [encI, sizeF], by decide⟩
    show decodeL ((121 : UInt8) :: rest) = (121, 1)
    rw [decodeL_N]; simp [decodeN]
  · refine ⟨2, ?_, by simp [encI, sizeF], by decide⟩
    show decodeL ((195 : UInt8) :: (169 : UInt8) :: rest) = (233, 2)
    rw [decodeL_N]; simp [decodeN]
  · refine ⟨3, ?_, by simp [encI, sizeF], by decide⟩
    show decodeL ((226 : UInt8) :: (130 : UInt8) :: (172 : UInt8) :: rest) = (8364, 3)
    rw [decodeL_N]; simp [decodeN]
  · refine ⟨4, ?_, by simp [encI, sizeF], by decide⟩
    show decodeL ((240 : UInt8) :: (159 : UInt8) :: (152 : UInt8) :: (128 : UInt8) :: rest) = (128512, 4)
    rw [decodeL_N]; simp [decodeN]
theorem encB_nil : encB [] = [] := rfl
theorem encB_cons (n : Int) (l : List Int) : encB (n :: l) = (encI n).map (fun n => UInt8.ofNat n.toNat) ++ encB l := by simp [encB]
theorem encB_app (a b : List Int) : encB (a ++ b) = encB a ++ encB b := by simp [encB]
theorem enc_ne {n : Int} (h : n = 97 ∨ n = 98 ∨ n = 99 ∨ n = 120 ∨ n = 121 ∨ n = 233 ∨ n = 8364 ∨ n = 128512) (rest : List UInt8) : (encI n).map (fun n => UInt8.ofNat n.toNat) ++ rest ≠ [] := by
  rcases h with rfl | rfl | rfl | rfl | rfl | rfl | rfl | rfl <;> simp [encI, sizeF]
theorem valid_enc : ∀ {l : List Int}, Eight l → ∀ rest, validD (encB l ++ rest) = validD rest
  | [], _, rest => rfl
  | n :: l, h, rest => by
    have hn := h n (by simp)
    have ih := valid_enc (l := l) (fun m hm => h m (by simp [hm])) rest
    rw [encB_cons, List.append_assoc]
    obtain ⟨w, hd, hw, hne⟩ := dec_enc hn (encB l ++ rest)
    rw [validD_step (enc_ne hn _), hd, if_neg (by simp [hne]), hw]
    rw [show (encI n).length = ((encI n).map (fun n => UInt8.ofNat n.toNat)).length by simp, List.drop_left]
    exact ih
theorem pos_enc : ∀ {l : List Int}, Eight l → ∀ rest (a : Int), ∃ b, (posD (encB l ++ rest) a).length = l.length + (posD rest b).length
  | [], _, rest, a => ⟨a, by simp [encB_nil]⟩
  | n :: l, h, rest, a => by
    have hn := h n (by simp)
    rw [encB_cons, List.append_assoc]
    obtain ⟨w, hd, hw, hne⟩ := dec_enc hn (encB l ++ rest)
    rw [posD_step (enc_ne hn _), hd, hw]
    obtain ⟨b, hb⟩ := pos_enc (l := l) (fun m hm => h m (by simp [hm])) rest (a + (encI n).length)
    refine ⟨b, ?_⟩
    rw [show (encI n).length = ((encI n).map (fun n => UInt8.ofNat n.toNat)).length by simp, List.drop_left]
    rw [List.length_cons, List.length_cons]
    simp only [List.length_map]
    rw [hb]; omega
theorem valid_all {l : List Int} (h : Eight l) : validD (encB l) = true := by
  have := valid_enc h []
  rw [List.append_nil] at this; rw [this]; rfl
theorem count_all {l : List Int} (h : Eight l) : countD (encB l) = l.length := by
  unfold countD
  rw [if_pos (valid_all h)]
  obtain ⟨b, hb⟩ := pos_enc h [] 0
  rw [List.append_nil] at hb; rw [hb, posD_nil]; simp
theorem strI_list (l : List Int) : (strI (l.flatMap encI)).data.toList = encB l := by simp [strI, encB]
theorem eight_fit (t : ByteArray) (k : Nat) : Eight (fitL t k) := fun n hn => fitL_mem hn
theorem enc_len {l : List Int} (h : Eight l) : l.length ≤ (encB l).length ∧ (encB l).length ≤ 4 * l.length := by
  induction l with
  | nil => simp [encB]
  | cons n l ih =>
    obtain ⟨i1, i2⟩ := ih (fun m hm => h m (by simp [hm]))
    have hn := h n (by simp)
    rw [encB_cons, List.length_append, List.length_map, List.length_cons]
    have : 1 ≤ (encI n).length ∧ (encI n).length ≤ 4 := by
      rcases hn with rfl | rfl | rfl | rfl | rfl | rfl | rfl | rfl <;> simp [encI, sizeF]
    omega
theorem fit_size (t : ByteArray) (ht : t.size ≤ 1000) : (fitS t).size ≤ 4000 := by
  have h := (enc_len (eight_fit t t.size)).2
  rw [fitL_len, ← strI_list, len_list] at h
  unfold fitS; omega
theorem cut_size (t : ByteArray) : (t.extract 0 (min t.size 100)).size ≤ 100 := by rw [ByteArray.size_extract]; omega
theorem fit_list (t : ByteArray) : (fitS t).data.toList = encB (fitL t t.size) := strI_list _
theorem fit_valid (t : ByteArray) : validD (fitS t).data.toList = true := by rw [fit_list]; exact valid_all (eight_fit _ _)
theorem fit_count (t : ByteArray) : countD (fitS t).data.toList = t.size := by rw [fit_list, count_all (eight_fit _ _), fitL_len]
theorem app_list (a b : ByteArray) : (a ++ b).data.toList = a.data.toList ++ b.data.toList := by simp
end Go.Proofs.YtdgpilapblipbaaDoor.Abs

/- Operations: what they take and give. -/
namespace Go.Proofs.YtdgpilapblipbaaDoor.Abs
open Go
set_option maxRecDepth 100000
set_option linter.unusedSimpArgs false
set_option linter.unusedVariables false
attribute [local irreducible] Ev.FinL Ev.brC Ev.Side Ev.Wp Ev.Again Ev.To Ev.Fin
open Go.Lib Go.RowKit
structure Sp where
  k : Int
  n : Int
  t : ByteArray
def spC (s : Sp) : List AV := [.v (.int .i64 s.k), .v (.int .i64 s.n), .v (.string s.t)]
def sps (l : List Sp) : List (List AV) := l.map spC
@[simp] theorem sps_len (l : List Sp) : (sps l).length = l.length := by simp [sps]
def sumW (f : Sp → Int) (l : List Sp) : Int := l.foldl (fun a s => IntKind.i64.wrap (a + f s)) 0
theorem sumW_succ (f : Sp → Int) (l : List Sp) {i : Nat} (h : i < l.length) : sumW f (l.take (i + 1)) = IntKind.i64.wrap (sumW f (l.take i) + f l[i]) := by
  unfold sumW; rw [List.take_succ_eq_append_getElem h, List.foldl_append]; rfl
def Small (l : List Sp) : Prop := ∀ s ∈ l, s.t.size ≤ 1000000000
theorem spC_at {l : List Sp} {i : Nat} (h : (↑i : Int).toNat < l.length) (h' : i < l.length) : l[(↑i : Int).toNat]'h = l[i] := by simp only [Int.toNat_natCast]
def cc27 : CC := (.seq (.reg 0 [⟨0, some 2, (.assign (.const (Value.int .i64 0))), none⟩]) (.seq (.reg 1 [⟨0, some 3, (.assign (.const (Value.int .i64 0))), none⟩]) (.seq (.seq (.reg 2 [⟨0, some 4, (.assign (.const (Value.int .i64 0))), none⟩]) (.block 0 (.loop (.seq (.seq (.reg 3 [⟨0, some 5, (.move (.tmp 4)), none⟩, ⟨1, some 6, (.move (.tmp 0)), none⟩, ⟨2, some 7, (.call { callee := .builtin .len, args := #[.tmp 6], argTypes := #[35] }), none⟩, ⟨3, some 8, (.binOp .lss 3 (.tmp 5) (.tmp 7) 3), none⟩]) (.cond (.tmp 8) .skip (.exit 0))) (.seq (.block 1 (.reg 5 [⟨0, some 11, (.move (.tmp 3)), none⟩, ⟨1, some 12, (.move (.tmp 0)), none⟩, ⟨2, some 13, (.move (.tmp 4)), none⟩, ⟨3, some 14, (.indexAddr 35 (.tmp 12) (.tmp 13)), none⟩, ⟨4, some 15, (.load 23 (.tmp 14)), none⟩, ⟨5, some 16, (.call { callee := .value (.func 15), args := #[.tmp 15], argTypes := #[23] }), none⟩, ⟨6, some 17, (.binOp .add 3 (.tmp 11) (.tmp 16) 3), none⟩, ⟨7, some 3, (.assign (.tmp 17)), none⟩])) (.reg 4 [⟨0, some 9, (.move (.tmp 4)), none⟩, ⟨1, some 10, (.binOp .add 3 (.tmp 9) (.const (Value.int .i64 1)) 3), none⟩, ⟨2, some 4, (.assign (.tmp 10)), none⟩])))))) (.seq (.reg 6 [⟨0, some 18, (.move (.tmp 3)), none⟩, ⟨1, some 2, (.assign (.tmp 18)), none⟩]) .ret))))
theorem comp27 : ∀ c, Tryd.f27.body = some c → comp c = cc27 := by
  intro c h
  have : c = Tryd.f27.body.get rfl := by rw [← Option.some_inj, ← h]; rfl
  rw [this]; rfl
def cc29 : CC := (.seq (.reg 0 [⟨0, some 2, (.assign (.const (Value.int .i64 0))), none⟩]) (.seq (.reg 1 [⟨0, some 3, (.assign (.const (Value.int .i64 0))), none⟩]) (.seq (.seq (.reg 2 [⟨0, some 4, (.assign (.const (Value.int .i64 0))), none⟩]) (.block 0 (.loop (.seq (.seq (.reg 3 [⟨0, some 5, (.move (.tmp 4)), none⟩, ⟨1, some 6, (.move (.tmp 0)), none⟩, ⟨2, some 7, (.call { callee := .builtin .len, args := #[.tmp 6], argTypes := #[35] }), none⟩, ⟨3, some 8, (.binOp .lss 3 (.tmp 5) (.tmp 7) 3), none⟩]) (.cond (.tmp 8) .skip (.exit 0))) (.seq (.block 1 (.reg 5 [⟨0, some 11, (.move (.tmp 3)), none⟩, ⟨1, some 12, (.move (.tmp 0)), none⟩, ⟨2, some 13, (.move (.tmp 4)), none⟩, ⟨3, some 14, (.indexAddr 35 (.tmp 12) (.tmp 13)), none⟩, ⟨4, some 15, (.load 23 (.tmp 14)), none⟩, ⟨5, some 16, (.call { callee := .value (.func 17), args := #[.tmp 15], argTypes := #[23] }), none⟩, ⟨6, some 17, (.binOp .add 3 (.tmp 11) (.tmp 16) 3), none⟩, ⟨7, some 3, (.assign (.tmp 17)), none⟩])) (.reg 4 [⟨0, some 9, (.move (.tmp 4)), none⟩, ⟨1, some 10, (.binOp .add 3 (.tmp 9) (.const (Value.int .i64 1)) 3), none⟩, ⟨2, some 4, (.assign (.tmp 10)), none⟩])))))) (.seq (.reg 6 [⟨0, some 18, (.move (.tmp 3)), none⟩, ⟨1, some 2, (.assign (.tmp 18)), none⟩]) .ret))))
theorem comp29 : ∀ c, Tryd.f29.body = some c → comp c = cc29 := by
  intro c h
  have : c = Tryd.f29.body.get rfl := by rw [← Option.some_inj, ← h]; rfl
  rw [this]; rfl
theorem r4in_call (l : List Sp) (hl : l.length ≤ 1000000000) : CallW env 27 [.lst 3 (sps l)] (fun r hs => r = .v (.int .i64 (sumW (fun s => inF s.k s.n) l)) ∧ hs = []) := by
  refine Ev.func tabOK [0, 2, 3, 4, 8] 0 Tryd.func27 rfl rfl (by simp [Tryd.ntmps27]) (by rfl) (comp27 _ rfl) (rs := [.tmp 2]) rfl ?_; rw [cc27]; show Ev.Wp _ _ _ _ ⟨[(0, _)], [], 0⟩
  repeat' (first | ((with_reducible refine Ev.sided ?_ ?_); (conv => whnf)) | ((with_reducible refine Ev.w_put ?_); (conv => whnf)) | ((with_reducible refine Ev.w_step ?_); (conv => whnf)) | ((with_reducible refine Ev.w_opt ?_); (conv => whnf)) | ((with_reducible refine Ev.chk_k ?_ ?_); rotate_left; (focus first | rfl | (simp only [Ev.nbeq, Bool.and_true, Bool.true_and, Bool.not_false]; done) | ((repeat' (first | exact Ev.nbeq _ | rfl | refine Bool.and_eq_true_iff.2 ⟨?_, ?_⟩)); done)); conv => whnf) | with_reducible refine Ev.c_dec (fun _ => ?_) (fun _ => ?_) | with_reducible refine Ev.c_not ?_ | with_reducible refine Ev.c_t ?_ | with_reducible refine Ev.c_f ?_ | with_reducible refine Ev.c_br (fun _ => ?_) (fun _ => ?_) | ((with_reducible refine Ev.br_not ?_); conv => whnf) | with_reducible refine Ev.br_dec (fun _ => ?_) (fun _ => ?_) | with_reducible refine Ev.br (fun _ => ?_) (fun _ => ?_) | with_reducible refine Ev.eo_ret ?_ | with_reducible refine Ev.eo_norm ?_ | with_reducible refine Ev.t_norm ?_ | with_reducible refine Ev.k_seq ?_ | ((with_reducible refine Ev.k_reg (hs := []) (tabOK' _ _) (fun Q hQ => ?_)); (simp only [Ev.runE_cons, Ev.runE_nil]); conv => whnf) | (with_reducible refine hQ _ ?_; clear hQ Q) | with_reducible refine Ev.k_cond rfl ?_ | with_reducible refine Ev.k_skip ?_ | with_reducible refine Ev.k_block ?_ | with_reducible refine Ev.k_exit ?_ | with_reducible refine Ev.k_ret ?_ | with_reducible refine Ev.t_ret ?_ | with_reducible refine Ev.t_exit ?_ | with_reducible refine Ev.b_norm ?_ | with_reducible refine Ev.b_ret ?_ | with_reducible refine Ev.b_here ?_ | with_reducible refine Ev.b_off rfl ?_ | ((with_reducible refine Ev.e_ret (fun F hF => ?_)); conv => whnf) | ((with_reducible refine Ev.e_norm (fun F hF => ?_)); conv => whnf) | (with_reducible refine hF _ ?_; clear hF F) | (refine Ev.Side.of ?_; exact Nat.le_of_ble_eq_true rfl))
  refine Ev.loop (fun k s => ∃ i : Nat, s = ⟨[(0, .lst 3 (sps l)), (2, .v (.int .i64 0)), (3, .v (.int .i64 (sumW (fun s => inF s.k s.n) (l.take i)))), (4, .v (.int .i64 i))], [], 0⟩ ∧ k + i = l.length) ?_ ?_
  · exact Ev.to ⟨[(0, _), (2, _), (3, .v (.int .i64 0)), (4, .v (.int .i64 ((0 : Nat) : Int)))], [], 0⟩ ⟨rfl, rfl, rfl, rfl, trivial⟩ trivial (Nat.le_refl _) ⟨l.length, 0, rfl, by omega⟩
  rintro k s1 ⟨i, rfl, hk⟩
  repeat' (first | ((with_reducible refine Ev.sided ?_ ?_); (conv => whnf)) | ((with_reducible refine Ev.w_put ?_); (conv => whnf)) | ((with_reducible refine Ev.w_step ?_); (conv => whnf)) | ((with_reducible refine Ev.w_opt ?_); (conv => whnf)) | ((with_reducible refine Ev.chk_k ?_ ?_); rotate_left; (focus first | rfl | (simp only [Ev.nbeq, Bool.and_true, Bool.true_and, Bool.not_false]; done) | ((repeat' (first | exact Ev.nbeq _ | rfl | refine Bool.and_eq_true_iff.2 ⟨?_, ?_⟩)); done)); conv => whnf) | with_reducible refine Ev.c_dec (fun _ => ?_) (fun _ => ?_) | with_reducible refine Ev.c_not ?_ | with_reducible refine Ev.c_t ?_ | with_reducible refine Ev.c_f ?_ | with_reducible refine Ev.c_br (fun _ => ?_) (fun _ => ?_) | ((with_reducible refine Ev.br_not ?_); conv => whnf) | with_reducible refine Ev.br_dec (fun _ => ?_) (fun _ => ?_) | with_reducible refine Ev.br (fun _ => ?_) (fun _ => ?_) | with_reducible refine Ev.eo_ret ?_ | with_reducible refine Ev.eo_norm ?_ | with_reducible refine Ev.t_norm ?_ | with_reducible refine Ev.k_seq ?_ | ((with_reducible refine Ev.k_reg (hs := []) (tabOK' _ _) (fun Q hQ => ?_)); (simp only [Ev.runE_cons, Ev.runE_nil]); conv => whnf) | (with_reducible refine hQ _ ?_; clear hQ Q) | with_reducible refine Ev.k_cond rfl ?_ | with_reducible refine Ev.k_skip ?_ | with_reducible refine Ev.k_block ?_ | with_reducible refine Ev.k_exit ?_ | with_reducible refine Ev.k_ret ?_ | with_reducible refine Ev.t_ret ?_ | with_reducible refine Ev.t_exit ?_ | with_reducible refine Ev.b_norm ?_ | with_reducible refine Ev.b_ret ?_ | with_reducible refine Ev.b_here ?_ | with_reducible refine Ev.b_off rfl ?_ | ((with_reducible refine Ev.e_ret (fun F hF => ?_)); conv => whnf) | ((with_reducible refine Ev.e_norm (fun F hF => ?_)); conv => whnf) | (with_reducible refine hF _ ?_; clear hF F) | ((refine Ev.el_map ?_ (fun hi => ?_); rotate_left); conv => whnf) | ((refine Ev.call_det (rin_call _ _ _) rfl rfl ?_); conv => whnf) | (refine Ev.Side.of ?_; exact Nat.le_of_ble_eq_true rfl))
  · have hi' : i < l.length := by simpa using hi
    rw [spC_at hi hi']
    refine Ev.again (k - 1) ⟨[(0, _), (2, _), (3, .v (.int .i64 (sumW (fun s => inF s.k s.n) (l.take (i + 1))))), (4, .v (.int .i64 ((i + 1 : Nat) : Int)))], [], 0⟩ (by omega) ⟨rfl, rfl, Ev.slot_int rfl (by rw [sumW_succ _ _ hi']), Ev.slot_int rfl (by rw [Ev.wrap64]; omega), trivial⟩ trivial (Nat.le_refl _) ⟨i + 1, rfl, by omega⟩
  · refine Ev.Side.of ?_; rename_i h; simp only [sps, List.length_map] at h; omega
  · refine Ev.Side.of ?_; rename_i h; omega
  · rename_i h
    have ei : i = l.length := by simp only [sps, List.length_map] at h; omega
    subst ei
    rw [List.take_of_length_le (Nat.le_refl _)]
    exact ⟨rfl, rfl⟩
theorem r4out_call (l : List Sp) (hl : l.length ≤ 1000000000) (hs : Small l) : CallW env 29 [.lst 3 (sps l)] (fun r hs => r = .v (.int .i64 (sumW (fun s => outF s.k s.n s.t) l)) ∧ hs = []) := by
  refine Ev.func tabOK [0, 2, 3, 4, 8] 0 Tryd.func29 rfl rfl (by simp [Tryd.ntmps29]) (by rfl) (comp29 _ rfl) (rs := [.tmp 2]) rfl ?_; rw [cc29]; show Ev.Wp _ _ _ _ ⟨[(0, _)], [], 0⟩
  repeat' (first | ((with_reducible refine Ev.sided ?_ ?_); (conv => whnf)) | ((with_reducible refine Ev.w_put ?_); (conv => whnf)) | ((with_reducible refine Ev.w_step ?_); (conv => whnf)) | ((with_reducible refine Ev.w_opt ?_); (conv => whnf)) | ((with_reducible refine Ev.chk_k ?_ ?_); rotate_left; (focus first | rfl | (simp only [Ev.nbeq, Bool.and_true, Bool.true_and, Bool.not_false]; done) | ((repeat' (first | exact Ev.nbeq _ | rfl | refine Bool.and_eq_true_iff.2 ⟨?_, ?_⟩)); done)); conv => whnf) | with_reducible refine Ev.c_dec (fun _ => ?_) (fun _ => ?_) | with_reducible refine Ev.c_not ?_ | with_reducible refine Ev.c_t ?_ | with_reducible refine Ev.c_f ?_ | with_reducible refine Ev.c_br (fun _ => ?_) (fun _ => ?_) | ((with_reducible refine Ev.br_not ?_); conv => whnf) | with_reducible refine Ev.br_dec (fun _ => ?_) (fun _ => ?_) | with_reducible refine Ev.br (fun _ => ?_) (fun _ => ?_) | with_reducible refine Ev.eo_ret ?_ | with_reducible refine Ev.eo_norm ?_ | with_reducible refine Ev.t_norm ?_ | with_reducible refine Ev.k_seq ?_ | ((with_reducible refine Ev.k_reg (hs := []) (tabOK' _ _) (fun Q hQ => ?_)); (simp only [Ev.runE_cons, Ev.runE_nil]); conv => whnf) | (with_reducible refine hQ _ ?_; clear hQ Q) | with_reducible refine Ev.k_cond rfl ?_ | with_reducible refine Ev.k_skip ?_ | with_reducible refine Ev.k_block ?_ | with_reducible refine Ev.k_exit ?_ | with_reducible refine Ev.k_ret ?_ | with_reducible refine Ev.t_ret ?_ | with_reducible refine Ev.t_exit ?_ | with_reducible refine Ev.b_norm ?_ | with_reducible refine Ev.b_ret ?_ | with_reducible refine Ev.b_here ?_ | with_reducible refine Ev.b_off rfl ?_ | ((with_reducible refine Ev.e_ret (fun F hF => ?_)); conv => whnf) | ((with_reducible refine Ev.e_norm (fun F hF => ?_)); conv => whnf) | (with_reducible refine hF _ ?_; clear hF F) | (refine Ev.Side.of ?_; exact Nat.le_of_ble_eq_true rfl))
  refine Ev.loop (fun k s => ∃ i : Nat, s = ⟨[(0, .lst 3 (sps l)), (2, .v (.int .i64 0)), (3, .v (.int .i64 (sumW (fun s => outF s.k s.n s.t) (l.take i)))), (4, .v (.int .i64 i))], [], 0⟩ ∧ k + i = l.length) ?_ ?_
  · exact Ev.to ⟨[(0, _), (2, _), (3, .v (.int .i64 0)), (4, .v (.int .i64 ((0 : Nat) : Int)))], [], 0⟩ ⟨rfl, rfl, rfl, rfl, trivial⟩ trivial (Nat.le_refl _) ⟨l.length, 0, rfl, by omega⟩
  rintro k s1 ⟨i, rfl, hk⟩
  repeat' (first | ((with_reducible refine Ev.sided ?_ ?_); (conv => whnf)) | ((with_reducible refine Ev.w_put ?_); (conv => whnf)) | ((with_reducible refine Ev.w_step ?_); (conv => whnf)) | ((with_reducible refine Ev.w_opt ?_); (conv => whnf)) | ((with_reducible refine Ev.chk_k ?_ ?_); rotate_left; (focus first | rfl | (simp only [Ev.nbeq, Bool.and_true, Bool.true_and, Bool.not_false]; done) | ((repeat' (first | exact Ev.nbeq _ | rfl | refine Bool.and_eq_true_iff.2 ⟨?_, ?_⟩)); done)); conv => whnf) | with_reducible refine Ev.c_dec (fun _ => ?_) (fun _ => ?_) | with_reducible refine Ev.c_not ?_ | with_reducible refine Ev.c_t ?_ | with_reducible refine Ev.c_f ?_ | with_reducible refine Ev.c_br (fun _ => ?_) (fun _ => ?_) | ((with_reducible refine Ev.br_not ?_); conv => whnf) | with_reducible refine Ev.br_dec (fun _ => ?_) (fun _ => ?_) | with_reducible refine Ev.br (fun _ => ?_) (fun _ => ?_) | with_reducible refine Ev.eo_ret ?_ | with_reducible refine Ev.eo_norm ?_ | with_reducible refine Ev.t_norm ?_ | with_reducible refine Ev.k_seq ?_ | ((with_reducible refine Ev.k_reg (hs := []) (tabOK' _ _) (fun Q hQ => ?_)); (simp only [Ev.runE_cons, Ev.runE_nil]); conv => whnf) | (with_reducible refine hQ _ ?_; clear hQ Q) | with_reducible refine Ev.k_cond rfl ?_ | with_reducible refine Ev.k_skip ?_ | with_reducible refine Ev.k_block ?_ | with_reducible refine Ev.k_exit ?_ | with_reducible refine Ev.k_ret ?_ | with_reducible refine Ev.t_ret ?_ | with_reducible refine Ev.t_exit ?_ | with_reducible refine Ev.b_norm ?_ | with_reducible refine Ev.b_ret ?_ | with_reducible refine Ev.b_here ?_ | with_reducible refine Ev.b_off rfl ?_ | ((with_reducible refine Ev.e_ret (fun F hF => ?_)); conv => whnf) | ((with_reducible refine Ev.e_norm (fun F hF => ?_)); conv => whnf) | (with_reducible refine hF _ ?_; clear hF F) | ((refine Ev.el_map ?_ (fun hi => ?_); rotate_left); conv => whnf) | ((refine Ev.call_det (rout_call _ _ _ (hs _ (List.getElem_mem hi))) rfl rfl ?_); conv => whnf) | (refine Ev.Side.of ?_; exact Nat.le_of_ble_eq_true rfl))
  · have hi' : i < l.length := by simpa using hi
    rw [spC_at hi hi']
    refine Ev.again (k - 1) ⟨[(0, _), (2, _), (3, .v (.int .i64 (sumW (fun s => outF s.k s.n s.t) (l.take (i + 1))))), (4, .v (.int .i64 ((i + 1 : Nat) : Int)))], [], 0⟩ (by omega) ⟨rfl, rfl, Ev.slot_int rfl (by rw [sumW_succ _ _ hi']), Ev.slot_int rfl (by rw [Ev.wrap64]; omega), trivial⟩ trivial (Nat.le_refl _) ⟨i + 1, rfl, by omega⟩
  · refine Ev.Side.of ?_; rename_i h; simp only [sps, List.length_map] at h; omega
  · refine Ev.Side.of ?_; rename_i h; omega
  · rename_i h
    have ei : i = l.length := by simp only [sps, List.length_map] at h; omega
    subst ei
    rw [List.take_of_length_le (Nat.le_refl _)]
    exact ⟨rfl, rfl⟩
end Go.Proofs.YtdgpilapblipbaaDoor.Abs

/- Operations: the program's sums. -/
namespace Go.Proofs.YtdgpilapblipbaaDoor.Abs
open Go
set_option maxRecDepth 100000
set_option linter.unusedSimpArgs false
set_option linter.unusedVariables false
attribute [local irreducible] Ev.FinL Ev.brC Ev.Side Ev.Wp Ev.Again Ev.To Ev.Fin
open Go.Lib Go.RowKit
def cc37 : CC := (.seq (.reg 0 [⟨0, some 4, (.assign (.const (Value.int .i64 0))), none⟩]) (.seq (.reg 1 [⟨0, some 5, (.assign (.const (Value.int .i64 0))), none⟩]) (.seq (.seq (.reg 2 [⟨0, some 8, (.move (.tmp 0)), none⟩, ⟨1, some 9, (.call { callee := .builtin .len, args := #[.tmp 8], argTypes := #[58] }), none⟩, ⟨2, some 10, (.move (.const (Value.int .i64 0))), none⟩]) (.block 0 (.loop (.seq (.reg 3 [⟨0, some 11, (.binOp .lss 3 (.tmp 10) (.tmp 9) 3), none⟩]) (.seq (.cond (.tmp 11) .skip (.exit 0)) (.seq (.block 1 (.seq (.reg 4 [⟨0, some 12, (.indexAddr 58 (.tmp 8) (.tmp 10)), none⟩, ⟨1, some 13, (.load 23 (.tmp 12)), none⟩, ⟨2, some 7, (.alloc 23), none⟩, ⟨3, none, (.store 23 (.tmp 7) (.tmp 13)), none⟩]) (.reg 5 [⟨0, some 14, (.move (.tmp 5)), none⟩, ⟨1, some 15, (.move (.tmp 1)), none⟩, ⟨2, some 16, (.load 23 (.tmp 7)), none⟩, ⟨3, some 17, (.call { callee := .value (.tmp 15), args := #[.tmp 16], argTypes := #[23] }), none⟩, ⟨4, some 18, (.binOp .add 3 (.tmp 14) (.tmp 17) 3), none⟩, ⟨5, some 5, (.assign (.tmp 18)), none⟩]))) (.reg 6 [⟨0, some 19, (.binOp .add 3 (.tmp 10) (.const (Value.int .i64 1)) 3), none⟩, ⟨1, some 10, (.move (.tmp 19)), none⟩]))))))) (.seq (.reg 7 [⟨0, some 20, (.move (.tmp 5)), none⟩, ⟨1, some 4, (.assign (.tmp 20)), none⟩]) .ret))))
theorem comp37 : ∀ c, Tryd.f37.body = some c → comp c = cc37 := by
  intro c h
  have : c = Tryd.f37.body.get rfl := by rw [← Option.some_inj, ← h]; rfl
  rw [this]; rfl
def cc26 : CC := (.seq (.reg 0 [⟨0, some 2, (.assign (.const (Value.int .i64 0))), none⟩]) (.seq (.reg 1 [⟨0, some 3, (.assign (.func 37)), none⟩]) (.seq (.reg 2 [⟨0, some 4, (.move (.tmp 3)), none⟩, ⟨1, some 5, (.move (.tmp 0)), none⟩, ⟨2, some 6, (.call { callee := .value (.tmp 4), args := #[.tmp 5, .func 14], argTypes := #[58, 28] }), none⟩, ⟨3, some 2, (.assign (.tmp 6)), none⟩]) .ret)))
theorem comp26 : ∀ c, Tryd.f26.body = some c → comp c = cc26 := by
  intro c h
  have : c = Tryd.f26.body.get rfl := by rw [← Option.some_inj, ← h]; rfl
  rw [this]; rfl
def cc28 : CC := (.seq (.reg 0 [⟨0, some 2, (.assign (.const (Value.int .i64 0))), none⟩]) (.seq (.reg 1 [⟨0, some 3, (.move (.tmp 0)), none⟩, ⟨1, some 4, (.call { callee := .value (.func 37), args := #[.tmp 3, .func 16], argTypes := #[58, 28] }), none⟩, ⟨2, some 2, (.assign (.tmp 4)), none⟩]) .ret))
theorem comp28 : ∀ c, Tryd.f28.body = some c → comp c = cc28 := by
  intro c h
  have : c = Tryd.f28.body.get rfl := by rw [← Option.some_inj, ← h]; rfl
  rw [this]; rfl
theorem sum_call (f : Sp → Int) (g : FuncId) (l : List Sp) (hl : l.length ≤ 1000000000) (hg : ∀ s ∈ l, CallW env g [.agg (spC s)] (fun r hs => r = .v (.int .i64 (f s)) ∧ hs = [])) :
    CallW env 37 [.lst 3 (sps l), .clo (.func g) [] []] (fun r hs => r = .v (.int .i64 (sumW f l)) ∧ hs = []) := by
  refine Ev.func tabOK [0, 1, 4, 5, 7, 8, 9, 10, 11] 0 Tryd.func37 rfl rfl (by simp [Tryd.ntmps37]) (by rfl) (comp37 _ rfl) (rs := [.tmp 4]) rfl ?_; rw [cc37]; show Ev.Wp _ _ _ _ ⟨[(0, _), (1, _)], [], 0⟩
  repeat' (first | ((with_reducible refine Ev.sided ?_ ?_); (conv => whnf)) | ((with_reducible refine Ev.w_put ?_); (conv => whnf)) | ((with_reducible refine Ev.w_step ?_); (conv => whnf)) | ((with_reducible refine Ev.w_opt ?_); (conv => whnf)) | ((with_reducible refine Ev.chk_k ?_ ?_); rotate_left; (focus first | rfl | (simp only [Ev.nbeq, Bool.and_true, Bool.true_and, Bool.not_false]; done) | ((repeat' (first | exact Ev.nbeq _ | rfl | refine Bool.and_eq_true_iff.2 ⟨?_, ?_⟩)); done)); conv => whnf) | with_reducible refine Ev.c_dec (fun _ => ?_) (fun _ => ?_) | with_reducible refine Ev.c_not ?_ | with_reducible refine Ev.c_t ?_ | with_reducible refine Ev.c_f ?_ | with_reducible refine Ev.c_br (fun _ => ?_) (fun _ => ?_) | ((with_reducible refine Ev.br_not ?_); conv => whnf) | with_reducible refine Ev.br_dec (fun _ => ?_) (fun _ => ?_) | with_reducible refine Ev.br (fun _ => ?_) (fun _ => ?_) | with_reducible refine Ev.eo_ret ?_ | with_reducible refine Ev.eo_norm ?_ | with_reducible refine Ev.t_norm ?_ | with_reducible refine Ev.k_seq ?_ | ((with_reducible refine Ev.k_reg (hs := []) (tabOK' _ _) (fun Q hQ => ?_)); (simp only [Ev.runE_cons, Ev.runE_nil]); conv => whnf) | (with_reducible refine hQ _ ?_; clear hQ Q) | with_reducible refine Ev.k_cond rfl ?_ | with_reducible refine Ev.k_skip ?_ | with_reducible refine Ev.k_block ?_ | with_reducible refine Ev.k_exit ?_ | with_reducible refine Ev.k_ret ?_ | with_reducible refine Ev.t_ret ?_ | with_reducible refine Ev.t_exit ?_ | with_reducible refine Ev.b_norm ?_ | with_reducible refine Ev.b_ret ?_ | with_reducible refine Ev.b_here ?_ | with_reducible refine Ev.b_off rfl ?_ | ((with_reducible refine Ev.e_ret (fun F hF => ?_)); conv => whnf) | ((with_reducible refine Ev.e_norm (fun F hF => ?_)); conv => whnf) | (with_reducible refine hF _ ?_; clear hF F) | (refine Ev.Side.of ?_; exact Nat.le_of_ble_eq_true rfl))
  refine Ev.loop (fun k s => ∃ i c : Nat, s = ⟨[(1, .clo (.func g) [] []), (4, .v (.int .i64 0)), (5, .v (.int .i64 (sumW f (l.take i)))), (8, .lst 3 (sps l)), (9, .v (.int .i64 l.length)), (10, .v (.int .i64 i))], [], c⟩ ∧ k + i = l.length) ?_ ?_
  · exact Ev.to ⟨[(1, _), (4, _), (5, .v (.int .i64 0)), (8, _), (9, .v (.int .i64 l.length)), (10, .v (.int .i64 ((0 : Nat) : Int)))], [], 0⟩ ⟨rfl, rfl, rfl, rfl, Ev.slot_int rfl (by simp [sps]), rfl, trivial⟩ trivial (Nat.le_refl _) ⟨l.length, 0, 0, rfl, by omega⟩
  rintro k s1 ⟨i, c, rfl, hk⟩
  repeat' (first | ((with_reducible refine Ev.sided ?_ ?_); (conv => whnf)) | ((with_reducible refine Ev.w_put ?_); (conv => whnf)) | ((with_reducible refine Ev.w_step ?_); (conv => whnf)) | ((with_reducible refine Ev.w_opt ?_); (conv => whnf)) | ((with_reducible refine Ev.chk_k ?_ ?_); rotate_left; (focus first | rfl | (simp only [Ev.nbeq, Bool.and_true, Bool.true_and, Bool.not_false]; done) | ((repeat' (first | exact Ev.nbeq _ | rfl | refine Bool.and_eq_true_iff.2 ⟨?_, ?_⟩)); done)); conv => whnf) | with_reducible refine Ev.c_dec (fun _ => ?_) (fun _ => ?_) | with_reducible refine Ev.c_not ?_ | with_reducible refine Ev.c_t ?_ | with_reducible refine Ev.c_f ?_ | with_reducible refine Ev.c_br (fun _ => ?_) (fun _ => ?_) | ((with_reducible refine Ev.br_not ?_); conv => whnf) | with_reducible refine Ev.br_dec (fun _ => ?_) (fun _ => ?_) | with_reducible refine Ev.br (fun _ => ?_) (fun _ => ?_) | with_reducible refine Ev.eo_ret ?_ | with_reducible refine Ev.eo_norm ?_ | with_reducible refine Ev.t_norm ?_ | with_reducible refine Ev.k_seq ?_ | ((with_reducible refine Ev.k_reg (hs := []) (tabOK' _ _) (fun Q hQ => ?_)); (simp only [Ev.runE_cons, Ev.runE_nil]); conv => whnf) | (with_reducible refine hQ _ ?_; clear hQ Q) | with_reducible refine Ev.k_cond rfl ?_ | with_reducible refine Ev.k_skip ?_ | with_reducible refine Ev.k_block ?_ | with_reducible refine Ev.k_exit ?_ | with_reducible refine Ev.k_ret ?_ | with_reducible refine Ev.t_ret ?_ | with_reducible refine Ev.t_exit ?_ | with_reducible refine Ev.b_norm ?_ | with_reducible refine Ev.b_ret ?_ | with_reducible refine Ev.b_here ?_ | with_reducible refine Ev.b_off rfl ?_ | ((with_reducible refine Ev.e_ret (fun F hF => ?_)); conv => whnf) | ((with_reducible refine Ev.e_norm (fun F hF => ?_)); conv => whnf) | (with_reducible refine hF _ ?_; clear hF F) | ((refine Ev.el_map ?_ (fun hi => ?_); rotate_left); conv => whnf) | ((refine Ev.call_det (hg _ (List.getElem_mem hi)) rfl rfl ?_); conv => whnf) | (refine Ev.Side.of ?_; exact Nat.le_of_ble_eq_true rfl))
  · have hi' : i < l.length := by simpa using hi
    rw [spC_at hi hi']
    refine Ev.again (k - 1) ⟨[(1, _), (4, _), (5, .v (.int .i64 (sumW f (l.take (i + 1))))), (8, _), (9, _), (10, .v (.int .i64 ((i + 1 : Nat) : Int)))], [], c + 8⟩ (by omega) ⟨rfl, rfl, Ev.slot_int rfl (by rw [sumW_succ _ _ hi']), rfl, rfl, Ev.slot_int rfl (by rw [Ev.wrap64]; omega), trivial⟩ trivial (Nat.le_refl _) ⟨i + 1, c + 8, rfl, by omega⟩
  · refine Ev.Side.of ?_; rename_i h; omega
  · refine Ev.Side.of ?_; rename_i h; simp only [sps, List.length_map]; omega
  · rename_i h
    have ei : i = l.length := by omega
    subst ei
    rw [List.take_of_length_le (Nat.le_refl _)]
    exact ⟨rfl, rfl⟩
theorem opIn_call (l : List Sp) (hl : l.length ≤ 1000000000) : CallW env 26 [.lst 3 (sps l)] (fun r hs => r = .v (.int .i64 (sumW (fun s => inF s.k s.n) l)) ∧ hs = []) := by
  refine Ev.func tabOK [0, 2, 3] 0 Tryd.func26 rfl rfl (by simp [Tryd.ntmps26]) (by rfl) (comp26 _ rfl) (rs := [.tmp 2]) rfl ?_; rw [cc26]; show Ev.Wp _ _ _ _ ⟨[(0, _)], [], 0⟩
  repeat' (first | ((with_reducible refine Ev.sided ?_ ?_); (conv => whnf)) | ((with_reducible refine Ev.w_put ?_); (conv => whnf)) | ((with_reducible refine Ev.w_step ?_); (conv => whnf)) | ((with_reducible refine Ev.w_opt ?_); (conv => whnf)) | ((with_reducible refine Ev.chk_k ?_ ?_); rotate_left; (focus first | rfl | (simp only [Ev.nbeq, Bool.and_true, Bool.true_and, Bool.not_false]; done) | ((repeat' (first | exact Ev.nbeq _ | rfl | refine Bool.and_eq_true_iff.2 ⟨?_, ?_⟩)); done)); conv => whnf) | with_reducible refine Ev.c_dec (fun _ => ?_) (fun _ => ?_) | with_reducible refine Ev.c_not ?_ | with_reducible refine Ev.c_t ?_ | with_reducible refine Ev.c_f ?_ | with_reducible refine Ev.c_br (fun _ => ?_) (fun _ => ?_) | ((with_reducible refine Ev.br_not ?_); conv => whnf) | with_reducible refine Ev.br_dec (fun _ => ?_) (fun _ => ?_) | with_reducible refine Ev.br (fun _ => ?_) (fun _ => ?_) | with_reducible refine Ev.eo_ret ?_ | with_reducible refine Ev.eo_norm ?_ | with_reducible refine Ev.t_norm ?_ | with_reducible refine Ev.k_seq ?_ | ((with_reducible refine Ev.k_reg (hs := []) (tabOK' _ _) (fun Q hQ => ?_)); (simp only [Ev.runE_cons, Ev.runE_nil]); conv => whnf) | (with_reducible refine hQ _ ?_; clear hQ Q) | with_reducible refine Ev.k_cond rfl ?_ | with_reducible refine Ev.k_skip ?_ | with_reducible refine Ev.k_block ?_ | with_reducible refine Ev.k_exit ?_ | with_reducible refine Ev.k_ret ?_ | with_reducible refine Ev.t_ret ?_ | with_reducible refine Ev.t_exit ?_ | with_reducible refine Ev.b_norm ?_ | with_reducible refine Ev.b_ret ?_ | with_reducible refine Ev.b_here ?_ | with_reducible refine Ev.b_off rfl ?_ | ((with_reducible refine Ev.e_ret (fun F hF => ?_)); conv => whnf) | ((with_reducible refine Ev.e_norm (fun F hF => ?_)); conv => whnf) | (with_reducible refine hF _ ?_; clear hF F) | ((refine Ev.call_det (sum_call (fun s => inF s.k s.n) 14 l hl (fun s _ => in_call _ _ _)) rfl rfl ?_); conv => whnf) | (refine Ev.Side.of ?_; exact Nat.le_of_ble_eq_true rfl))
  all_goals exact ⟨rfl, rfl⟩
theorem opOut_call (l : List Sp) (hl : l.length ≤ 1000000000) (hs : Small l) : CallW env 28 [.lst 3 (sps l)] (fun r hs => r = .v (.int .i64 (sumW (fun s => outF s.k s.n s.t) l)) ∧ hs = []) := by
  refine Ev.func tabOK [0, 2] 0 Tryd.func28 rfl rfl (by simp [Tryd.ntmps28]) (by rfl) (comp28 _ rfl) (rs := [.tmp 2]) rfl ?_; rw [cc28]; show Ev.Wp _ _ _ _ ⟨[(0, _)], [], 0⟩
  repeat' (first | ((with_reducible refine Ev.sided ?_ ?_); (conv => whnf)) | ((with_reducible refine Ev.w_put ?_); (conv => whnf)) | ((with_reducible refine Ev.w_step ?_); (conv => whnf)) | ((with_reducible refine Ev.w_opt ?_); (conv => whnf)) | ((with_reducible refine Ev.chk_k ?_ ?_); rotate_left; (focus first | rfl | (simp only [Ev.nbeq, Bool.and_true, Bool.true_and, Bool.not_false]; done) | ((repeat' (first | exact Ev.nbeq _ | rfl | refine Bool.and_eq_true_iff.2 ⟨?_, ?_⟩)); done)); conv => whnf) | with_reducible refine Ev.c_dec (fun _ => ?_) (fun _ => ?_) | with_reducible refine Ev.c_not ?_ | with_reducible refine Ev.c_t ?_ | with_reducible refine Ev.c_f ?_ | with_reducible refine Ev.c_br (fun _ => ?_) (fun _ => ?_) | ((with_reducible refine Ev.br_not ?_); conv => whnf) | with_reducible refine Ev.br_dec (fun _ => ?_) (fun _ => ?_) | with_reducible refine Ev.br (fun _ => ?_) (fun _ => ?_) | with_reducible refine Ev.eo_ret ?_ | with_reducible refine Ev.eo_norm ?_ | with_reducible refine Ev.t_norm ?_ | with_reducible refine Ev.k_seq ?_ | ((with_reducible refine Ev.k_reg (hs := []) (tabOK' _ _) (fun Q hQ => ?_)); (simp only [Ev.runE_cons, Ev.runE_nil]); conv => whnf) | (with_reducible refine hQ _ ?_; clear hQ Q) | with_reducible refine Ev.k_cond rfl ?_ | with_reducible refine Ev.k_skip ?_ | with_reducible refine Ev.k_block ?_ | with_reducible refine Ev.k_exit ?_ | with_reducible refine Ev.k_ret ?_ | with_reducible refine Ev.t_ret ?_ | with_reducible refine Ev.t_exit ?_ | with_reducible refine Ev.b_norm ?_ | with_reducible refine Ev.b_ret ?_ | with_reducible refine Ev.b_here ?_ | with_reducible refine Ev.b_off rfl ?_ | ((with_reducible refine Ev.e_ret (fun F hF => ?_)); conv => whnf) | ((with_reducible refine Ev.e_norm (fun F hF => ?_)); conv => whnf) | (with_reducible refine hF _ ?_; clear hF F) | ((refine Ev.call_det (sum_call (fun s => outF s.k s.n s.t) 16 l hl (fun s h => out_call _ _ _ (hs s h))) rfl rfl ?_); conv => whnf) | (refine Ev.Side.of ?_; exact Nat.le_of_ble_eq_true rfl))
  all_goals exact ⟨rfl, rfl⟩
end Go.Proofs.YtdgpilapblipbaaDoor.Abs

/- Operations: which may be, which keeps. -/
namespace Go.Proofs.YtdgpilapblipbaaDoor.Abs
open Go
set_option maxRecDepth 100000
set_option linter.unusedSimpArgs false
set_option linter.unusedVariables false
attribute [local irreducible] Ev.FinL Ev.brC Ev.Side Ev.Wp Ev.Again Ev.To Ev.Fin
open Go.Lib Go.RowKit
def firstE (f : Sp → Int) : List Sp → Int
  | [] => 0
  | s :: l => if f s = 0 then firstE f l else f s
theorem firstE_append (f : Sp → Int) : ∀ (a b : List Sp), firstE f (a ++ b) = if firstE f a = 0 then firstE f b else firstE f a
  | [], b => by simp [firstE]
  | s :: a, b => by
    simp only [List.cons_append, firstE, firstE_append f a b]
    by_cases h : f s = 0 <;> simp [h]
theorem firstE_ok (f : Sp → Int) (l : List Sp) {i : Nat} (hi : i < l.length) (h : firstE f (l.take i) = 0) (h0 : f l[i] = 0) : firstE f (l.take (i + 1)) = 0 := by
  rw [List.take_succ_eq_append_getElem hi, firstE_append, h]; simp [firstE, h0]
theorem firstE_at (f : Sp → Int) (l : List Sp) {i : Nat} (hi : i < l.length) (h : firstE f (l.take i) = 0) (h0 : ¬ f l[i] = 0) : firstE f l = f l[i] := by
  have e : l = l.take i ++ l[i] :: l.drop (i + 1) := by rw [List.getElem_cons_drop, List.take_append_drop]
  have := firstE_append f (l.take i) (l[i] :: l.drop (i + 1))
  rw [← e, h] at this
  rw [this]; simp [firstE, h0]
def mayS (s : Sp) : Int := mayF s.k s.n s.t
def inW (l : List Sp) : Int := sumW (fun s => inF s.k s.n) l
def outW (l : List Sp) : Int := sumW (fun s => outF s.k s.n s.t) l
def opMayF (l : List Sp) : Int := if firstE mayS l = 0 then (if 1048576 < inW l then 4 else 0) else firstE mayS l
def nilA : AV := .v (.slice none 0 0)
def keepA (n : Int) : AV := if n < 0 ∨ 1048576 < n then nilA else if n = 0 then nilA else .lst 3 (sps [⟨1, n, ⟨#[]⟩⟩])
def keepE (n : Int) : Int := if n < 0 ∨ 1048576 < n then 2 else 0
def cc24 : CC := (.seq (.reg 0 [⟨0, some 2, (.assign (.const (Value.int .i64 0))), none⟩]) (.seq (.seq (.reg 1 [⟨0, some 6, (.move (.tmp 0)), none⟩, ⟨1, some 7, (.call { callee := .builtin .len, args := #[.tmp 6], argTypes := #[35] }), none⟩, ⟨2, some 8, (.move (.const (Value.int .i64 0))), none⟩]) (.block 0 (.loop (.seq (.reg 2 [⟨0, some 9, (.binOp .lss 3 (.tmp 8) (.tmp 7) 3), none⟩]) (.seq (.cond (.tmp 9) .skip (.exit 0)) (.seq (.block 1 (.seq (.reg 3 [⟨0, some 10, (.indexAddr 35 (.tmp 6) (.tmp 8)), none⟩, ⟨1, some 11, (.load 23 (.tmp 10)), none⟩, ⟨2, some 4, (.alloc 23), none⟩, ⟨3, none, (.store 23 (.tmp 4) (.tmp 11)), none⟩]) (.seq (.reg 4 [⟨0, some 12, (.load 23 (.tmp 4)), none⟩, ⟨1, some 13, (.call { callee := .value (.func 12), args := #[.tmp 12], argTypes := #[23] }), none⟩, ⟨2, some 5, (.assign (.tmp 13)), none⟩]) (.seq (.reg 5 [⟨0, some 14, (.move (.tmp 5)), none⟩, ⟨1, some 15, (.binOp .neq 26 (.tmp 14) (.const (Value.int .i64 0)) 26), none⟩]) (.cond (.tmp 15) (.seq (.reg 6 [⟨0, some 16, (.move (.tmp 5)), none⟩, ⟨1, some 2, (.assign (.tmp 16)), none⟩]) .ret) .skip))))) (.reg 7 [⟨0, some 17, (.binOp .add 3 (.tmp 8) (.const (Value.int .i64 1)) 3), none⟩, ⟨1, some 8, (.move (.tmp 17)), none⟩]))))))) (.seq (.seq (.reg 8 [⟨0, some 18, (.move (.tmp 0)), none⟩, ⟨1, some 19, (.call { callee := .value (.func 26), args := #[.tmp 18], argTypes := #[35] }), none⟩, ⟨2, some 20, (.binOp .gtr 3 (.tmp 19) (.const (Value.int .i64 1048576)) 3), none⟩]) (.cond (.tmp 20) (.seq (.reg 9 [⟨0, some 2, (.assign (.const (Value.int .i64 4))), none⟩]) .ret) .skip)) (.seq (.reg 10 [⟨0, some 2, (.assign (.const (Value.int .i64 0))), none⟩]) .ret))))
theorem comp24 : ∀ c, Tryd.f24.body = some c → comp c = cc24 := by
  intro c h
  have : c = Tryd.f24.body.get rfl := by rw [← Option.some_inj, ← h]; rfl
  rw [this]; rfl
def cc22 : CC := (.seq (.reg 0 [⟨0, some 2, (.assign (.const (Value.slice none 0 0))), none⟩, ⟨1, some 3, (.assign (.const (Value.int .i64 0))), none⟩]) (.seq (.seq (.reg 1 [⟨0, some 4, (.move (.tmp 0)), none⟩, ⟨1, some 5, (.binOp .lss 3 (.tmp 4) (.const (Value.int .i64 0)) 3), none⟩, ⟨2, some 6, (.move (.tmp 5)), none⟩, ⟨3, some 7, (.move (.tmp 0)), (some (6, false))⟩, ⟨4, some 8, (.binOp .gtr 3 (.tmp 7) (.const (Value.int .i64 1048576)) 3), (some (6, false))⟩, ⟨5, some 9, (.pick (.tmp 6) (.const (Value.bool true)) (.tmp 8)), none⟩]) (.cond (.tmp 9) (.seq (.reg 2 [⟨0, some 2, (.assign (.const (Value.slice none 0 0))), none⟩, ⟨1, some 3, (.assign (.const (Value.int .i64 2))), none⟩]) .ret) .skip)) (.seq (.seq (.reg 3 [⟨0, some 10, (.move (.tmp 0)), none⟩, ⟨1, some 11, (.binOp .eql 3 (.tmp 10) (.const (Value.int .i64 0)) 3), none⟩]) (.cond (.tmp 11) (.seq (.reg 4 [⟨0, some 2, (.assign (.const (Value.slice none 0 0))), none⟩, ⟨1, some 3, (.assign (.const (Value.int .i64 0))), none⟩]) .ret) .skip)) (.seq (.reg 5 [⟨0, some 12, (.move (.tmp 0)), none⟩, ⟨1, some 13, (.build 23 #[(0, .const (Value.int .i64 1)), (1, .tmp 12)]), none⟩, ⟨2, some 14, (.buildSlice 35 1 #[(0, .tmp 13)]), none⟩, ⟨3, some 2, (.assign (.tmp 14)), none⟩, ⟨4, some 3, (.assign (.const (Value.int .i64 0))), none⟩]) .ret))))
theorem comp22 : ∀ c, Tryd.f22.body = some c → comp c = cc22 := by
  intro c h
  have : c = Tryd.f22.body.get rfl := by rw [← Option.some_inj, ← h]; rfl
  rw [this]; rfl
def cc25 : CC := (.seq (.reg 0 [⟨0, some 2, (.assign (.const (Value.int .i64 0))), none⟩]) (.seq (.seq (.reg 1 [⟨0, some 3, (.assign (.const (Value.int .i64 0))), none⟩]) (.block 0 (.loop (.seq (.seq (.reg 2 [⟨0, some 5, (.move (.tmp 3)), none⟩, ⟨1, some 6, (.move (.tmp 0)), none⟩, ⟨2, some 7, (.call { callee := .builtin .len, args := #[.tmp 6], argTypes := #[35] }), none⟩, ⟨3, some 8, (.binOp .lss 3 (.tmp 5) (.tmp 7) 3), none⟩]) (.cond (.tmp 8) .skip (.exit 0))) (.seq (.block 1 (.seq (.reg 4 [⟨0, some 11, (.move (.tmp 0)), none⟩, ⟨1, some 12, (.move (.tmp 3)), none⟩, ⟨2, some 13, (.indexAddr 35 (.tmp 11) (.tmp 12)), none⟩, ⟨3, some 14, (.load 23 (.tmp 13)), none⟩, ⟨4, some 15, (.call { callee := .value (.func 13), args := #[.tmp 14], argTypes := #[23] }), none⟩, ⟨5, some 4, (.assign (.tmp 15)), none⟩]) (.seq (.reg 5 [⟨0, some 16, (.move (.tmp 4)), none⟩, ⟨1, some 17, (.binOp .neq 26 (.tmp 16) (.const (Value.int .i64 0)) 26), none⟩]) (.cond (.tmp 17) (.seq (.reg 6 [⟨0, some 18, (.move (.tmp 4)), none⟩, ⟨1, some 2, (.assign (.tmp 18)), none⟩]) .ret) .skip)))) (.reg 3 [⟨0, some 9, (.move (.tmp 3)), none⟩, ⟨1, some 10, (.binOp .add 3 (.tmp 9) (.const (Value.int .i64 1)) 3), none⟩, ⟨2, some 3, (.assign (.tmp 10)), none⟩])))))) (.seq (.seq (.reg 7 [⟨0, some 19, (.move (.tmp 0)), none⟩, ⟨1, some 20, (.call { callee := .value (.func 27), args := #[.tmp 19], argTypes := #[35] }), none⟩, ⟨2, some 21, (.binOp .gtr 3 (.tmp 20) (.const (Value.int .i64 1048576)) 3), none⟩]) (.cond (.tmp 21) (.seq (.reg 8 [⟨0, some 2, (.assign (.const (Value.int .i64 4))), none⟩]) .ret) .skip)) (.seq (.reg 9 [⟨0, some 2, (.assign (.const (Value.int .i64 0))), none⟩]) .ret))))
theorem comp25 : ∀ c, Tryd.f25.body = some c → comp c = cc25 := by
  intro c h
  have : c = Tryd.f25.body.get rfl := by rw [← Option.some_inj, ← h]; rfl
  rw [this]; rfl
def cc23 : CC := (.seq (.reg 0 [⟨0, some 2, (.assign (.const (Value.slice none 0 0))), none⟩, ⟨1, some 3, (.assign (.const (Value.int .i64 0))), none⟩]) (.seq (.seq (.reg 1 [⟨0, some 4, (.move (.tmp 0)), none⟩, ⟨1, some 5, (.binOp .lss 3 (.tmp 4) (.const (Value.int .i64 0)) 3), none⟩, ⟨2, some 6, (.move (.tmp 5)), none⟩, ⟨3, some 7, (.move (.tmp 0)), (some (6, false))⟩, ⟨4, some 8, (.binOp .gtr 3 (.tmp 7) (.const (Value.int .i64 1048576)) 3), (some (6, false))⟩, ⟨5, some 9, (.pick (.tmp 6) (.const (Value.bool true)) (.tmp 8)), none⟩]) (.cond (.tmp 9) (.seq (.reg 2 [⟨0, some 2, (.assign (.const (Value.slice none 0 0))), none⟩, ⟨1, some 3, (.assign (.const (Value.int .i64 2))), none⟩]) .ret) .skip)) (.seq (.seq (.reg 3 [⟨0, some 10, (.move (.tmp 0)), none⟩, ⟨1, some 11, (.binOp .eql 3 (.tmp 10) (.const (Value.int .i64 0)) 3), none⟩]) (.cond (.tmp 11) (.seq (.reg 4 [⟨0, some 2, (.assign (.const (Value.slice none 0 0))), none⟩, ⟨1, some 3, (.assign (.const (Value.int .i64 0))), none⟩]) .ret) .skip)) (.seq (.reg 5 [⟨0, some 12, (.move (.tmp 0)), none⟩, ⟨1, some 13, (.build 23 #[(0, .const (Value.int .i64 1)), (1, .tmp 12)]), none⟩, ⟨2, some 14, (.buildSlice 35 1 #[(0, .tmp 13)]), none⟩, ⟨3, some 2, (.assign (.tmp 14)), none⟩, ⟨4, some 3, (.assign (.const (Value.int .i64 0))), none⟩]) .ret))))
theorem comp23 : ∀ c, Tryd.f23.body = some c → comp c = cc23 := by
  intro c h
  have : c = Tryd.f23.body.get rfl := by rw [← Option.some_inj, ← h]; rfl
  rw [this]; rfl
theorem opMay_call (l : List Sp) (hl : l.length ≤ 1000000000) (hs : Small l) : CallW env 24 [.lst 3 (sps l)] (fun r hs => r = .v (.int .i64 (opMayF l)) ∧ hs = []) := by
  have hsl := sps_len l
  refine Ev.func tabOK [0, 2, 4, 5, 6, 7, 8, 9, 15, 20] 0 Tryd.func24 rfl rfl (by simp [Tryd.ntmps24]) (by rfl) (comp24 _ rfl) (rs := [.tmp 2]) rfl ?_; rw [cc24]; show Ev.Wp _ _ _ _ ⟨[(0, _)], [], 0⟩
  repeat' (first | ((with_reducible refine Ev.sided ?_ ?_); (conv => whnf)) | ((with_reducible refine Ev.w_put ?_); (conv => whnf)) | ((with_reducible refine Ev.w_step ?_); (conv => whnf)) | ((with_reducible refine Ev.w_opt ?_); (conv => whnf)) | ((with_reducible refine Ev.chk_k ?_ ?_); rotate_left; (focus first | rfl | (simp only [Ev.nbeq, Bool.and_true, Bool.true_and, Bool.not_false]; done) | ((repeat' (first | exact Ev.nbeq _ | rfl | refine Bool.and_eq_true_iff.2 ⟨?_, ?_⟩)); done)); conv => whnf) | with_reducible refine Ev.c_dec (fun _ => ?_) (fun _ => ?_) | with_reducible refine Ev.c_not ?_ | with_reducible refine Ev.c_t ?_ | with_reducible refine Ev.c_f ?_ | with_reducible refine Ev.c_br (fun _ => ?_) (fun _ => ?_) | ((with_reducible refine Ev.br_not ?_); conv => whnf) | with_reducible refine Ev.br_dec (fun _ => ?_) (fun _ => ?_) | with_reducible refine Ev.br (fun _ => ?_) (fun _ => ?_) | with_reducible refine Ev.eo_ret ?_ | with_reducible refine Ev.eo_norm ?_ | with_reducible refine Ev.t_norm ?_ | with_reducible refine Ev.k_seq ?_ | ((with_reducible refine Ev.k_reg (hs := []) (tabOK' _ _) (fun Q hQ => ?_)); (simp only [Ev.runE_cons, Ev.runE_nil]); conv => whnf) | (with_reducible refine hQ _ ?_; clear hQ Q) | with_reducible refine Ev.k_cond rfl ?_ | with_reducible refine Ev.k_skip ?_ | with_reducible refine Ev.k_block ?_ | with_reducible refine Ev.k_exit ?_ | with_reducible refine Ev.k_ret ?_ | with_reducible refine Ev.t_ret ?_ | with_reducible refine Ev.t_exit ?_ | with_reducible refine Ev.b_norm ?_ | with_reducible refine Ev.b_ret ?_ | with_reducible refine Ev.b_here ?_ | with_reducible refine Ev.b_off rfl ?_ | ((with_reducible refine Ev.e_ret (fun F hF => ?_)); conv => whnf) | ((with_reducible refine Ev.e_norm (fun F hF => ?_)); conv => whnf) | (with_reducible refine hF _ ?_; clear hF F) | ((refine Ev.el_map0 ?_ (fun hi => ?_)); rotate_left; conv => whnf) | ((refine Ev.el_mapN ?_ (fun hi => ?_)); rotate_left; conv => whnf) | (refine Ev.Side.of ?_; exact Nat.le_of_ble_eq_true rfl) | (refine Ev.Side.of ?_; omega) | (refine Ev.app_one ?_ rfl ?_ (by decide) <;> (first | omega | (simp; done) | (simp; omega))) | (refine Ev.app_nil1 rfl (by decide)) | (refine Ev.app_ys ?_ ?_ ?_ (by decide) <;> (first | omega | exact sps_all _ | exact bts_all _ | exact ints_all _ | exact spss_all _ | (simp; done) | (simp; omega))) | (refine Ev.app_nil ?_ ?_ (by decide) <;> (first | omega | exact sps_all _ | exact bts_all _ | exact ints_all _ | exact spss_all _ | (simp; done) | (simp; omega))) | (refine Ev.Side.of ?_; first | omega | (simp; done) | (simp; omega)))
  refine Ev.loop (fun k s => ∃ i c : Nat, s = ⟨[(0, .lst 3 (sps l)), (2, .v (.int .i64 0)), (6, .lst 3 (sps l)), (7, .v (.int .i64 l.length)), (8, .v (.int .i64 i))], [], c⟩ ∧ k + i = l.length ∧ firstE mayS (l.take i) = 0) ?_ ?_
  · exact Ev.to ⟨[(0, _), (2, _), (6, .lst 3 (sps l)), (7, .v (.int .i64 l.length)), (8, .v (.int .i64 ((0 : Nat) : Int)))], [], 0⟩ ⟨rfl, rfl, rfl, Ev.slot_int rfl (by simp [sps]), rfl, trivial⟩ trivial (Nat.le_refl _) ⟨l.length, 0, 0, rfl, by omega, rfl⟩
  rintro k s1 ⟨i, c, rfl, hk, hf⟩
  repeat' (first | ((with_reducible refine Ev.sided ?_ ?_); (conv => whnf)) | ((with_reducible refine Ev.w_put ?_); (conv => whnf)) | ((with_reducible refine Ev.w_step ?_); (conv => whnf)) | ((with_reducible refine Ev.w_opt ?_); (conv => whnf)) | ((with_reducible refine Ev.chk_k ?_ ?_); rotate_left; (focus first | rfl | (simp only [Ev.nbeq, Bool.and_true, Bool.true_and, Bool.not_false]; done) | ((repeat' (first | exact Ev.nbeq _ | rfl | refine Bool.and_eq_true_iff.2 ⟨?_, ?_⟩)); done)); conv => whnf) | with_reducible refine Ev.c_dec (fun _ => ?_) (fun _ => ?_) | with_reducible refine Ev.c_not ?_ | with_reducible refine Ev.c_t ?_ | with_reducible refine Ev.c_f ?_ | with_reducible refine Ev.c_br (fun _ => ?_) (fun _ => ?_) | ((with_reducible refine Ev.br_not ?_); conv => whnf) | with_reducible refine Ev.br_dec (fun _ => ?_) (fun _ => ?_) | with_reducible refine Ev.br (fun _ => ?_) (fun _ => ?_) | with_reducible refine Ev.eo_ret ?_ | with_reducible refine Ev.eo_norm ?_ | with_reducible refine Ev.t_norm ?_ | with_reducible refine Ev.k_seq ?_ | ((with_reducible refine Ev.k_reg (hs := []) (tabOK' _ _) (fun Q hQ => ?_)); (simp only [Ev.runE_cons, Ev.runE_nil]); conv => whnf) | (with_reducible refine hQ _ ?_; clear hQ Q) | with_reducible refine Ev.k_cond rfl ?_ | with_reducible refine Ev.k_skip ?_ | with_reducible refine Ev.k_block ?_ | with_reducible refine Ev.k_exit ?_ | with_reducible refine Ev.k_ret ?_ | with_reducible refine Ev.t_ret ?_ | with_reducible refine Ev.t_exit ?_ | with_reducible refine Ev.b_norm ?_ | with_reducible refine Ev.b_ret ?_ | with_reducible refine Ev.b_here ?_ | with_reducible refine Ev.b_off rfl ?_ | ((with_reducible refine Ev.e_ret (fun F hF => ?_)); conv => whnf) | ((with_reducible refine Ev.e_norm (fun F hF => ?_)); conv => whnf) | (with_reducible refine hF _ ?_; clear hF F) | ((refine Ev.call_det (may_call _ _ _ (hs _ (List.getElem_mem hi))) rfl rfl ?_); conv => whnf) | ((refine Ev.call_det (opIn_call l hl) rfl rfl ?_); conv => whnf) | ((refine Ev.el_map0 ?_ (fun hi => ?_)); rotate_left; conv => whnf) | ((refine Ev.el_mapN ?_ (fun hi => ?_)); rotate_left; conv => whnf) | (refine Ev.Side.of ?_; exact Nat.le_of_ble_eq_true rfl) | (refine Ev.Side.of ?_; omega) | (refine Ev.app_one ?_ rfl ?_ (by decide) <;> (first | omega | (simp; done) | (simp; omega))) | (refine Ev.app_nil1 rfl (by decide)) | (refine Ev.app_ys ?_ ?_ ?_ (by decide) <;> (first | omega | exact sps_all _ | exact bts_all _ | exact ints_all _ | exact spss_all _ | (simp; done) | (simp; omega))) | (refine Ev.app_nil ?_ ?_ (by decide) <;> (first | omega | exact sps_all _ | exact bts_all _ | exact ints_all _ | exact spss_all _ | (simp; done) | (simp; omega))) | (refine Ev.Side.of ?_; first | omega | (simp; done) | (simp; omega)))
  · rename_i heq
    exact Ev.again (k - 1) ⟨[(0, _), (2, _), (6, _), (7, _), (8, .v (.int .i64 ((i + 1 : Nat) : Int)))], [], c + 8⟩ (by omega) ⟨rfl, rfl, rfl, rfl, Ev.slot_int rfl (by rw [Ev.wrap64]; omega), trivial⟩ trivial (Nat.le_refl _) ⟨i + 1, c + 8, rfl, by omega, firstE_ok mayS l hi hf heq⟩
  · rename_i hne
    exact ⟨congrArg (fun b => AV.v (Value.int .i64 b)) (by unfold opMayF; rw [firstE_at mayS l hi hf hne]; exact (if_neg hne).symm), rfl⟩
  all_goals
    have ei : i = l.length := by omega
    subst ei
    rw [List.take_of_length_le (Nat.le_refl _)] at hf
    refine ⟨congrArg (fun b => AV.v (Value.int .i64 b)) ?_, rfl⟩
    simp [opMayF, hf, inW, *]
theorem r4may_call (l : List Sp) (hl : l.length ≤ 1000000000) (hs : Small l) : CallW env 25 [.lst 3 (sps l)] (fun r hs => r = .v (.int .i64 (opMayF l)) ∧ hs = []) := by
  have hsl := sps_len l
  refine Ev.func tabOK [0, 2, 3, 4, 8, 17, 21] 0 Tryd.func25 rfl rfl (by simp [Tryd.ntmps25]) (by rfl) (comp25 _ rfl) (rs := [.tmp 2]) rfl ?_; rw [cc25]; show Ev.Wp _ _ _ _ ⟨[(0, _)], [], 0⟩
  repeat' (first | ((with_reducible refine Ev.sided ?_ ?_); (conv => whnf)) | ((with_reducible refine Ev.w_put ?_); (conv => whnf)) | ((with_reducible refine Ev.w_step ?_); (conv => whnf)) | ((with_reducible refine Ev.w_opt ?_); (conv => whnf)) | ((with_reducible refine Ev.chk_k ?_ ?_); rotate_left; (focus first | rfl | (simp only [Ev.nbeq, Bool.and_true, Bool.true_and, Bool.not_false]; done) | ((repeat' (first | exact Ev.nbeq _ | rfl | refine Bool.and_eq_true_iff.2 ⟨?_, ?_⟩)); done)); conv => whnf) | with_reducible refine Ev.c_dec (fun _ => ?_) (fun _ => ?_) | with_reducible refine Ev.c_not ?_ | with_reducible refine Ev.c_t ?_ | with_reducible refine Ev.c_f ?_ | with_reducible refine Ev.c_br (fun _ => ?_) (fun _ => ?_) | ((with_reducible refine Ev.br_not ?_); conv => whnf) | with_reducible refine Ev.br_dec (fun _ => ?_) (fun _ => ?_) | with_reducible refine Ev.br (fun _ => ?_) (fun _ => ?_) | with_reducible refine Ev.eo_ret ?_ | with_reducible refine Ev.eo_norm ?_ | with_reducible refine Ev.t_norm ?_ | with_reducible refine Ev.k_seq ?_ | ((with_reducible refine Ev.k_reg (hs := []) (tabOK' _ _) (fun Q hQ => ?_)); (simp only [Ev.runE_cons, Ev.runE_nil]); conv => whnf) | (with_reducible refine hQ _ ?_; clear hQ Q) | with_reducible refine Ev.k_cond rfl ?_ | with_reducible refine Ev.k_skip ?_ | with_reducible refine Ev.k_block ?_ | with_reducible refine Ev.k_exit ?_ | with_reducible refine Ev.k_ret ?_ | with_reducible refine Ev.t_ret ?_ | with_reducible refine Ev.t_exit ?_ | with_reducible refine Ev.b_norm ?_ | with_reducible refine Ev.b_ret ?_ | with_reducible refine Ev.b_here ?_ | with_reducible refine Ev.b_off rfl ?_ | ((with_reducible refine Ev.e_ret (fun F hF => ?_)); conv => whnf) | ((with_reducible refine Ev.e_norm (fun F hF => ?_)); conv => whnf) | (with_reducible refine hF _ ?_; clear hF F) | ((refine Ev.el_map0 ?_ (fun hi => ?_)); rotate_left; conv => whnf) | ((refine Ev.el_mapN ?_ (fun hi => ?_)); rotate_left; conv => whnf) | (refine Ev.Side.of ?_; exact Nat.le_of_ble_eq_true rfl) | (refine Ev.Side.of ?_; omega) | (refine Ev.app_one ?_ rfl ?_ (by decide) <;> (first | omega | (simp; done) | (simp; omega))) | (refine Ev.app_nil1 rfl (by decide)) | (refine Ev.app_ys ?_ ?_ ?_ (by decide) <;> (first | omega | exact sps_all _ | exact bts_all _ | exact ints_all _ | exact spss_all _ | (simp; done) | (simp; omega))) | (refine Ev.app_nil ?_ ?_ (by decide) <;> (first | omega | exact sps_all _ | exact bts_all _ | exact ints_all _ | exact spss_all _ | (simp; done) | (simp; omega))) | (refine Ev.Side.of ?_; first | omega | (simp; done) | (simp; omega)))
  refine Ev.loop (fun k s => ∃ i c : Nat, s = ⟨[(0, .lst 3 (sps l)), (2, .v (.int .i64 0)), (3, .v (.int .i64 i))], [], c⟩ ∧ k + i = l.length ∧ firstE mayS (l.take i) = 0) ?_ ?_
  · exact Ev.to ⟨[(0, _), (2, _), (3, .v (.int .i64 ((0 : Nat) : Int)))], [], 0⟩ ⟨rfl, rfl, rfl, trivial⟩ trivial (Nat.le_refl _) ⟨l.length, 0, 0, rfl, by omega, rfl⟩
  rintro k s1 ⟨i, c, rfl, hk, hf⟩
  repeat' (first | ((with_reducible refine Ev.sided ?_ ?_); (conv => whnf)) | ((with_reducible refine Ev.w_put ?_); (conv => whnf)) | ((with_reducible refine Ev.w_step ?_); (conv => whnf)) | ((with_reducible refine Ev.w_opt ?_); (conv => whnf)) | ((with_reducible refine Ev.chk_k ?_ ?_); rotate_left; (focus first | rfl | (simp only [Ev.nbeq, Bool.and_true, Bool.true_and, Bool.not_false]; done) | ((repeat' (first | exact Ev.nbeq _ | rfl | refine Bool.and_eq_true_iff.2 ⟨?_, ?_⟩)); done)); conv => whnf) | with_reducible refine Ev.c_dec (fun _ => ?_) (fun _ => ?_) | with_reducible refine Ev.c_not ?_ | with_reducible refine Ev.c_t ?_ | with_reducible refine Ev.c_f ?_ | with_reducible refine Ev.c_br (fun _ => ?_) (fun _ => ?_) | ((with_reducible refine Ev.br_not ?_); conv => whnf) | with_reducible refine Ev.br_dec (fun _ => ?_) (fun _ => ?_) | with_reducible refine Ev.br (fun _ => ?_) (fun _ => ?_) | with_reducible refine Ev.eo_ret ?_ | with_reducible refine Ev.eo_norm ?_ | with_reducible refine Ev.t_norm ?_ | with_reducible refine Ev.k_seq ?_ | ((with_reducible refine Ev.k_reg (hs := []) (tabOK' _ _) (fun Q hQ => ?_)); (simp only [Ev.runE_cons, Ev.runE_nil]); conv => whnf) | (with_reducible refine hQ _ ?_; clear hQ Q) | with_reducible refine Ev.k_cond rfl ?_ | with_reducible refine Ev.k_skip ?_ | with_reducible refine Ev.k_block ?_ | with_reducible refine Ev.k_exit ?_ | with_reducible refine Ev.k_ret ?_ | with_reducible refine Ev.t_ret ?_ | with_reducible refine Ev.t_exit ?_ | with_reducible refine Ev.b_norm ?_ | with_reducible refine Ev.b_ret ?_ | with_reducible refine Ev.b_here ?_ | with_reducible refine Ev.b_off rfl ?_ | ((with_reducible refine Ev.e_ret (fun F hF => ?_)); conv => whnf) | ((with_reducible refine Ev.e_norm (fun F hF => ?_)); conv => whnf) | (with_reducible refine hF _ ?_; clear hF F) | ((refine Ev.call_det (rmay_call _ _ _ (hs _ (List.getElem_mem hi))) rfl rfl ?_); conv => whnf) | ((refine Ev.call_det (r4in_call l hl) rfl rfl ?_); conv => whnf) | ((refine Ev.el_map0 ?_ (fun hi => ?_)); rotate_left; conv => whnf) | ((refine Ev.el_mapN ?_ (fun hi => ?_)); rotate_left; conv => whnf) | (refine Ev.Side.of ?_; exact Nat.le_of_ble_eq_true rfl) | (refine Ev.Side.of ?_; omega) | (refine Ev.app_one ?_ rfl ?_ (by decide) <;> (first | omega | (simp; done) | (simp; omega))) | (refine Ev.app_nil1 rfl (by decide)) | (refine Ev.app_ys ?_ ?_ ?_ (by decide) <;> (first | omega | exact sps_all _ | exact bts_all _ | exact ints_all _ | exact spss_all _ | (simp; done) | (simp; omega))) | (refine Ev.app_nil ?_ ?_ (by decide) <;> (first | omega | exact sps_all _ | exact bts_all _ | exact ints_all _ | exact spss_all _ | (simp; done) | (simp; omega))) | (refine Ev.Side.of ?_; first | omega | (simp; done) | (simp; omega)))
  · rename_i heq
    exact Ev.again (k - 1) ⟨[(0, _), (2, _), (3, .v (.int .i64 ((i + 1 : Nat) : Int)))], [], c⟩ (by omega) ⟨rfl, rfl, Ev.slot_int rfl (by rw [Ev.wrap64]; omega), trivial⟩ trivial (Nat.le_refl _) ⟨i + 1, c, rfl, by omega, firstE_ok mayS l hi hf heq⟩
  · rename_i hne
    exact ⟨congrArg (fun b => AV.v (Value.int .i64 b)) (by unfold opMayF; rw [firstE_at mayS l hi hf hne]; exact (if_neg hne).symm), rfl⟩
  all_goals
    have ei : i = l.length := by omega
    subst ei
    rw [List.take_of_length_le (Nat.le_refl _)] at hf
    refine ⟨congrArg (fun b => AV.v (Value.int .i64 b)) ?_, rfl⟩
    simp [opMayF, hf, inW, *]
theorem keep_call (n : Int) : CallW env 22 [.v (.int .i64 n)] (fun r hs => r = .tup [keepA n, .v (.int .i64 (keepE n))] ∧ hs = []) := by
  refine Ev.func tabOK [0, 2, 3, 9, 11] 0 Tryd.func22 rfl rfl (by simp [Tryd.ntmps22]) (by rfl) (comp22 _ rfl) (rs := [.tmp 2, .tmp 3]) rfl ?_; rw [cc22]; show Ev.Wp _ _ _ _ ⟨[(0, _)], [], 0⟩
  repeat' (first | ((with_reducible refine Ev.sided ?_ ?_); (conv => whnf)) | ((with_reducible refine Ev.w_put ?_); (conv => whnf)) | ((with_reducible refine Ev.w_step ?_); (conv => whnf)) | ((with_reducible refine Ev.w_opt ?_); (conv => whnf)) | ((with_reducible refine Ev.chk_k ?_ ?_); rotate_left; (focus first | rfl | (simp only [Ev.nbeq, Bool.and_true, Bool.true_and, Bool.not_false]; done) | ((repeat' (first | exact Ev.nbeq _ | rfl | refine Bool.and_eq_true_iff.2 ⟨?_, ?_⟩)); done)); conv => whnf) | with_reducible refine Ev.c_dec (fun _ => ?_) (fun _ => ?_) | with_reducible refine Ev.c_not ?_ | with_reducible refine Ev.c_t ?_ | with_reducible refine Ev.c_f ?_ | with_reducible refine Ev.c_br (fun _ => ?_) (fun _ => ?_) | ((with_reducible refine Ev.br_not ?_); conv => whnf) | with_reducible refine Ev.br_dec (fun _ => ?_) (fun _ => ?_) | with_reducible refine Ev.br (fun _ => ?_) (fun _ => ?_) | with_reducible refine Ev.eo_ret ?_ | with_reducible refine Ev.eo_norm ?_ | with_reducible refine Ev.t_norm ?_ | with_reducible refine Ev.k_seq ?_ | ((with_reducible refine Ev.k_reg (hs := []) (tabOK' _ _) (fun Q hQ => ?_)); (simp only [Ev.runE_cons, Ev.runE_nil]); conv => whnf) | (with_reducible refine hQ _ ?_; clear hQ Q) | with_reducible refine Ev.k_cond rfl ?_ | with_reducible refine Ev.k_skip ?_ | with_reducible refine Ev.k_block ?_ | with_reducible refine Ev.k_exit ?_ | with_reducible refine Ev.k_ret ?_ | with_reducible refine Ev.t_ret ?_ | with_reducible refine Ev.t_exit ?_ | with_reducible refine Ev.b_norm ?_ | with_reducible refine Ev.b_ret ?_ | with_reducible refine Ev.b_here ?_ | with_reducible refine Ev.b_off rfl ?_ | ((with_reducible refine Ev.e_ret (fun F hF => ?_)); conv => whnf) | ((with_reducible refine Ev.e_norm (fun F hF => ?_)); conv => whnf) | (with_reducible refine hF _ ?_; clear hF F) | ((refine Ev.el_map0 ?_ (fun hi => ?_)); rotate_left; conv => whnf) | ((refine Ev.el_mapN ?_ (fun hi => ?_)); rotate_left; conv => whnf) | (refine Ev.Side.of ?_; exact Nat.le_of_ble_eq_true rfl) | (refine Ev.Side.of ?_; omega) | (refine Ev.app_one ?_ rfl ?_ (by decide) <;> (first | omega | (simp; done) | (simp; omega))) | (refine Ev.app_nil1 rfl (by decide)) | (refine Ev.app_ys ?_ ?_ ?_ (by decide) <;> (first | omega | exact sps_all _ | exact bts_all _ | exact ints_all _ | exact spss_all _ | (simp; done) | (simp; omega))) | (refine Ev.app_nil ?_ ?_ (by decide) <;> (first | omega | exact sps_all _ | exact bts_all _ | exact ints_all _ | exact spss_all _ | (simp; done) | (simp; omega))) | (refine Ev.Side.of ?_; first | omega | (simp; done) | (simp; omega)))
  all_goals (refine ⟨?_, rfl⟩; simp [keepA, keepE, resOf, nilA, sps, spC, *]; try omega)
theorem r4keep_call (n : Int) : CallW env 23 [.v (.int .i64 n)] (fun r hs => r = .tup [keepA n, .v (.int .i64 (keepE n))] ∧ hs = []) := by
  refine Ev.func tabOK [0, 2, 3, 9, 11] 0 Tryd.func23 rfl rfl (by simp [Tryd.ntmps23]) (by rfl) (comp23 _ rfl) (rs := [.tmp 2, .tmp 3]) rfl ?_; rw [cc23]; show Ev.Wp _ _ _ _ ⟨[(0, _)], [], 0⟩
  repeat' (first | ((with_reducible refine Ev.sided ?_ ?_); (conv => whnf)) | ((with_reducible refine Ev.w_put ?_); (conv => whnf)) | ((with_reducible refine Ev.w_step ?_); (conv => whnf)) | ((with_reducible refine Ev.w_opt ?_); (conv => whnf)) | ((with_reducible refine Ev.chk_k ?_ ?_); rotate_left; (focus first | rfl | (simp only [Ev.nbeq, Bool.and_true, Bool.true_and, Bool.not_false]; done) | ((repeat' (first | exact Ev.nbeq _ | rfl | refine Bool.and_eq_true_iff.2 ⟨?_, ?_⟩)); done)); conv => whnf) | with_reducible refine Ev.c_dec (fun _ => ?_) (fun _ => ?_) | with_reducible refine Ev.c_not ?_ | with_reducible refine Ev.c_t ?_ | with_reducible refine Ev.c_f ?_ | with_reducible refine Ev.c_br (fun _ => ?_) (fun _ => ?_) | ((with_reducible refine Ev.br_not ?_); conv => whnf) | with_reducible refine Ev.br_dec (fun _ => ?_) (fun _ => ?_) | with_reducible refine Ev.br (fun _ => ?_) (fun _ => ?_) | with_reducible refine Ev.eo_ret ?_ | with_reducible refine Ev.eo_norm ?_ | with_reducible refine Ev.t_norm ?_ | with_reducible refine Ev.k_seq ?_ | ((with_reducible refine Ev.k_reg (hs := []) (tabOK' _ _) (fun Q hQ => ?_)); (simp only [Ev.runE_cons, Ev.runE_nil]); conv => whnf) | (with_reducible refine hQ _ ?_; clear hQ Q) | with_reducible refine Ev.k_cond rfl ?_ | with_reducible refine Ev.k_skip ?_ | with_reducible refine Ev.k_block ?_ | with_reducible refine Ev.k_exit ?_ | with_reducible refine Ev.k_ret ?_ | with_reducible refine Ev.t_ret ?_ | with_reducible refine Ev.t_exit ?_ | with_reducible refine Ev.b_norm ?_ | with_reducible refine Ev.b_ret ?_ | with_reducible refine Ev.b_here ?_ | with_reducible refine Ev.b_off rfl ?_ | ((with_reducible refine Ev.e_ret (fun F hF => ?_)); conv => whnf) | ((with_reducible refine Ev.e_norm (fun F hF => ?_)); conv => whnf) | (with_reducible refine hF _ ?_; clear hF F) | ((refine Ev.el_map0 ?_ (fun hi => ?_)); rotate_left; conv => whnf) | ((refine Ev.el_mapN ?_ (fun hi => ?_)); rotate_left; conv => whnf) | (refine Ev.Side.of ?_; exact Nat.le_of_ble_eq_true rfl) | (refine Ev.Side.of ?_; omega) | (refine Ev.app_one ?_ rfl ?_ (by decide) <;> (first | omega | (simp; done) | (simp; omega))) | (refine Ev.app_nil1 rfl (by decide)) | (refine Ev.app_ys ?_ ?_ ?_ (by decide) <;> (first | omega | exact sps_all _ | exact bts_all _ | exact ints_all _ | exact spss_all _ | (simp; done) | (simp; omega))) | (refine Ev.app_nil ?_ ?_ (by decide) <;> (first | omega | exact sps_all _ | exact bts_all _ | exact ints_all _ | exact spss_all _ | (simp; done) | (simp; omega))) | (refine Ev.Side.of ?_; first | omega | (simp; done) | (simp; omega)))
  all_goals (refine ⟨?_, rfl⟩; simp [keepA, keepE, resOf, nilA, sps, spC, *]; try omega)
end Go.Proofs.YtdgpilapblipbaaDoor.Abs

/- Operations: the same, the reference's ones that may be, the law's head. -/
namespace Go.Proofs.YtdgpilapblipbaaDoor.Abs
open Go
set_option maxRecDepth 100000
set_option linter.unusedSimpArgs false
set_option linter.unusedVariables false
attribute [local irreducible] Ev.FinL Ev.brC Ev.Side Ev.Wp Ev.Again Ev.To Ev.Fin
open Go.Lib Go.RowKit
def cc30 : CC := (.seq (.reg 0 [⟨0, some 4, (.assign (.const (Value.bool false))), none⟩]) (.seq (.seq (.reg 1 [⟨0, some 6, (.move (.tmp 0)), none⟩, ⟨1, some 7, (.call { callee := .builtin .len, args := #[.tmp 6], argTypes := #[35] }), none⟩, ⟨2, some 8, (.move (.tmp 1)), none⟩, ⟨3, some 9, (.call { callee := .builtin .len, args := #[.tmp 8], argTypes := #[35] }), none⟩, ⟨4, some 10, (.binOp .neq 3 (.tmp 7) (.tmp 9) 3), none⟩]) (.cond (.tmp 10) (.seq (.reg 2 [⟨0, some 4, (.assign (.const (Value.bool false))), none⟩]) .ret) .skip)) (.seq (.seq (.reg 3 [⟨0, some 5, (.assign (.const (Value.int .i64 0))), none⟩]) (.block 0 (.loop (.seq (.seq (.reg 4 [⟨0, some 11, (.move (.tmp 5)), none⟩, ⟨1, some 12, (.move (.tmp 0)), none⟩, ⟨2, some 13, (.call { callee := .builtin .len, args := #[.tmp 12], argTypes := #[35] }), none⟩, ⟨3, some 14, (.binOp .lss 3 (.tmp 11) (.tmp 13) 3), none⟩]) (.cond (.tmp 14) .skip (.exit 0))) (.seq (.block 1 (.seq (.draw 6 [⟨0, some 17, (.move (.tmp 0)), none⟩, ⟨1, some 18, (.move (.tmp 5)), none⟩, ⟨2, some 19, (.indexAddr 35 (.tmp 17) (.tmp 18)), none⟩, ⟨3, some 20, (.load 23 (.tmp 19)), none⟩, ⟨4, some 21, (.move (.tmp 1)), none⟩, ⟨5, some 22, (.move (.tmp 5)), none⟩, ⟨6, some 23, (.indexAddr 35 (.tmp 21) (.tmp 22)), none⟩, ⟨7, some 24, (.load 23 (.tmp 23)), none⟩, ⟨8, some 25, (.binOp .neq 23 (.tmp 20) (.tmp 24) 23), none⟩] [[], [], [0, 1], [2], [], [], [4, 5], [6], [3, 7]]) (.cond (.tmp 25) (.seq (.reg 7 [⟨0, some 4, (.assign (.const (Value.bool false))), none⟩]) .ret) .skip))) (.reg 5 [⟨0, some 15, (.move (.tmp 5)), none⟩, ⟨1, some 16, (.binOp .add 3 (.tmp 15) (.const (Value.int .i64 1)) 3), none⟩, ⟨2, some 5, (.assign (.tmp 16)), none⟩])))))) (.seq (.reg 8 [⟨0, some 4, (.assign (.const (Value.bool true))), none⟩]) .ret))))
theorem comp30 : ∀ c, Tryd.f30.body = some c → comp c = cc30 := by
  intro c h
  have : c = Tryd.f30.body.get rfl := by rw [← Option.some_inj, ← h]; rfl
  rw [this]; rfl
instance (a b : Sp) : Decidable (a = b) := decidable_of_iff (a.k = b.k ∧ a.n = b.n ∧ a.t = b.t) (by cases a; cases b; simp)
theorem same_call (l m : List Sp) (hl : l.length ≤ 1000000000) : CallW env 30 [.lst 3 (sps l), .lst 3 (sps m)] (fun r hs => r = .v (.bool (decide (l = m))) ∧ hs = []) := by
  have hsl := sps_len l
  have hsm := sps_len m
  refine Ev.func tabOK [0, 1, 4, 5, 10, 14, 25] 0 Tryd.func30 rfl rfl (by simp [Tryd.ntmps30]) (by rfl) (comp30 _ rfl) (rs := [.tmp 4]) rfl ?_; rw [cc30]; show Ev.Wp _ _ _ _ ⟨[(0, _), (1, _)], [], 0⟩
  repeat' (first | ((with_reducible refine Ev.sided ?_ ?_); (conv => whnf)) | ((with_reducible refine Ev.w_put ?_); (conv => whnf)) | ((with_reducible refine Ev.w_step ?_); (conv => whnf)) | ((with_reducible refine Ev.w_opt ?_); (conv => whnf)) | ((with_reducible refine Ev.chk_k ?_ ?_); rotate_left; (focus first | rfl | (simp only [Ev.nbeq, Bool.and_true, Bool.true_and, Bool.not_false]; done) | ((repeat' (first | exact Ev.nbeq _ | rfl | refine Bool.and_eq_true_iff.2 ⟨?_, ?_⟩)); done)); conv => whnf) | with_reducible refine Ev.c_dec (fun _ => ?_) (fun _ => ?_) | with_reducible refine Ev.c_not ?_ | with_reducible refine Ev.c_t ?_ | with_reducible refine Ev.c_f ?_ | with_reducible refine Ev.c_br (fun _ => ?_) (fun _ => ?_) | ((with_reducible refine Ev.br_not ?_); conv => whnf) | with_reducible refine Ev.br_dec (fun _ => ?_) (fun _ => ?_) | with_reducible refine Ev.br (fun _ => ?_) (fun _ => ?_) | with_reducible refine Ev.eo_ret ?_ | with_reducible refine Ev.eo_norm ?_ | with_reducible refine Ev.t_norm ?_ | with_reducible refine Ev.k_seq ?_ | ((with_reducible refine Ev.k_reg (hs := []) (tabOK' _ _) (fun Q hQ => ?_)); (simp only [Ev.runE_cons, Ev.runE_nil]); conv => whnf) | (with_reducible refine hQ _ ?_; clear hQ Q) | with_reducible refine Ev.k_cond rfl ?_ | with_reducible refine Ev.k_skip ?_ | with_reducible refine Ev.k_block ?_ | with_reducible refine Ev.k_exit ?_ | with_reducible refine Ev.k_ret ?_ | with_reducible refine Ev.t_ret ?_ | with_reducible refine Ev.t_exit ?_ | with_reducible refine Ev.b_norm ?_ | with_reducible refine Ev.b_ret ?_ | with_reducible refine Ev.b_here ?_ | with_reducible refine Ev.b_off rfl ?_ | ((with_reducible refine Ev.e_ret (fun F hF => ?_)); conv => whnf) | ((with_reducible refine Ev.e_norm (fun F hF => ?_)); conv => whnf) | (with_reducible refine hF _ ?_; clear hF F) | ((refine Ev.k_draw (id := 6) (hs := []) (tabOK' _ _) (mixed' _ _) [0, 1, 2, 3, 4, 5, 6, 7, 8] (by decide) rfl rfl (fun Q hQ => ?_)); (simp only [Ev.runE_cons, Ev.runE_nil]); conv => whnf) | ((refine Ev.el_map0 ?_ (fun hi => ?_)); rotate_left; conv => whnf) | ((refine Ev.el_mapN ?_ (fun hi => ?_)); rotate_left; conv => whnf) | (refine Ev.Side.of ?_; exact Nat.le_of_ble_eq_true rfl) | (refine Ev.Side.of ?_; omega) | (refine Ev.app_one ?_ rfl ?_ (by decide) <;> (first | omega | (simp; done) | (simp; omega))) | (refine Ev.app_nil1 rfl (by decide)) | (refine Ev.app_ys ?_ ?_ ?_ (by decide) <;> (first | omega | exact sps_all _ | exact bts_all _ | exact ints_all _ | exact spss_all _ | (simp; done) | (simp; omega))) | (refine Ev.app_nil ?_ ?_ (by decide) <;> (first | omega | exact sps_all _ | exact bts_all _ | exact ints_all _ | exact spss_all _ | (simp; done) | (simp; omega))) | (refine Ev.Side.of ?_; first | omega | (simp; done) | (simp; omega)))
  rotate_left
  · exact ⟨congrArg (fun b => AV.v (Value.bool b)) (decide_eq_false (by rintro rfl; omega)).symm, rfl⟩
  have hlen : l.length = m.length := by omega
  refine Ev.loop (fun k s => ∃ i : Nat, s = ⟨[(0, .lst 3 (sps l)), (1, .lst 3 (sps m)), (4, .v (.bool false)), (5, .v (.int .i64 i))], [], 0⟩ ∧ k + i = l.length ∧ l.take i = m.take i) ?_ ?_
  · exact Ev.to ⟨[(0, _), (1, _), (4, _), (5, .v (.int .i64 ((0 : Nat) : Int)))], [], 0⟩ ⟨rfl, rfl, rfl, rfl, trivial⟩ trivial (Nat.le_refl _) ⟨l.length, 0, rfl, by omega, rfl⟩
  rintro k s1 ⟨i, rfl, hk, hf⟩
  repeat' (first | ((with_reducible refine Ev.sided ?_ ?_); (conv => whnf)) | ((with_reducible refine Ev.w_put ?_); (conv => whnf)) | ((with_reducible refine Ev.w_step ?_); (conv => whnf)) | ((with_reducible refine Ev.w_opt ?_); (conv => whnf)) | ((with_reducible refine Ev.chk_k ?_ ?_); rotate_left; (focus first | rfl | (simp only [Ev.nbeq, Bool.and_true, Bool.true_and, Bool.not_false]; done) | ((repeat' (first | exact Ev.nbeq _ | rfl | refine Bool.and_eq_true_iff.2 ⟨?_, ?_⟩)); done)); conv => whnf) | with_reducible refine Ev.c_dec (fun _ => ?_) (fun _ => ?_) | with_reducible refine Ev.c_not ?_ | with_reducible refine Ev.c_t ?_ | with_reducible refine Ev.c_f ?_ | with_reducible refine Ev.c_br (fun _ => ?_) (fun _ => ?_) | ((with_reducible refine Ev.br_not ?_); conv => whnf) | with_reducible refine Ev.br_dec (fun _ => ?_) (fun _ => ?_) | with_reducible refine Ev.br (fun _ => ?_) (fun _ => ?_) | with_reducible refine Ev.eo_ret ?_ | with_reducible refine Ev.eo_norm ?_ | with_reducible refine Ev.t_norm ?_ | with_reducible refine Ev.k_seq ?_ | ((with_reducible refine Ev.k_reg (hs := []) (tabOK' _ _) (fun Q hQ => ?_)); (simp only [Ev.runE_cons, Ev.runE_nil]); conv => whnf) | (with_reducible refine hQ _ ?_; clear hQ Q) | with_reducible refine Ev.k_cond rfl ?_ | with_reducible refine Ev.k_skip ?_ | with_reducible refine Ev.k_block ?_ | with_reducible refine Ev.k_exit ?_ | with_reducible refine Ev.k_ret ?_ | with_reducible refine Ev.t_ret ?_ | with_reducible refine Ev.t_exit ?_ | with_reducible refine Ev.b_norm ?_ | with_reducible refine Ev.b_ret ?_ | with_reducible refine Ev.b_here ?_ | with_reducible refine Ev.b_off rfl ?_ | ((with_reducible refine Ev.e_ret (fun F hF => ?_)); conv => whnf) | ((with_reducible refine Ev.e_norm (fun F hF => ?_)); conv => whnf) | (with_reducible refine hF _ ?_; clear hF F) | ((refine Ev.k_draw (id := 6) (hs := []) (tabOK' _ _) (mixed' _ _) [0, 1, 2, 3, 4, 5, 6, 7, 8] (by decide) rfl rfl (fun Q hQ => ?_)); (simp only [Ev.runE_cons, Ev.runE_nil]); conv => whnf) | ((refine Ev.el_map0 ?_ (fun hi => ?_)); rotate_left; conv => whnf) | ((refine Ev.el_mapN ?_ (fun hi => ?_)); rotate_left; conv => whnf) | (refine Ev.Side.of ?_; exact Nat.le_of_ble_eq_true rfl) | (refine Ev.Side.of ?_; omega) | (refine Ev.app_one ?_ rfl ?_ (by decide) <;> (first | omega | (simp; done) | (simp; omega))) | (refine Ev.app_nil1 rfl (by decide)) | (refine Ev.app_ys ?_ ?_ ?_ (by decide) <;> (first | omega | exact sps_all _ | exact bts_all _ | exact ints_all _ | exact spss_all _ | (simp; done) | (simp; omega))) | (refine Ev.app_nil ?_ ?_ (by decide) <;> (first | omega | exact sps_all _ | exact bts_all _ | exact ints_all _ | exact spss_all _ | (simp; done) | (simp; omega))) | (refine Ev.Side.of ?_; first | omega | (simp; done) | (simp; omega)))
  · rename_i heq
    have hm' : i < m.length := by omega
    exact Ev.again (k - 1) ⟨[(0, _), (1, _), (4, _), (5, .v (.int .i64 ((i + 1 : Nat) : Int)))], [], 0⟩ (by omega) ⟨rfl, rfl, rfl, Ev.slot_int rfl (by rw [Ev.wrap64]; omega), trivial⟩ trivial (Nat.le_refl _) ⟨i + 1, rfl, by omega, by
      rw [List.take_succ_eq_append_getElem (by omega), List.take_succ_eq_append_getElem hm', hf]
      congr 2
      obtain ⟨e1, e2, e3⟩ := heq
      cases h1 : l[i]; cases h2 : m[i]; simp_all⟩
  · rename_i hne
    exact ⟨congrArg (fun b => AV.v (Value.bool b)) (decide_eq_false (by rintro rfl; simp at hne)).symm, rfl⟩
  · have : i = l.length := by omega
    subst this
    rw [List.take_of_length_le (Nat.le_refl _), List.take_of_length_le (by omega)] at hf
    exact ⟨congrArg (fun b => AV.v (Value.bool b)) (decide_eq_true hf).symm, rfl⟩
def cutS (b : Nat) (s : Sp) : Sp := ⟨s.k, s.n, s.t.extract 0 (min s.t.size b)⟩
end Go.Proofs.YtdgpilapblipbaaDoor.Abs

/- Operations: one that may be, made of any spans. -/
namespace Go.Proofs.YtdgpilapblipbaaDoor.Abs
open Go
set_option maxRecDepth 100000
set_option linter.unusedSimpArgs false
set_option linter.unusedVariables false
attribute [local irreducible] Ev.FinL Ev.brC Ev.Side Ev.Wp Ev.Again Ev.To Ev.Fin
open Go.Lib Go.RowKit
def cc31 : CC := (.seq (.reg 0 [⟨0, some 4, (.assign (.const (Value.slice none 0 0))), none⟩]) (.seq (.reg 1 [⟨0, some 8, (.buildSlice 35 0 #[]), none⟩, ⟨1, some 5, (.assign (.tmp 8)), none⟩]) (.seq (.seq (.reg 2 [⟨0, some 6, (.assign (.const (Value.int .i64 0))), none⟩]) (.block 0 (.loop (.seq (.seq (.reg 3 [⟨0, some 9, (.move (.tmp 6)), none⟩, ⟨1, some 10, (.move (.tmp 0)), none⟩, ⟨2, some 11, (.call { callee := .builtin .len, args := #[.tmp 10], argTypes := #[35] }), none⟩, ⟨3, some 12, (.binOp .lss 3 (.tmp 9) (.tmp 11) 3), none⟩, ⟨4, some 13, (.move (.tmp 12)), none⟩, ⟨5, some 14, (.move (.tmp 6)), (some (13, true))⟩, ⟨6, some 15, (.binOp .lss 3 (.tmp 14) (.const (Value.int .i64 12)) 3), (some (13, true))⟩, ⟨7, some 16, (.pick (.tmp 13) (.tmp 15) (.const (Value.bool false))), none⟩]) (.cond (.tmp 16) .skip (.exit 0))) (.seq (.block 1 (.seq (.reg 5 [⟨0, some 19, (.move (.tmp 0)), none⟩, ⟨1, some 20, (.move (.tmp 6)), none⟩, ⟨2, some 21, (.indexAddr 35 (.tmp 19) (.tmp 20)), none⟩, ⟨3, some 22, (.fieldAddr 23 (.tmp 21) 0), none⟩, ⟨4, some 23, (.load 3 (.tmp 22)), none⟩, ⟨5, some 24, (.binOp .rem 3 (.tmp 23) (.const (Value.int .i64 3)) 3), none⟩, ⟨6, some 25, (.binOp .add 3 (.tmp 24) (.const (Value.int .i64 3)) 3), none⟩, ⟨7, some 26, (.binOp .rem 3 (.tmp 25) (.const (Value.int .i64 3)) 3), none⟩, ⟨8, some 27, (.binOp .add 3 (.const (Value.int .i64 1)) (.tmp 26) 3), none⟩, ⟨9, some 28, (.build 23 #[(0, .tmp 27)]), none⟩, ⟨10, some 7, (.alloc 23), none⟩, ⟨11, none, (.store 23 (.tmp 7) (.tmp 28)), none⟩]) (.seq (.seq (.reg 6 [⟨0, some 29, (.fieldAddr 23 (.tmp 7) 0), none⟩, ⟨1, some 30, (.load 3 (.tmp 29)), none⟩, ⟨2, some 31, (.binOp .eql 3 (.tmp 30) (.const (Value.int .i64 2)) 3), none⟩]) (.cond (.tmp 31) (.draw 7 [⟨0, some 32, (.move (.tmp 0)), none⟩, ⟨1, some 33, (.move (.tmp 6)), none⟩, ⟨2, some 34, (.indexAddr 35 (.tmp 32) (.tmp 33)), none⟩, ⟨3, some 35, (.fieldAddr 23 (.tmp 34) 2), none⟩, ⟨4, some 36, (.load 9 (.tmp 35)), none⟩, ⟨5, some 37, (.move (.tmp 0)), none⟩, ⟨6, some 38, (.move (.tmp 6)), none⟩, ⟨7, some 39, (.indexAddr 35 (.tmp 37) (.tmp 38)), none⟩, ⟨8, some 40, (.fieldAddr 23 (.tmp 39) 2), none⟩, ⟨9, some 41, (.load 9 (.tmp 40)), none⟩, ⟨10, some 42, (.call { callee := .builtin .len, args := #[.tmp 41], argTypes := #[9] }), none⟩, ⟨11, some 43, (.call { callee := .builtin .min, args := #[.tmp 42, .const (Value.int .i64 6)], argTypes := #[3, 3] }), none⟩, ⟨12, some 44, (.slice 9 (.tmp 36) none (some (.tmp 43)) none), none⟩, ⟨13, some 45, (.call { callee := .value (.func 18), args := #[.tmp 44], argTypes := #[9] }), none⟩, ⟨14, some 46, (.fieldAddr 23 (.tmp 7) 2), none⟩, ⟨15, none, (.store 9 (.tmp 46) (.tmp 45)), none⟩] [[], [], [0, 1], [2], [3], [], [], [5, 6], [7], [8], [9], [10], [4, 11], [12], [0, 1, 2, 3, 4, 5, 6, 7, 8, 9, 10, 11, 12, 13], [14, 13, 13, 0, 1, 2, 3, 4, 5, 6, 7, 8, 9, 10, 11, 12, 13]]) (.seq (.reg 8 [⟨0, some 47, (.move (.tmp 0)), none⟩, ⟨1, some 48, (.move (.tmp 6)), none⟩, ⟨2, some 49, (.indexAddr 35 (.tmp 47) (.tmp 48)), none⟩, ⟨3, some 50, (.fieldAddr 23 (.tmp 49) 1), none⟩, ⟨4, some 51, (.load 3 (.tmp 50)), none⟩, ⟨5, some 52, (.binOp .rem 3 (.tmp 51) (.const (Value.int .i64 7)) 3), none⟩, ⟨6, some 53, (.binOp .add 3 (.tmp 52) (.const (Value.int .i64 7)) 3), none⟩, ⟨7, some 54, (.binOp .rem 3 (.tmp 53) (.const (Value.int .i64 7)) 3), none⟩, ⟨8, some 55, (.move (.tmp 1)), none⟩, ⟨9, some 56, (.call { callee := .builtin .min, args := #[.tmp 54, .tmp 55], argTypes := #[3, 3] }), none⟩, ⟨10, some 57, (.fieldAddr 23 (.tmp 7) 1), none⟩, ⟨11, none, (.store 3 (.tmp 57) (.tmp 56)), none⟩]) (.reg 9 [⟨0, some 58, (.move (.tmp 1)), none⟩, ⟨1, some 59, (.fieldAddr 23 (.tmp 7) 1), none⟩, ⟨2, some 60, (.load 3 (.tmp 59)), none⟩, ⟨3, some 61, (.binOp .sub 3 (.tmp 58) (.tmp 60) 3), none⟩, ⟨4, some 1, (.assign (.tmp 61)), none⟩])))) (.reg 10 [⟨0, some 62, (.move (.tmp 5)), none⟩, ⟨1, some 63, (.load 23 (.tmp 7)), none⟩, ⟨2, some 64, (.buildSlice 35 1 #[(0, .tmp 63)]), none⟩, ⟨3, some 65, (.call { callee := .builtin .append, args := #[.tmp 62, .tmp 64], argTypes := #[35, 35] }), none⟩, ⟨4, some 5, (.assign (.tmp 65)), none⟩])))) (.reg 4 [⟨0, some 17, (.move (.tmp 6)), none⟩, ⟨1, some 18, (.binOp .add 3 (.tmp 17) (.const (Value.int .i64 1)) 3), none⟩, ⟨2, some 6, (.assign (.tmp 18)), none⟩])))))) (.seq (.seq (.reg 11 [⟨0, some 66, (.move (.tmp 1)), none⟩, ⟨1, some 67, (.binOp .gtr 3 (.tmp 66) (.const (Value.int .i64 0)) 3), none⟩]) (.cond (.tmp 67) (.reg 12 [⟨0, some 68, (.move (.tmp 5)), none⟩, ⟨1, some 69, (.move (.tmp 1)), none⟩, ⟨2, some 70, (.build 23 #[(0, .const (Value.int .i64 1)), (1, .tmp 69)]), none⟩, ⟨3, some 71, (.buildSlice 35 1 #[(0, .tmp 70)]), none⟩, ⟨4, some 72, (.call { callee := .builtin .append, args := #[.tmp 68, .tmp 71], argTypes := #[35, 35] }), none⟩, ⟨5, some 5, (.assign (.tmp 72)), none⟩]) .skip)) (.seq (.reg 13 [⟨0, some 73, (.move (.tmp 5)), none⟩, ⟨1, some 4, (.assign (.tmp 73)), none⟩]) .ret)))))
theorem comp31 : ∀ c, Tryd.f31.body = some c → comp c = cc31 := by
  intro c h
  have : c = Tryd.f31.body.get rfl := by rw [← Option.some_inj, ← h]; rfl
  rw [this]; rfl
theorem kmod (k : Int) : IntKind.i64.wrap (1 + (IntKind.i64.wrap (k.tmod 3 + 3)).tmod 3) = 1 + k % 3 := by
  have h : k.tmod 3 = k % 3 ∨ k.tmod 3 = k % 3 - 3 := by rw [Int.tmod_eq_emod]; split <;> simp
  have h1 : IntKind.i64.wrap (k.tmod 3 + 3) = k.tmod 3 + 3 := by rw [Ev.wrap64]; omega
  rw [h1, Int.tmod_eq_emod_of_nonneg (by omega), Ev.wrap64]; omega
theorem nmod (k : Int) : (IntKind.i64.wrap (k.tmod 7 + 7)).tmod 7 = k % 7 := by
  have h : k.tmod 7 = k % 7 ∨ k.tmod 7 = k % 7 - 7 := by rw [Int.tmod_eq_emod]; split <;> simp
  have h1 : IntKind.i64.wrap (k.tmod 7 + 7) = k.tmod 7 + 7 := by rw [Ev.wrap64]; omega
  rw [h1, Int.tmod_eq_emod_of_nonneg (by omega)]; omega
def fitSp (s : Sp) (n : Int) : Sp := if 1 + s.k % 3 = 2 then ⟨2, 0, fitS (s.t.extract 0 (min s.t.size 6))⟩ else ⟨1 + s.k % 3, min (s.n % 7) n, ⟨#[]⟩⟩
def fitStep (p : List Sp × Int) (s : Sp) : List Sp × Int := (p.1 ++ [fitSp s p.2], p.2 - (fitSp s p.2).n)
def fitP (l : List Sp) (n : Int) : List Sp × Int := l.foldl fitStep ([], n)
theorem fitP_succ (l : List Sp) (n : Int) {i : Nat} (h : i < l.length) : fitP (l.take (i + 1)) n = fitStep (fitP (l.take i) n) l[i] := by
  unfold fitP; rw [List.take_succ_eq_append_getElem h, List.foldl_append]; rfl
def fitO (l : List Sp) (n : Int) : List Sp := (fitP (l.take 12) n).1 ++ if 0 < (fitP (l.take 12) n).2 then [⟨1, (fitP (l.take 12) n).2, ⟨#[]⟩⟩] else []
theorem fitP_len (l : List Sp) : ∀ a, (l.foldl fitStep a).1.length = a.1.length + l.length := by
  induction l with
  | nil => simp
  | cons s l ih => intro a; rw [List.foldl_cons, ih]; simp [fitStep]; omega
theorem fitP_n (l : List Sp) : ∀ a : List Sp × Int, 0 ≤ a.2 → 0 ≤ (l.foldl fitStep a).2 ∧ (l.foldl fitStep a).2 ≤ a.2 := by
  induction l with
  | nil => intro a h; simp; omega
  | cons s l ih =>
    intro a h
    rw [List.foldl_cons]
    have h1 : 0 ≤ (fitStep a s).2 ∧ (fitStep a s).2 ≤ a.2 := by
      simp only [fitStep, fitSp]; split
      · simp; omega
      · simp only; omega
    obtain ⟨h2, h3⟩ := ih _ h1.1
    omega
theorem fit4_call (l : List Sp) (n : Int) (hn : 0 ≤ n ∧ n ≤ 2000000) : CallW env 31 [.lst 3 (sps l), .v (.int .i64 n)] (fun r hs => r = .lst 3 (sps (fitO l n)) ∧ hs = []) := by
  have hsl := sps_len l
  have hm := Ev.max_big
  refine Ev.func tabOK [0, 1, 4, 5, 6, 7, 16, 31, 67] 0 Tryd.func31 rfl rfl (by simp [Tryd.ntmps31]) (by rfl) (comp31 _ rfl) (rs := [.tmp 4]) rfl ?_; rw [cc31]; show Ev.Wp _ _ _ _ ⟨[(0, _), (1, _)], [], 0⟩
  repeat' (first | ((with_reducible refine Ev.sided ?_ ?_); (conv => whnf)) | ((with_reducible refine Ev.w_put ?_); (conv => whnf)) | ((with_reducible refine Ev.w_step ?_); (conv => whnf)) | ((with_reducible refine Ev.w_opt ?_); (conv => whnf)) | ((with_reducible refine Ev.chk_k ?_ ?_); rotate_left; (focus first | rfl | (simp only [Ev.nbeq, Bool.and_true, Bool.true_and, Bool.not_false]; done) | ((repeat' (first | exact Ev.nbeq _ | rfl | refine Bool.and_eq_true_iff.2 ⟨?_, ?_⟩)); done)); conv => whnf) | with_reducible refine Ev.c_dec (fun _ => ?_) (fun _ => ?_) | with_reducible refine Ev.c_not ?_ | with_reducible refine Ev.c_t ?_ | with_reducible refine Ev.c_f ?_ | with_reducible refine Ev.c_br (fun _ => ?_) (fun _ => ?_) | ((with_reducible refine Ev.br_not ?_); conv => whnf) | with_reducible refine Ev.br_dec (fun _ => ?_) (fun _ => ?_) | with_reducible refine Ev.br (fun _ => ?_) (fun _ => ?_) | with_reducible refine Ev.eo_ret ?_ | with_reducible refine Ev.eo_norm ?_ | with_reducible refine Ev.t_norm ?_ | with_reducible refine Ev.k_seq ?_ | ((with_reducible refine Ev.k_reg (hs := []) (tabOK' _ _) (fun Q hQ => ?_)); (simp only [Ev.runE_cons, Ev.runE_nil]); conv => whnf) | (with_reducible refine hQ _ ?_; clear hQ Q) | with_reducible refine Ev.k_cond rfl ?_ | with_reducible refine Ev.k_skip ?_ | with_reducible refine Ev.k_block ?_ | with_reducible refine Ev.k_exit ?_ | with_reducible refine Ev.k_ret ?_ | with_reducible refine Ev.t_ret ?_ | with_reducible refine Ev.t_exit ?_ | with_reducible refine Ev.b_norm ?_ | with_reducible refine Ev.b_ret ?_ | with_reducible refine Ev.b_here ?_ | with_reducible refine Ev.b_off rfl ?_ | ((with_reducible refine Ev.e_ret (fun F hF => ?_)); conv => whnf) | ((with_reducible refine Ev.e_norm (fun F hF => ?_)); conv => whnf) | (with_reducible refine hF _ ?_; clear hF F) | ((refine Ev.k_draw (id := 7) (hs := []) (tabOK' _ _) (mixed' _ _) [0, 1, 2, 3, 4, 5, 6, 7, 8, 9, 10, 11, 12, 13, 14, 15] (by decide) rfl rfl (fun Q hQ => ?_)); (simp only [Ev.runE_cons, Ev.runE_nil]); conv => whnf) | ((refine Ev.el_map0 ?_ (fun hi => ?_)); rotate_left; conv => whnf) | ((refine Ev.el_mapN ?_ (fun hi => ?_)); rotate_left; conv => whnf) | (refine Ev.Side.of ?_; exact Nat.le_of_ble_eq_true rfl) | (refine Ev.Side.of ?_; omega) | (refine Ev.Side.of ?_; simp only [Ev.wrap64]; omega) | (refine Ev.app_one ?_ rfl ?_ (by decide) <;> (first | omega | (simp; done) | (simp; omega))) | (refine Ev.app_nil1 rfl (by decide)) | (refine Ev.app_ys ?_ ?_ ?_ (by decide) <;> (first | omega | exact sps_all _ | exact bts_all _ | exact ints_all _ | exact spss_all _ | (simp; done) | (simp; omega))) | (refine Ev.app_nil ?_ ?_ (by decide) <;> (first | omega | exact sps_all _ | exact bts_all _ | exact ints_all _ | exact spss_all _ | (simp; done) | (simp; omega))) | (refine Ev.Side.of ?_; first | omega | (simp; done) | (simp; omega)))
  refine Ev.loop (fun k s => ∃ (i v c : Nat), s = ⟨[(0, .lst 3 (sps l)), (1, .v (.int .i64 (fitP (l.take i) n).2)), (4, .v (.slice none 0 0)), (5, .own 512 v 0 i), (6, .v (.int .i64 i))], [(512, ⟨3, 23, v, 0, false, sps (fitP (l.take i) n).1⟩)], c⟩ ∧ k + i = 12 ∧ i ≤ l.length) ?_ ?_
  · (refine Ev.to _ ?hs1 ?hh1 ?hc1 ⟨12, 0, ?_, ?_, rfl, ?hp1⟩; (case hs1 => ((repeat' (first | exact trivial | refine And.intro ?_ ?_)) <;> (refine Ev.slot_eq rfl ?_; first | with_reducible rfl | (refine Ev.int_eq ?_; first | omega | (simp only [Ev.wrap64, Ev.wrap8, Ev.wrap32, Int.toNat_natCast] at *; omega) | (rfl) | rfl) | (refine Ev.own_eq ?_; first | with_reducible rfl | omega | (rfl)) | (refine Ev.blk_eq ?_; first | with_reducible rfl | (rfl) | rfl) | (rfl) | rfl))); (case hh1 => ((repeat' (first | exact trivial | refine And.intro ?_ ?_)) <;> (refine Ev.slot_eq rfl ?_; first | with_reducible rfl | (refine Ev.int_eq ?_; first | omega | (simp only [Ev.wrap64, Ev.wrap8, Ev.wrap32, Int.toNat_natCast] at *; omega) | (rfl) | rfl) | (refine Ev.own_eq ?_; first | with_reducible rfl | omega | (rfl)) | (refine Ev.blk_eq ?_; first | with_reducible rfl | (rfl) | rfl) | (rfl) | rfl))); (case hc1 => exact Nat.le_refl _))
    exact ⟨rfl, by omega⟩
  rintro k s1 ⟨i, v, c, rfl, hk, hi'⟩
  have hlen : (fitP (l.take i) n).1.length = i := by unfold fitP; rw [fitP_len]; simp; omega
  have hsl2 := sps_len (fitP (l.take i) n).1
  obtain ⟨hn0, hn1⟩ : 0 ≤ (fitP (l.take i) n).2 ∧ (fitP (l.take i) n).2 ≤ n := fitP_n (l.take i) ([], n) hn.1
  repeat' (first | ((with_reducible refine Ev.sided ?_ ?_); (conv => whnf)) | ((with_reducible refine Ev.w_put ?_); (conv => whnf)) | ((with_reducible refine Ev.w_step ?_); (conv => whnf)) | ((with_reducible refine Ev.w_opt ?_); (conv => whnf)) | ((with_reducible refine Ev.chk_k ?_ ?_); rotate_left; (focus first | rfl | (simp only [Ev.nbeq, Bool.and_true, Bool.true_and, Bool.not_false]; done) | ((repeat' (first | exact Ev.nbeq _ | rfl | refine Bool.and_eq_true_iff.2 ⟨?_, ?_⟩)); done)); conv => whnf) | with_reducible refine Ev.c_dec (fun _ => ?_) (fun _ => ?_) | with_reducible refine Ev.c_not ?_ | with_reducible refine Ev.c_t ?_ | with_reducible refine Ev.c_f ?_ | with_reducible refine Ev.c_br (fun _ => ?_) (fun _ => ?_) | ((with_reducible refine Ev.br_not ?_); conv => whnf) | with_reducible refine Ev.br_dec (fun _ => ?_) (fun _ => ?_) | with_reducible refine Ev.br (fun _ => ?_) (fun _ => ?_) | with_reducible refine Ev.eo_ret ?_ | with_reducible refine Ev.eo_norm ?_ | with_reducible refine Ev.t_norm ?_ | with_reducible refine Ev.k_seq ?_ | ((with_reducible refine Ev.k_reg (hs := []) (tabOK' _ _) (fun Q hQ => ?_)); (simp only [Ev.runE_cons, Ev.runE_nil]); conv => whnf) | (with_reducible refine hQ _ ?_; clear hQ Q) | with_reducible refine Ev.k_cond rfl ?_ | with_reducible refine Ev.k_skip ?_ | with_reducible refine Ev.k_block ?_ | with_reducible refine Ev.k_exit ?_ | with_reducible refine Ev.k_ret ?_ | with_reducible refine Ev.t_ret ?_ | with_reducible refine Ev.t_exit ?_ | with_reducible refine Ev.b_norm ?_ | with_reducible refine Ev.b_ret ?_ | with_reducible refine Ev.b_here ?_ | with_reducible refine Ev.b_off rfl ?_ | ((with_reducible refine Ev.e_ret (fun F hF => ?_)); conv => whnf) | ((with_reducible refine Ev.e_norm (fun F hF => ?_)); conv => whnf) | (with_reducible refine hF _ ?_; clear hF F) | ((refine Ev.call_det (fit_call _ (by rw [ByteArray.size_extract]; omega)) rfl rfl ?_); conv => whnf) | ((refine Ev.k_draw (id := 7) (hs := []) (tabOK' _ _) (mixed' _ _) [0, 1, 2, 3, 4, 5, 6, 7, 8, 9, 10, 11, 12, 13, 14, 15] (by decide) rfl rfl (fun Q hQ => ?_)); (simp only [Ev.runE_cons, Ev.runE_nil]); conv => whnf) | ((refine Ev.el_map0 ?_ (fun hi => ?_)); rotate_left; conv => whnf) | ((refine Ev.el_mapN ?_ (fun hi => ?_)); rotate_left; conv => whnf) | (refine Ev.Side.of ?_; exact Nat.le_of_ble_eq_true rfl) | (refine Ev.Side.of ?_; omega) | (refine Ev.Side.of ?_; simp only [Ev.wrap64]; omega) | (refine Ev.app_one ?_ rfl ?_ (by decide) <;> (first | omega | (simp; done) | (simp; omega))) | (refine Ev.app_nil1 rfl (by decide)) | (refine Ev.app_ys ?_ ?_ ?_ (by decide) <;> (first | omega | exact sps_all _ | exact bts_all _ | exact ints_all _ | exact spss_all _ | (simp; done) | (simp; omega))) | (refine Ev.app_nil ?_ ?_ (by decide) <;> (first | omega | exact sps_all _ | exact bts_all _ | exact ints_all _ | exact spss_all _ | (simp; done) | (simp; omega))) | (refine Ev.Side.of ?_; first | omega | (simp; done) | (simp; omega)))
  · rename_i hk2 _
    rw [kmod] at hk2
    have hs := fitP_succ l n hi
    have hf : fitSp l[i] (fitP (l.take i) n).2 = ⟨2, 0, fitS (l[i].t.extract 0 (min l[i].t.size 6))⟩ := if_pos hk2
    have hx : (min (l[i].t.size : Int) 6).toNat = min l[i].t.size 6 := by omega
    (refine Ev.again (k - 1) _ ?hm2 ?hs2 ?hh2 ?hc2 ⟨i + 1, ?_, ?_, rfl, ?hp2⟩; (case hs2 => ((repeat' (first | exact trivial | refine And.intro ?_ ?_)) <;> (refine Ev.slot_eq rfl ?_; first | with_reducible rfl | (refine Ev.int_eq ?_; first | omega | (simp only [Ev.wrap64, Ev.wrap8, Ev.wrap32, Int.toNat_natCast] at *; omega) | (first | (simp; done) | (rw [hs]; simp [fitStep, hf, sps, spC, kmod, hk2, hx]; done)) | rfl) | (refine Ev.own_eq ?_; first | with_reducible rfl | omega | (first | (simp; done) | (rw [hs]; simp [fitStep, hf, sps, spC, kmod, hk2, hx]; done))) | (refine Ev.blk_eq ?_; first | with_reducible rfl | (first | (simp; done) | (rw [hs]; simp [fitStep, hf, sps, spC, kmod, hk2, hx]; done)) | rfl) | (first | (simp; done) | (rw [hs]; simp [fitStep, hf, sps, spC, kmod, hk2, hx]; done)) | rfl))); (case hh2 => ((repeat' (first | exact trivial | refine And.intro ?_ ?_)) <;> (refine Ev.slot_eq rfl ?_; first | with_reducible rfl | (refine Ev.int_eq ?_; first | omega | (simp only [Ev.wrap64, Ev.wrap8, Ev.wrap32, Int.toNat_natCast] at *; omega) | (first | (simp; done) | (rw [hs]; simp [fitStep, hf, sps, spC, kmod, hk2, hx]; done)) | rfl) | (refine Ev.own_eq ?_; first | with_reducible rfl | omega | (first | (simp; done) | (rw [hs]; simp [fitStep, hf, sps, spC, kmod, hk2, hx]; done))) | (refine Ev.blk_eq ?_; first | with_reducible rfl | (first | (simp; done) | (rw [hs]; simp [fitStep, hf, sps, spC, kmod, hk2, hx]; done)) | rfl) | (first | (simp; done) | (rw [hs]; simp [fitStep, hf, sps, spC, kmod, hk2, hx]; done)) | rfl))); (case hc2 => exact Nat.le_refl _); (case hm2 => omega))
    exact ⟨by omega, by omega⟩
  · rename_i hk2
    rw [kmod] at hk2
    have hs := fitP_succ l n hi
    have hf : fitSp l[i] (fitP (l.take i) n).2 = ⟨1 + l[i].k % 3, min (l[i].n % 7) (fitP (l.take i) n).2, ⟨#[]⟩⟩ := if_neg hk2
    have hw : IntKind.i64.wrap ((fitP (l.take i) n).2 - min (l[i].n % 7) (fitP (l.take i) n).2) = (fitP (l.take i) n).2 - min (l[i].n % 7) (fitP (l.take i) n).2 := by rw [Ev.wrap64]; omega
    (refine Ev.again (k - 1) _ ?hm3 ?hs3 ?hh3 ?hc3 ⟨i + 1, ?_, ?_, rfl, ?hp3⟩; (case hs3 => ((repeat' (first | exact trivial | refine And.intro ?_ ?_)) <;> (refine Ev.slot_eq rfl ?_; first | with_reducible rfl | (refine Ev.int_eq ?_; first | omega | (simp only [Ev.wrap64, Ev.wrap8, Ev.wrap32, Int.toNat_natCast] at *; omega) | (first | (simp; done) | (rw [hs]; simp [fitStep, hf, sps, spC, kmod, nmod]; done) | (rw [hs, nmod]; simp only [fitStep, hf]; exact hw)) | rfl) | (refine Ev.own_eq ?_; first | with_reducible rfl | omega | (first | (simp; done) | (rw [hs]; simp [fitStep, hf, sps, spC, kmod, nmod]; done) | (rw [hs, nmod]; simp only [fitStep, hf]; exact hw))) | (refine Ev.blk_eq ?_; first | with_reducible rfl | (first | (simp; done) | (rw [hs]; simp [fitStep, hf, sps, spC, kmod, nmod]; done) | (rw [hs, nmod]; simp only [fitStep, hf]; exact hw)) | rfl) | (first | (simp; done) | (rw [hs]; simp [fitStep, hf, sps, spC, kmod, nmod]; done) | (rw [hs, nmod]; simp only [fitStep, hf]; exact hw)) | rfl))); (case hh3 => ((repeat' (first | exact trivial | refine And.intro ?_ ?_)) <;> (refine Ev.slot_eq rfl ?_; first | with_reducible rfl | (refine Ev.int_eq ?_; first | omega | (simp only [Ev.wrap64, Ev.wrap8, Ev.wrap32, Int.toNat_natCast] at *; omega) | (first | (simp; done) | (rw [hs]; simp [fitStep, hf, sps, spC, kmod, nmod]; done) | (rw [hs, nmod]; simp only [fitStep, hf]; exact hw)) | rfl) | (refine Ev.own_eq ?_; first | with_reducible rfl | omega | (first | (simp; done) | (rw [hs]; simp [fitStep, hf, sps, spC, kmod, nmod]; done) | (rw [hs, nmod]; simp only [fitStep, hf]; exact hw))) | (refine Ev.blk_eq ?_; first | with_reducible rfl | (first | (simp; done) | (rw [hs]; simp [fitStep, hf, sps, spC, kmod, nmod]; done) | (rw [hs, nmod]; simp only [fitStep, hf]; exact hw)) | rfl) | (first | (simp; done) | (rw [hs]; simp [fitStep, hf, sps, spC, kmod, nmod]; done) | (rw [hs, nmod]; simp only [fitStep, hf]; exact hw)) | rfl))); (case hc3 => exact Nat.le_refl _); (case hm3 => omega))
    exact ⟨by omega, by omega⟩
  all_goals
    have hT : l.take 12 = l.take i := by
      first
        | rw [show i = 12 by omega]
        | rw [List.take_of_length_le (by simp at *; omega), List.take_of_length_le (by simp at *; omega)]
    refine ⟨Ev.lst_eq (Ev.take_all ?_ ?_), rfl⟩
    · simp [hlen, sps_len]
    · simp [fitO, hT, sps, spC, *]

theorem wrap_add (a b : Int) : IntKind.i64.wrap (IntKind.i64.wrap a + b) = IntKind.i64.wrap (a + b) := by simp only [Ev.wrap64]; omega
theorem wrap_id {a : Int} (h : -9223372036854775808 ≤ a ∧ a < 9223372036854775808) : IntKind.i64.wrap a = a := by rw [Ev.wrap64]; omega
def sumI (f : Sp → Int) (l : List Sp) : Int := (l.map f).sum
theorem sumI_nil (f : Sp → Int) : sumI f [] = 0 := rfl
theorem sumI_cons (f : Sp → Int) (s : Sp) (l : List Sp) : sumI f (s :: l) = f s + sumI f l := by simp [sumI]
theorem sumI_app (f : Sp → Int) (a b : List Sp) : sumI f (a ++ b) = sumI f a + sumI f b := by simp [sumI]
theorem sumW_wrap (f : Sp → Int) : ∀ (l : List Sp) (a : Int), l.foldl (fun a s => IntKind.i64.wrap (a + f s)) (IntKind.i64.wrap a) = IntKind.i64.wrap (a + sumI f l)
  | [], a => by simp [sumI]
  | s :: l, a => by rw [List.foldl_cons, wrap_add, sumW_wrap f l, sumI_cons, Int.add_assoc]
theorem sumW_eq (f : Sp → Int) (l : List Sp) : sumW f l = IntKind.i64.wrap (sumI f l) := by
  have h := sumW_wrap f l 0
  rw [Int.zero_add] at h; rw [← h]; rfl
theorem sumW_app (f : Sp → Int) (a b : List Sp) : sumW f (a ++ b) = IntKind.i64.wrap (sumW f a + sumW f b) := by
  rw [sumW_eq, sumW_eq, sumW_eq, sumI_app]; simp only [Ev.wrap64]; omega
theorem sumI_bound (f : Sp → Int) (b : Int) : ∀ l : List Sp, (∀ s ∈ l, 0 ≤ f s ∧ f s ≤ b) → 0 ≤ sumI f l ∧ sumI f l ≤ b * l.length
  | [], _ => by simp [sumI]
  | s :: l, h => by
    have h1 := h s (by simp)
    have h2 := sumI_bound f b l (fun s hs => h s (by simp [hs]))
    rw [sumI_cons, List.length_cons]
    have : b * ((l.length + 1 : Nat) : Int) = b * l.length + b := by rw [Int.natCast_succ, Int.mul_add, Int.mul_one]
    omega
def inS (s : Sp) : Int := inF s.k s.n
def outS (s : Sp) : Int := outF s.k s.n s.t
theorem fitS_valid (t : ByteArray) : validD (fitS t).data.toList = true := fit_valid t
theorem fitSp_put {s : Sp} (n : Int) (h : 1 + s.k % 3 = 2) : fitSp s n = ⟨2, 0, fitS (s.t.extract 0 (min s.t.size 6))⟩ := if_pos h
theorem fitSp_not {s : Sp} (n : Int) (h : ¬ 1 + s.k % 3 = 2) : fitSp s n = ⟨1 + s.k % 3, min (s.n % 7) n, ⟨#[]⟩⟩ := if_neg h
theorem fitSp_may (s : Sp) {n : Int} (h : 0 ≤ n ∧ n ≤ 1048576) : mayS (fitSp s n) = 0 := by
  by_cases hk : 1 + s.k % 3 = 2
  · rw [fitSp_put n hk]; simp [mayS, mayF, fitS_valid]
  · rw [fitSp_not n hk]
    have : 1 + s.k % 3 = 1 ∨ 1 + s.k % 3 = 3 := by omega
    simp only [mayS, mayF, this, if_true]
    rw [if_neg (by omega)]
theorem fitSp_n (s : Sp) {n : Int} (h : 0 ≤ n) : 0 ≤ (fitSp s n).n ∧ (fitSp s n).n ≤ 6 ∧ (fitSp s n).n ≤ n ∧ inS (fitSp s n) = (fitSp s n).n := by
  by_cases hk : 1 + s.k % 3 = 2
  · rw [fitSp_put n hk]; simp [inS, inF]; omega
  · rw [fitSp_not n hk]
    have : 1 + s.k % 3 = 1 ∨ 1 + s.k % 3 = 3 := by omega
    simp only [inS, inF, this, if_true, and_true]; omega
theorem fitSp_t (s : Sp) (n : Int) : (fitSp s n).t.size ≤ 24 := by
  unfold fitSp; split
  · have h := enc_len (eight_fit (s.t.extract 0 (min s.t.size 6)) (s.t.extract 0 (min s.t.size 6)).size)
    rw [fitL_len, ← strI_list, len_list] at h
    have e : (s.t.extract 0 (min s.t.size 6)).size ≤ 6 := by rw [ByteArray.size_extract]; omega
    show (fitS _).size ≤ 24
    unfold fitS; omega
  · show (⟨#[]⟩ : ByteArray).size ≤ 24; decide
theorem fitP_all (l : List Sp) : ∀ a : List Sp × Int, (0 ≤ a.2 ∧ a.2 ≤ 1048576) → (∀ s ∈ a.1, mayS s = 0 ∧ s.t.size ≤ 24 ∧ 0 ≤ inS s ∧ inS s ≤ 6) →
    (∀ s ∈ (l.foldl fitStep a).1, mayS s = 0 ∧ s.t.size ≤ 24 ∧ 0 ≤ inS s ∧ inS s ≤ 6) ∧ sumI inS (l.foldl fitStep a).1 + (l.foldl fitStep a).2 = sumI inS a.1 + a.2 := by
  induction l with
  | nil => intro a _ h; exact ⟨h, rfl⟩
  | cons s l ih =>
    intro a ha h
    rw [List.foldl_cons]
    obtain ⟨b1, b2, b3, b4⟩ := fitSp_n s ha.1
    have key := ih (fitStep a s) (by simp only [fitStep]; omega) (by
      intro x hx
      simp only [fitStep, List.mem_append, List.mem_singleton] at hx
      rcases hx with hx | rfl
      · exact h x hx
      · exact ⟨fitSp_may s ha, fitSp_t s _, by omega, by omega⟩)
    refine ⟨key.1, ?_⟩
    rw [key.2]
    simp only [fitStep, sumI_app, sumI_cons, sumI_nil, b4]; omega
theorem fitO_all (l : List Sp) {n : Int} (hn : 0 ≤ n ∧ n ≤ 1048576) : (∀ s ∈ fitO l n, mayS s = 0 ∧ s.t.size ≤ 24 ∧ 0 ≤ inS s ∧ inS s ≤ 1048576) ∧ sumI inS (fitO l n) = n ∧ (fitO l n).length ≤ 13 := by
  obtain ⟨h1, h2⟩ := fitP_all (l.take 12) ([], n) hn (by simp)
  obtain ⟨h3, h4⟩ := fitP_n (l.take 12) ([], n) hn.1
  have h5 := fitP_len (l.take 12) ([], n)
  rw [show (l.take 12).foldl fitStep ([], n) = fitP (l.take 12) n from rfl] at h1 h2 h3 h4 h5
  rw [sumI_nil] at h2
  simp only at h2 h3 h4 h5
  unfold fitO
  refine ⟨?_, ?_, ?_⟩
  · intro s hs
    rw [List.mem_append] at hs
    rcases hs with hs | hs
    · obtain ⟨a, b, c, d⟩ := h1 s hs; exact ⟨a, b, c, by omega⟩
    · split at hs
      · simp only [List.mem_singleton] at hs; subst hs
        refine ⟨?_, ?_, ?_⟩
        · simp only [mayS, mayF, true_or, if_true]; rw [if_neg (by omega)]
        · show (⟨#[]⟩ : ByteArray).size ≤ 24; decide
        · simp only [inS, inF, true_or, if_true]; omega
      · simp at hs
  · rw [sumI_app]
    split
    · simp only [sumI_cons, sumI_nil, inS, inF, true_or, if_true]; omega
    · rw [sumI_nil]; omega
  · rw [List.length_append, h5]
    have : (l.take 12).length ≤ 12 := by rw [List.length_take]; omega
    split <;> simp <;> omega
theorem firstE_zero (f : Sp → Int) : ∀ l : List Sp, (∀ s ∈ l, f s = 0) → firstE f l = 0
  | [], _ => rfl
  | s :: l, h => by simp only [firstE]; rw [if_pos (h s (by simp))]; exact firstE_zero f l (fun x hx => h x (by simp [hx]))
theorem inW_eq (l : List Sp) : inW l = IntKind.i64.wrap (sumI inS l) := sumW_eq _ _
theorem outW_eq (l : List Sp) : outW l = IntKind.i64.wrap (sumI outS l) := sumW_eq _ _
theorem fitO_in (l : List Sp) {n : Int} (hn : 0 ≤ n ∧ n ≤ 1048576) : inW (fitO l n) = n := by
  rw [inW_eq, (fitO_all l hn).2.1]; exact wrap_id (by omega)
theorem fitO_may (l : List Sp) {n : Int} (hn : 0 ≤ n ∧ n ≤ 1048576) : opMayF (fitO l n) = 0 := by
  unfold opMayF
  rw [firstE_zero _ _ (fun s hs => ((fitO_all l hn).1 s hs).1), if_pos rfl, fitO_in l hn, if_neg (by omega)]
theorem fitO_small (l : List Sp) {n : Int} (hn : 0 ≤ n ∧ n ≤ 1048576) : Small (fitO l n) := fun s hs => by have := ((fitO_all l hn).1 s hs).2.1; omega
end Go.Proofs.YtdgpilapblipbaaDoor.Abs
