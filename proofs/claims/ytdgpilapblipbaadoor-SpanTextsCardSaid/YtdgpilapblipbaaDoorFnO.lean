/- The reference's texts, made of code points. -/
import Derived.Test.YtdgpilapblipbaaDoorFnW
namespace Go.Proofs.YtdgpilapblipbaaDoor.Abs
open Go
set_option maxRecDepth 100000
set_option linter.unusedSimpArgs false
set_option linter.unusedVariables false
attribute [local irreducible] Ev.FinL Ev.brC Ev.Side Ev.Wp Ev.Again Ev.To Ev.Fin
open Go.Lib Go.RowKit
def rns (l : List Int) : List (List AV) := l.map fun n => [.v (.int .i32 n)]
def bys (l : List Int) : List (List AV) := l.map fun n => [.v (.int .u8 n)]
def encI (n : Int) : List Int :=
  if sizeF n = 1 then [n] else if sizeF n = 2 then [192 + n / 64, 128 + n % 64] else if sizeF n = 3 then [224 + n / 4096, 128 + n / 64 % 64, 128 + n % 64]
  else if sizeF n = 4 then [240 + n / 262144, 128 + n / 4096 % 64, 128 + n / 64 % 64, 128 + n % 64] else []
def strI (l : List Int) : ByteArray := ⟨(l.map fun n => UInt8.ofNat n.toNat).toArray⟩
theorem toBytes : ∀ l : List Int, (bys l).mapM toByte = some (l.map fun n => UInt8.ofNat n.toNat)
  | [] => rfl
  | n :: l => by
    have := toBytes l
    simp only [bys] at this ⊢
    simp only [List.map_cons, List.mapM_cons, this, toByte]; rfl
theorem w1 {n : Int} (h : 0 ≤ n ∧ n < 128) : IntKind.u8.wrap n = n := by rw [Ev.wrap8]; omega
theorem wa {n c b : Int} (hn : 0 ≤ n) (hb : 0 ≤ c ∧ c + n / b < 256 ∧ 0 ≤ n / b) : IntKind.u8.wrap (IntKind.i64.wrap (c + IntKind.i64.wrap (n.tdiv b))) = c + n / b := by
  rw [Int.tdiv_eq_ediv_of_nonneg hn, Ev.wrap64, Ev.wrap64, Ev.wrap8]; omega
theorem wb {n : Int} (hn : 0 ≤ n) : IntKind.u8.wrap (IntKind.i64.wrap (128 + n.tmod 64)) = 128 + n % 64 := by
  rw [Int.tmod_eq_emod_of_nonneg hn, Ev.wrap64, Ev.wrap8]; omega
theorem wc {n b : Int} (hn : 0 ≤ n) (hb : 0 ≤ n / b ∧ n / b < 1114112) : IntKind.u8.wrap (IntKind.i64.wrap (128 + (IntKind.i64.wrap (n.tdiv b)).tmod 64)) = 128 + n / b % 64 := by
  have e : IntKind.i64.wrap (n.tdiv b) = n / b := by rw [Int.tdiv_eq_ediv_of_nonneg hn, Ev.wrap64]; omega
  rw [e, wb hb.1]
theorem sizeF_b {n m : Int} (h : sizeF n = m) (hm : 0 < m) : 0 ≤ n ∧ n < 1114112 ∧ (m = 1 → n < 128) ∧ (m = 2 → n < 2048) ∧ (m = 3 → n < 65536) := by
  unfold sizeF at h; omega
def cc36 : CC := (.seq (.reg 0 [⟨0, some 2, (.assign (.const (.string { data := #[] }))), none⟩]) (.seq (.reg 1 [⟨0, some 6, (.buildSlice 33 0 #[]), none⟩, ⟨1, some 3, (.assign (.tmp 6)), none⟩]) (.seq (.seq (.reg 2 [⟨0, some 4, (.assign (.const (.int .i64 0))), none⟩]) (.block 0 (.loop (.seq (.seq (.reg 3 [⟨0, some 7, (.move (.tmp 4)), none⟩, ⟨1, some 8, (.move (.tmp 0)), none⟩, ⟨2, some 9, (.call { callee := .builtin .len, args := #[.tmp 8], argTypes := #[54] }), none⟩, ⟨3, some 10, (.binOp .lss 3 (.tmp 7) (.tmp 9) 3), none⟩]) (.cond (.tmp 10) .skip (.exit 0))) (.seq (.block 1 (.seq (.reg 5 [⟨0, some 13, (.move (.tmp 0)), none⟩, ⟨1, some 14, (.move (.tmp 4)), none⟩, ⟨2, some 15, (.indexAddr 54 (.tmp 13) (.tmp 14)), none⟩, ⟨3, some 16, (.load 21 (.tmp 15)), none⟩, ⟨4, some 17, (.convert 21 3 (.tmp 16)), none⟩, ⟨5, some 5, (.assign (.tmp 17)), none⟩]) (.seq (.reg 6 [⟨0, some 18, (.move (.tmp 5)), none⟩, ⟨1, some 19, (.call { callee := .value (.func 40), args := #[.tmp 18], argTypes := #[3] }), none⟩]) (.block 2 (.seq (.reg 7 [⟨0, some 21, (.binOp .eql 3 (.tmp 19) (.const (.int .i64 1)) 3), none⟩, ⟨1, some 20, (.assign (.tmp 21)), none⟩]) (.cond (.tmp 20) (.reg 8 [⟨0, some 22, (.move (.tmp 3)), none⟩, ⟨1, some 23, (.move (.tmp 5)), none⟩, ⟨2, some 24, (.convert 3 5 (.tmp 23)), none⟩, ⟨3, some 25, (.buildSlice 33 1 #[(0, .tmp 24)]), none⟩, ⟨4, some 26, (.call { callee := .builtin .append, args := #[.tmp 22, .tmp 25], argTypes := #[33, 33] }), none⟩, ⟨5, some 3, (.assign (.tmp 26)), none⟩]) (.seq (.reg 9 [⟨0, some 28, (.binOp .eql 3 (.tmp 19) (.const (.int .i64 2)) 3), none⟩, ⟨1, some 27, (.assign (.tmp 28)), none⟩]) (.cond (.tmp 27) (.reg 10 [⟨0, some 29, (.move (.tmp 3)), none⟩, ⟨1, some 30, (.move (.tmp 5)), none⟩, ⟨2, some 31, (.binOp .quo 3 (.tmp 30) (.const (.int .i64 64)) 3), none⟩, ⟨3, some 32, (.binOp .add 3 (.const (.int .i64 192)) (.tmp 31) 3), none⟩, ⟨4, some 33, (.convert 3 5 (.tmp 32)), none⟩, ⟨5, some 34, (.move (.tmp 5)), none⟩, ⟨6, some 35, (.binOp .rem 3 (.tmp 34) (.const (.int .i64 64)) 3), none⟩, ⟨7, some 36, (.binOp .add 3 (.const (.int .i64 128)) (.tmp 35) 3), none⟩, ⟨8, some 37, (.convert 3 5 (.tmp 36)), none⟩, ⟨9, some 38, (.buildSlice 33 2 #[(0, .tmp 33), (1, .tmp 37)]), none⟩, ⟨10, some 39, (.call { callee := .builtin .append, args := #[.tmp 29, .tmp 38], argTypes := #[33, 33] }), none⟩, ⟨11, some 3, (.assign (.tmp 39)), none⟩]) (.seq (.reg 11 [⟨0, some 41, (.binOp .eql 3 (.tmp 19) (.const (.int .i64 3)) 3), none⟩, ⟨1, some 40, (.assign (.tmp 41)), none⟩]) (.cond (.tmp 40) (.reg 12 [⟨0, some 42, (.move (.tmp 3)), none⟩, ⟨1, some 43, (.move (.tmp 5)), none⟩, ⟨2, some 44, (.binOp .quo 3 (.tmp 43) (.const (.int .i64 4096)) 3), none⟩, ⟨3, some 45, (.binOp .add 3 (.const (.int .i64 224)) (.tmp 44) 3), none⟩, ⟨4, some 46, (.convert 3 5 (.tmp 45)), none⟩, ⟨5, some 47, (.move (.tmp 5)), none⟩, ⟨6, some 48, (.binOp .quo 3 (.tmp 47) (.const (.int .i64 64)) 3), none⟩, ⟨7, some 49, (.binOp .rem 3 (.tmp 48) (.const (.int .i64 64)) 3), none⟩, ⟨8, some 50, (.binOp .add 3 (.const (.int .i64 128)) (.tmp 49) 3), none⟩, ⟨9, some 51, (.convert 3 5 (.tmp 50)), none⟩, ⟨10, some 52, (.move (.tmp 5)), none⟩, ⟨11, some 53, (.binOp .rem 3 (.tmp 52) (.const (.int .i64 64)) 3), none⟩, ⟨12, some 54, (.binOp .add 3 (.const (.int .i64 128)) (.tmp 53) 3), none⟩, ⟨13, some 55, (.convert 3 5 (.tmp 54)), none⟩, ⟨14, some 56, (.buildSlice 33 3 #[(0, .tmp 46), (1, .tmp 51), (2, .tmp 55)]), none⟩, ⟨15, some 57, (.call { callee := .builtin .append, args := #[.tmp 42, .tmp 56], argTypes := #[33, 33] }), none⟩, ⟨16, some 3, (.assign (.tmp 57)), none⟩]) (.seq (.reg 13 [⟨0, some 59, (.binOp .eql 3 (.tmp 19) (.const (.int .i64 4)) 3), none⟩, ⟨1, some 58, (.assign (.tmp 59)), none⟩]) (.cond (.tmp 58) (.reg 14 [⟨0, some 60, (.move (.tmp 3)), none⟩, ⟨1, some 61, (.move (.tmp 5)), none⟩, ⟨2, some 62, (.binOp .quo 3 (.tmp 61) (.const (.int .i64 262144)) 3), none⟩, ⟨3, some 63, (.binOp .add 3 (.const (.int .i64 240)) (.tmp 62) 3), none⟩, ⟨4, some 64, (.convert 3 5 (.tmp 63)), none⟩, ⟨5, some 65, (.move (.tmp 5)), none⟩, ⟨6, some 66, (.binOp .quo 3 (.tmp 65) (.const (.int .i64 4096)) 3), none⟩, ⟨7, some 67, (.binOp .rem 3 (.tmp 66) (.const (.int .i64 64)) 3), none⟩, ⟨8, some 68, (.binOp .add 3 (.const (.int .i64 128)) (.tmp 67) 3), none⟩, ⟨9, some 69, (.convert 3 5 (.tmp 68)), none⟩, ⟨10, some 70, (.move (.tmp 5)), none⟩, ⟨11, some 71, (.binOp .quo 3 (.tmp 70) (.const (.int .i64 64)) 3), none⟩, ⟨12, some 72, (.binOp .rem 3 (.tmp 71) (.const (.int .i64 64)) 3), none⟩, ⟨13, some 73, (.binOp .add 3 (.const (.int .i64 128)) (.tmp 72) 3), none⟩, ⟨14, some 74, (.convert 3 5 (.tmp 73)), none⟩, ⟨15, some 75, (.move (.tmp 5)), none⟩, ⟨16, some 76, (.binOp .rem 3 (.tmp 75) (.const (.int .i64 64)) 3), none⟩, ⟨17, some 77, (.binOp .add 3 (.const (.int .i64 128)) (.tmp 76) 3), none⟩, ⟨18, some 78, (.convert 3 5 (.tmp 77)), none⟩, ⟨19, some 79, (.buildSlice 33 4 #[(0, .tmp 64), (1, .tmp 69), (2, .tmp 74), (3, .tmp 78)]), none⟩, ⟨20, some 80, (.call { callee := .builtin .append, args := #[.tmp 60, .tmp 79], argTypes := #[33, 33] }), none⟩, ⟨21, some 3, (.assign (.tmp 80)), none⟩]) .skip)))))))))))) (.reg 4 [⟨0, some 11, (.move (.tmp 4)), none⟩, ⟨1, some 12, (.binOp .add 3 (.tmp 11) (.const (.int .i64 1)) 3), none⟩, ⟨2, some 4, (.assign (.tmp 12)), none⟩])))))) (.seq (.reg 15 [⟨0, some 81, (.move (.tmp 3)), none⟩, ⟨1, some 82, (.convert 33 9 (.tmp 81)), none⟩, ⟨2, some 2, (.assign (.tmp 82)), none⟩]) .ret))))
theorem comp36 : ∀ c, Tryd.f36.body = some c → comp c = cc36 := by
  intro c h
  have : c = Tryd.f36.body.get rfl := by rw [← Option.some_inj, ← h]; rfl
  rw [this]; rfl
theorem of_text (l : List Int) (hl : l.length ≤ 1000000) (h32 : ∀ n ∈ l, -2147483648 ≤ n ∧ n < 2147483648) : CallW env 36 [.lst 1 (rns l)] (fun r hs => r = .v (.string (strI (l.flatMap encI))) ∧ hs = []) := by
  refine Ev.func tabOK [0, 2, 3, 4, 5, 10, 19, 20, 27, 40, 58] 0 Tryd.func36 rfl rfl (by simp [Tryd.ntmps36]) (by rfl) (comp36 _ rfl) (rs := [.tmp 2]) rfl ?_; rw [cc36]; show Ev.Wp _ _ _ _ ⟨[(0, _)], [], 0⟩
  repeat' (first | ((with_reducible refine Ev.sided ?_ ?_); (conv => whnf)) | ((with_reducible refine Ev.w_put ?_); (conv => whnf)) | ((with_reducible refine Ev.w_step ?_); (conv => whnf)) | ((with_reducible refine Ev.w_opt ?_); (conv => whnf)) | ((with_reducible refine Ev.chk_k ?_ ?_); rotate_left; (focus first | rfl | (simp only [Ev.nbeq, Bool.and_true, Bool.true_and, Bool.not_false]; done)); conv => whnf) | with_reducible refine Ev.c_dec (fun _ => ?_) (fun _ => ?_) | with_reducible refine Ev.c_not ?_ | with_reducible refine Ev.c_t ?_ | with_reducible refine Ev.c_f ?_ | with_reducible refine Ev.c_br (fun _ => ?_) (fun _ => ?_) | ((with_reducible refine Ev.br_not ?_); conv => whnf) | with_reducible refine Ev.br_dec (fun _ => ?_) (fun _ => ?_) | with_reducible refine Ev.br (fun _ => ?_) (fun _ => ?_) | with_reducible refine Ev.eo_ret ?_ | with_reducible refine Ev.eo_norm ?_ | with_reducible refine Ev.t_norm ?_ | with_reducible refine Ev.k_seq ?_ | ((with_reducible refine Ev.k_reg (hs := []) (tabOK' _ _) (fun Q hQ => ?_)); (simp only [Ev.runE_cons, Ev.runE_nil]); conv => whnf) | (with_reducible refine hQ _ ?_; clear hQ Q) | with_reducible refine Ev.k_cond rfl ?_ | with_reducible refine Ev.k_skip ?_ | with_reducible refine Ev.k_block ?_ | with_reducible refine Ev.k_exit ?_ | with_reducible refine Ev.k_ret ?_ | with_reducible refine Ev.t_ret ?_ | with_reducible refine Ev.t_exit ?_ | with_reducible refine Ev.b_norm ?_ | with_reducible refine Ev.b_ret ?_ | with_reducible refine Ev.b_here ?_ | with_reducible refine Ev.b_off rfl ?_ | ((with_reducible refine Ev.e_ret (fun F hF => ?_)); conv => whnf) | ((with_reducible refine Ev.e_norm (fun F hF => ?_)); conv => whnf) | (with_reducible refine hF _ ?_; clear hF F) | (refine Ev.Side.of ?_; exact Nat.le_of_ble_eq_true rfl))
  refine Ev.loop (fun k s => ∃ (i v c : Nat) (out : List Int), s = ⟨[(0, .lst 1 (rns l)), (2, .v (.string ⟨#[]⟩)), (3, .own 512 v 0 out.length), (4, .v (.int .i64 i))], [(512, ⟨1, 5, v, 0, false, bys out⟩)], c⟩ ∧
      k + i = l.length ∧ out = (l.take i).flatMap encI ∧ out.length ≤ 4 * i) ?_ ?_
  · exact Ev.to ⟨[(0, _), (2, _), (3, .own 512 0 0 0), (4, .v (.int .i64 ((0 : Nat) : Int)))], [(512, ⟨1, 5, 0, 0, false, bys []⟩)], 8⟩ ⟨rfl, rfl, rfl, rfl, trivial⟩ ⟨rfl, trivial⟩ (Nat.le_refl _) ⟨l.length, 0, 0, 8, [], rfl, by omega, rfl, by simp⟩
  rintro k s1 ⟨i, v, c, out, rfl, hk, ho, hb⟩
  repeat' (first | ((with_reducible refine Ev.sided ?_ ?_); (conv => whnf)) | ((with_reducible refine Ev.w_put ?_); (conv => whnf)) | ((with_reducible refine Ev.w_step ?_); (conv => whnf)) | ((with_reducible refine Ev.w_opt ?_); (conv => whnf)) | ((with_reducible refine Ev.chk_k ?_ ?_); rotate_left; (focus first | rfl | (simp only [Ev.nbeq, Bool.and_true, Bool.true_and, Bool.not_false]; done)); conv => whnf) | with_reducible refine Ev.c_dec (fun _ => ?_) (fun _ => ?_) | with_reducible refine Ev.c_not ?_ | with_reducible refine Ev.c_t ?_ | with_reducible refine Ev.c_f ?_ | with_reducible refine Ev.c_br (fun _ => ?_) (fun _ => ?_) | ((with_reducible refine Ev.br_not ?_); conv => whnf) | with_reducible refine Ev.br_dec (fun _ => ?_) (fun _ => ?_) | with_reducible refine Ev.br (fun _ => ?_) (fun _ => ?_) | with_reducible refine Ev.eo_ret ?_ | with_reducible refine Ev.eo_norm ?_ | with_reducible refine Ev.t_norm ?_ | with_reducible refine Ev.k_seq ?_ | ((with_reducible refine Ev.k_reg (hs := []) (tabOK' _ _) (fun Q hQ => ?_)); (simp only [Ev.runE_cons, Ev.runE_nil]); conv => whnf) | (with_reducible refine hQ _ ?_; clear hQ Q) | with_reducible refine Ev.k_cond rfl ?_ | with_reducible refine Ev.k_skip ?_ | with_reducible refine Ev.k_block ?_ | with_reducible refine Ev.k_exit ?_ | with_reducible refine Ev.k_ret ?_ | with_reducible refine Ev.t_ret ?_ | with_reducible refine Ev.t_exit ?_ | with_reducible refine Ev.b_norm ?_ | with_reducible refine Ev.b_ret ?_ | with_reducible refine Ev.b_here ?_ | with_reducible refine Ev.b_off rfl ?_ | ((with_reducible refine Ev.e_ret (fun F hF => ?_)); conv => whnf) | ((with_reducible refine Ev.e_norm (fun F hF => ?_)); conv => whnf) | (with_reducible refine hF _ ?_; clear hF F) | ((refine Ev.call_det (size_call _) rfl rfl ?_); conv => whnf) | ((refine Ev.el_map ?_ (fun hi => ?_); rotate_left); conv => whnf) | (refine Ev.Side.of ?_; exact Nat.le_of_ble_eq_true rfl))
  · have hi' : i < l.length := by simpa using hi
    have hn : IntKind.i64.wrap (l[(↑i : Int).toNat]'hi) = l[i] := by
      simp only [Int.toNat_natCast]; rw [Ev.wrap64]; have := h32 _ (List.getElem_mem hi'); omega
    have hz : sizeF l[i] = 1 := by rw [← hn]; assumption
    obtain ⟨b0, b1, b2, b3, b4⟩ := sizeF_b hz (by decide)
    have he : encI l[i] = [l[i]] := by unfold encI; simp [hz]
    refine Ev.again (k - 1) ⟨[(0, _), (2, _), (3, .own 512 (c + 8) 0 (out ++ encI l[i]).length), (4, .v (.int .i64 ((i + 1 : Nat) : Int)))], [(512, ⟨1, 5, c + 8, 0, false, bys (out ++ encI l[i])⟩)], c + 8 + 8⟩ (by omega) ⟨rfl, rfl, Ev.slot_eq rfl ?_, Ev.slot_int rfl (by rw [Ev.wrap64]; omega), trivial⟩ ⟨Ev.slot_eq rfl ?_, trivial⟩ (Nat.le_refl _) ⟨i + 1, c + 8, c + 8 + 8, out ++ encI l[i], rfl, by omega, ?_, ?_⟩
    · rw [he]; simp
    · rw [he]
      simp only [Blk.mk.injEq, true_and, and_true, List.drop_zero, bys, List.map_append, List.map_cons, List.map_nil, List.take_succ_cons, List.take_zero, hn]
      simp only [w1 (n := l[i]) ⟨b0, by omega⟩, wb b0, wc (n := l[i]) (b := 64) b0 (by omega), wc (n := l[i]) (b := 4096) b0 (by omega)]
    · rw [ho, List.take_succ_eq_append_getElem hi', List.flatMap_append]; simp
    · rw [he, List.length_append]; simp; omega
  · refine Ev.Side.of ?_
    have hm : 2000000003 ≤ maxLen := by decide
    have hi' : i < l.length := by simpa using hi
    simp [bys]
    omega
  · have hi' : i < l.length := by simpa using hi
    have hn : IntKind.i64.wrap (l[(↑i : Int).toNat]'hi) = l[i] := by
      simp only [Int.toNat_natCast]; rw [Ev.wrap64]; have := h32 _ (List.getElem_mem hi'); omega
    have hz : sizeF l[i] = 2 := by rw [← hn]; assumption
    obtain ⟨b0, b1, b2, b3, b4⟩ := sizeF_b hz (by decide)
    have he : encI l[i] = [192 + l[i] / 64, 128 + l[i] % 64] := by unfold encI; simp [hz]
    refine Ev.again (k - 1) ⟨[(0, _), (2, _), (3, .own 512 (c + 8) 0 (out ++ encI l[i]).length), (4, .v (.int .i64 ((i + 1 : Nat) : Int)))], [(512, ⟨1, 5, c + 8, 0, false, bys (out ++ encI l[i])⟩)], c + 8 + 8⟩ (by omega) ⟨rfl, rfl, Ev.slot_eq rfl ?_, Ev.slot_int rfl (by rw [Ev.wrap64]; omega), trivial⟩ ⟨Ev.slot_eq rfl ?_, trivial⟩ (Nat.le_refl _) ⟨i + 1, c + 8, c + 8 + 8, out ++ encI l[i], rfl, by omega, ?_, ?_⟩
    · rw [he]; simp
    · rw [he]
      simp only [Blk.mk.injEq, true_and, and_true, List.drop_zero, bys, List.map_append, List.map_cons, List.map_nil, List.take_succ_cons, List.take_zero, hn]
      simp only [wa (n := l[i]) (c := 192) (b := 64) b0 (by omega), wa (n := l[i]) (c := 224) (b := 4096) b0 (by omega), wa (n := l[i]) (c := 240) (b := 262144) b0 (by omega), wb b0, wc (n := l[i]) (b := 64) b0 (by omega), wc (n := l[i]) (b := 4096) b0 (by omega)]
    · rw [ho, List.take_succ_eq_append_getElem hi', List.flatMap_append]; simp
    · rw [he, List.length_append]; simp; omega
  · refine Ev.Side.of ?_
    have hm : 2000000003 ≤ maxLen := by decide
    have hi' : i < l.length := by simpa using hi
    simp [bys]
    omega
  · exact Ev.Side.of (by decide)
  · exact Ev.Side.of (by decide)
  · have hi' : i < l.length := by simpa using hi
    have hn : IntKind.i64.wrap (l[(↑i : Int).toNat]'hi) = l[i] := by
      simp only [Int.toNat_natCast]; rw [Ev.wrap64]; have := h32 _ (List.getElem_mem hi'); omega
    have hz : sizeF l[i] = 3 := by rw [← hn]; assumption
    obtain ⟨b0, b1, b2, b3, b4⟩ := sizeF_b hz (by decide)
    have he : encI l[i] = [224 + l[i] / 4096, 128 + l[i] / 64 % 64, 128 + l[i] % 64] := by unfold encI; simp [hz]
    refine Ev.again (k - 1) ⟨[(0, _), (2, _), (3, .own 512 (c + 8) 0 (out ++ encI l[i]).length), (4, .v (.int .i64 ((i + 1 : Nat) : Int)))], [(512, ⟨1, 5, c + 8, 0, false, bys (out ++ encI l[i])⟩)], c + 8 + 8⟩ (by omega) ⟨rfl, rfl, Ev.slot_eq rfl ?_, Ev.slot_int rfl (by rw [Ev.wrap64]; omega), trivial⟩ ⟨Ev.slot_eq rfl ?_, trivial⟩ (Nat.le_refl _) ⟨i + 1, c + 8, c + 8 + 8, out ++ encI l[i], rfl, by omega, ?_, ?_⟩
    · rw [he]; simp
    · rw [he]
      simp only [Blk.mk.injEq, true_and, and_true, List.drop_zero, bys, List.map_append, List.map_cons, List.map_nil, List.take_succ_cons, List.take_zero, hn]
      simp only [wa (n := l[i]) (c := 224) (b := 4096) b0 (by omega), wa (n := l[i]) (c := 240) (b := 262144) b0 (by omega), wb b0, wc (n := l[i]) (b := 64) b0 (by omega), wc (n := l[i]) (b := 4096) b0 (by omega)]
    · rw [ho, List.take_succ_eq_append_getElem hi', List.flatMap_append]; simp
    · rw [he, List.length_append]; simp; omega
  · refine Ev.Side.of ?_
    have hm : 2000000003 ≤ maxLen := by decide
    have hi' : i < l.length := by simpa using hi
    simp [bys]
    omega
  · exact Ev.Side.of (by decide)
  · exact Ev.Side.of (by decide)
  · exact Ev.Side.of (by decide)
  · exact Ev.Side.of (by decide)
  · have hi' : i < l.length := by simpa using hi
    have hn : IntKind.i64.wrap (l[(↑i : Int).toNat]'hi) = l[i] := by
      simp only [Int.toNat_natCast]; rw [Ev.wrap64]; have := h32 _ (List.getElem_mem hi'); omega
    have hz : sizeF l[i] = 4 := by rw [← hn]; assumption
    obtain ⟨b0, b1, b2, b3, b4⟩ := sizeF_b hz (by decide)
    have he : encI l[i] = [240 + l[i] / 262144, 128 + l[i] / 4096 % 64, 128 + l[i] / 64 % 64, 128 + l[i] % 64] := by unfold encI; simp [hz]
    refine Ev.again (k - 1) ⟨[(0, _), (2, _), (3, .own 512 (c + 8) 0 (out ++ encI l[i]).length), (4, .v (.int .i64 ((i + 1 : Nat) : Int)))], [(512, ⟨1, 5, c + 8, 0, false, bys (out ++ encI l[i])⟩)], c + 8 + 8⟩ (by omega) ⟨rfl, rfl, Ev.slot_eq rfl ?_, Ev.slot_int rfl (by rw [Ev.wrap64]; omega), trivial⟩ ⟨Ev.slot_eq rfl ?_, trivial⟩ (Nat.le_refl _) ⟨i + 1, c + 8, c + 8 + 8, out ++ encI l[i], rfl, by omega, ?_, ?_⟩
    · rw [he]; simp
    · rw [he]
      simp only [Blk.mk.injEq, true_and, and_true, List.drop_zero, bys, List.map_append, List.map_cons, List.map_nil, List.take_succ_cons, List.take_zero, hn]
      simp only [wa (n := l[i]) (c := 240) (b := 262144) b0 (by omega), wb b0, wc (n := l[i]) (b := 64) b0 (by omega), wc (n := l[i]) (b := 4096) b0 (by omega)]
    · rw [ho, List.take_succ_eq_append_getElem hi', List.flatMap_append]; simp
    · rw [he, List.length_append]; simp; omega
  · refine Ev.Side.of ?_
    have hm : 2000000003 ≤ maxLen := by decide
    have hi' : i < l.length := by simpa using hi
    simp [bys]
    omega
  · exact Ev.Side.of (by decide)
  · exact Ev.Side.of (by decide)
  · exact Ev.Side.of (by decide)
  · exact Ev.Side.of (by decide)
  · exact Ev.Side.of (by decide)
  · exact Ev.Side.of (by decide)
  · have hi' : i < l.length := by simpa using hi
    have hn : IntKind.i64.wrap (l[(↑i : Int).toNat]'hi) = l[i] := by
      simp only [Int.toNat_natCast]; rw [Ev.wrap64]; have := h32 _ (List.getElem_mem hi'); omega
    rename_i z1 z2 z3 z4
    simp only [hn] at z1 z2 z3 z4
    have he : encI l[i] = [] := by unfold encI; simp [z1, z2, z3, z4]
    refine Ev.again (k - 1) ⟨[(0, _), (2, _), (3, _), (4, .v (.int .i64 ((i + 1 : Nat) : Int)))], [(512, _)], _⟩ (by omega) ⟨rfl, rfl, rfl, Ev.slot_int rfl (by rw [Ev.wrap64]; omega), trivial⟩ ⟨rfl, trivial⟩ (Nat.le_refl _) ⟨i + 1, v, c, out, rfl, by omega, ?_, by omega⟩
    rw [ho, List.take_succ_eq_append_getElem hi', List.flatMap_append]; simp [he]
  · refine Ev.Side.of ?_
    rename_i hlt
    simp only [rns, List.length_map] at hlt; omega
  · refine Ev.Side.of ?_
    rename_i hlt
    omega
  · rename_i hlt
    have ei : i = l.length := by simp only [rns, List.length_map] at hlt; omega
    have e : List.mapM toByte (List.take out.length (List.drop 0 (bys out))) = some (out.map fun n => UInt8.ofNat n.toNat) := by
      rw [List.drop_zero, List.take_of_length_le (by simp [bys])]; exact toBytes out
    simp only [e]
    conv => whnf
    repeat' (first | ((with_reducible refine Ev.sided ?_ ?_); (conv => whnf)) | ((with_reducible refine Ev.w_put ?_); (conv => whnf)) | ((with_reducible refine Ev.w_step ?_); (conv => whnf)) | ((with_reducible refine Ev.w_opt ?_); (conv => whnf)) | ((with_reducible refine Ev.chk_k ?_ ?_); rotate_left; (focus first | rfl | (simp only [Ev.nbeq, Bool.and_true, Bool.true_and, Bool.not_false]; done)); conv => whnf) | with_reducible refine Ev.c_dec (fun _ => ?_) (fun _ => ?_) | with_reducible refine Ev.c_not ?_ | with_reducible refine Ev.c_t ?_ | with_reducible refine Ev.c_f ?_ | with_reducible refine Ev.c_br (fun _ => ?_) (fun _ => ?_) | ((with_reducible refine Ev.br_not ?_); conv => whnf) | with_reducible refine Ev.br_dec (fun _ => ?_) (fun _ => ?_) | with_reducible refine Ev.br (fun _ => ?_) (fun _ => ?_) | with_reducible refine Ev.eo_ret ?_ | with_reducible refine Ev.eo_norm ?_ | with_reducible refine Ev.t_norm ?_ | with_reducible refine Ev.k_seq ?_ | ((with_reducible refine Ev.k_reg (hs := []) (tabOK' _ _) (fun Q hQ => ?_)); (simp only [Ev.runE_cons, Ev.runE_nil]); conv => whnf) | (with_reducible refine hQ _ ?_; clear hQ Q) | with_reducible refine Ev.k_cond rfl ?_ | with_reducible refine Ev.k_skip ?_ | with_reducible refine Ev.k_block ?_ | with_reducible refine Ev.k_exit ?_ | with_reducible refine Ev.k_ret ?_ | with_reducible refine Ev.t_ret ?_ | with_reducible refine Ev.t_exit ?_ | with_reducible refine Ev.b_norm ?_ | with_reducible refine Ev.b_ret ?_ | with_reducible refine Ev.b_here ?_ | with_reducible refine Ev.b_off rfl ?_ | ((with_reducible refine Ev.e_ret (fun F hF => ?_)); conv => whnf) | ((with_reducible refine Ev.e_norm (fun F hF => ?_)); conv => whnf) | (with_reducible refine hF _ ?_; clear hF F) | (refine Ev.Side.of ?_; exact Nat.le_of_ble_eq_true rfl))
    subst ho; subst ei
    rw [List.take_of_length_le (Nat.le_refl _)]
    exact ⟨rfl, rfl⟩
  · refine Ev.Side.of ?_; simp [bys]
end Go.Proofs.YtdgpilapblipbaaDoor.Abs
