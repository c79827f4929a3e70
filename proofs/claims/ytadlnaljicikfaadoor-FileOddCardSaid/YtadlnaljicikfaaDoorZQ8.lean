/- A part of the proof: a calculus over values, and contracts of functions. No condition. -/
import Derived.Test.YtadlnaljicikfaaDoorZQ7
import Derived.Lib.MapLaws
import Derived.Stop.FmtQuoteTie
namespace Go.Proofs.YtadlnaljicikfaaDoor.Abs
open Go
set_option maxRecDepth 100000
set_option linter.unusedSimpArgs false
set_option linter.unusedVariables false
attribute [local irreducible] Ev.Unr Ev.Go' Ev.bytK Ev.runK Ev.FinL Ev.brC Ev.Side Ev.Wp Ev.Again Ev.To Ev.Fin
open Go.Lib Go.RowKit
theorem comp90 : ∀ c, Tryd.f90.body = some c → comp c = (.seq (.reg 0 [I.n 0 2 I.sn, I.n 1 3 (I.si 0), I.n 2 4 (I.si 0)]) (.seq (.reg 1 [I.n 0 9 (I.mv 0), I.n 1 10 (.build 149 #[(0, .tmp 9)]), I.n 2 5 (.alloc 149), I.u 3 (I.st 149 5 10)]) (.seq (.reg 2 [I.n 0 11 (.makeFunc (.func 128) #[.tmp 5] #[]), I.n 1 6 (I.sa 11)]) (.seq (.reg 3 [I.n 0 12 (I.mv 6), I.n 1 13 (.call { callee := .value (.tmp 12), args := #[.const (Value.int .i64 65536)], argTypes := #[3] }), I.n 2 7 (I.sa 13)]) (.seq (.seq (.reg 4 [I.n 0 14 (I.fa 149 5 1), I.n 1 15 (I.ld 30 14), I.n 2 16 (I.bc .eql 30 15 0 30), I.n 3 17 (I.mv 16), I.w 4 18 (I.mv 7) 17 true, I.w 5 19 (I.bc .eql 3 18 0 3) 17 true, I.n 6 20 (I.pc 17 19 false)]) (.cond (.tmp 20) (.reg 5 [I.n 0 21 (I.fa 149 5 1), I.u 1 (.store 30 (.tmp 21) (.const (Value.int .i64 8)))]) .skip)) (.seq (.reg 6 [I.n 0 8 (.assign (.const (Value.int .i64 (-1))))]) (.seq (.seq (.reg 7 [I.n 0 22 (I.mv 7), I.n 1 23 (.move (.const (Value.int .i64 0)))]) (.block 0 (.loop (.seq (.reg 8 [I.n 0 24 (I.bo .lss 3 23 22 3)]) (.seq (.cond (.tmp 24) .skip (.exit 0)) (.seq (.block 1 (.seq (.reg 9 [I.n 0 25 (I.mv 8), I.n 1 26 (I.mv 6), I.n 2 27 (.call { callee := .value (.tmp 26), args := #[.const (Value.int .i64 268435455)], argTypes := #[3] }), I.n 3 28 (.binOp .add 3 (.const (Value.int .i64 1)) (.tmp 27) 3), I.n 4 29 (I.bo .add 3 25 28 3), I.n 5 8 (I.sa 29)]) (.seq (.seq (.reg 10 [I.n 0 30 (I.fa 149 5 1), I.n 1 31 (I.ld 30 30), I.n 2 32 (I.bc .eql 30 31 0 30), I.n 3 33 (I.mv 32), I.w 4 34 (I.mv 8) 33 true, I.w 5 35 (I.bc .gtr 3 34 268435455 3) 33 true, I.n 6 36 (I.pc 33 35 false)]) (.cond (.tmp 36) (.reg 11 [I.n 0 37 (I.fa 149 5 1), I.u 1 (.store 30 (.tmp 37) (.const (Value.int .i64 8)))]) .skip)) (.seq (.seq (.reg 12 [I.n 0 38 (I.fa 149 5 1), I.n 1 39 (I.ld 30 38), I.n 2 40 (I.bc .neq 30 39 0 30)]) (.cond (.tmp 40) (.exit 0) .skip)) (.reg 13 [I.n 0 41 (I.mv 2), I.n 1 42 (I.mv 8), I.n 2 43 (I.b1 25 42), I.n 3 44 (I.ap 41 43 25 25), I.n 4 2 (I.sa 44)]))))) (.reg 14 [I.n 0 45 (I.bc .add 3 23 1 3), I.n 1 23 (I.mv 45)]))))))) (.seq (.seq (.reg 15 [I.n 0 46 (I.fa 149 5 1), I.n 1 47 (I.ld 30 46), I.n 2 48 (I.bc .neq 30 47 0 30)]) (.cond (.tmp 48) (.seq (.draw 16 [I.n 0 49 (I.fa 149 5 1), I.n 1 50 (I.ld 30 49), I.n 2 2 I.sn, I.n 3 3 (I.si 0), I.n 4 4 (I.sa 50)] [[], [0], [], [2, 2], [1, 3, 0, 1, 2, 3]]) .ret) .skip)) (.seq (.draw 17 [I.n 0 51 (I.mv 2), I.n 1 52 (I.mv 0), I.n 2 53 (I.ln 52 56), I.n 3 54 (I.fa 149 5 0), I.n 4 55 (I.ld 56 54), I.n 5 56 (I.ln 55 56), I.n 6 57 (I.bo .sub 3 53 56 3), I.n 7 2 (I.sa 51), I.n 8 3 (I.sa 57), I.n 9 4 (I.si 0)] [[], [], [1], [], [3], [4], [2, 5], [0, 0], [6, 7, 0, 1, 2, 3, 4, 5, 6, 7], [8, 0, 1, 2, 3, 4, 5, 6, 7, 8]]) .ret))))))))) := by
  intro c h
  have : c = Tryd.f90.body.get rfl := by rw [← Option.some_inj, ← h]; rfl
  rw [this]; rfl
def rTakeA (b : List UInt8) : AV := match rTake b with
  | .error e => .tup [nilA, .v (.int .i64 0), .v (.int .i64 e)]
  | .ok (l, k) => .tup [.lst 1 (ints l), .v (.int .i64 k), .v (.int .i64 0)]
theorem rTakeA_bad {b : List UInt8} {e : Int} (h : rTake b = .error e) : rTakeA b = .tup [nilA, .v (.int .i64 0), .v (.int .i64 e)] := by unfold rTakeA; rw [h]
theorem rTakeA_ok {b : List UInt8} {l : List Int} {k : Int} (h : rTake b = .ok (l, k)) : rTakeA b = .tup [.lst 1 (ints l), .v (.int .i64 k), .v (.int .i64 0)] := by unfold rTakeA; rw [h]
theorem take_err {b : List UInt8} {n k e : Int} (hq : takeN b = (n, k, e)) (he : e ≠ 0) : rTake b = .error e := by unfold rTake; rw [hq]; simp only; rw [if_pos he]
def joinR (done : List Int) : Except Int (List Int × List UInt8) → Except Int (List Int × List UInt8)
  | .error e => .error e
  | .ok (l, l2) => .ok (done ++ l, l2)
def RowEq (b : List UInt8) (N K : Nat) : Prop := rTake b = match rowTake N (-1) (b.drop K) with
    | .error e => .error e
    | .ok (l, left) => .ok (l, (b.length : Int) - left.length)
theorem rt_err {b : List UInt8} {N K m : Nat} {left : List UInt8} {done : List Int} {was n k e : Int} (h0 : RowEq b N K) (ht : rowTake N (-1) (b.drop K) = joinR done (rowTake (m + 1) was left)) (hq : takeN left = (n, k, e)) (he : e ≠ 0) : rTake b = .error e := by
  unfold RowEq at h0
  rw [h0, ht]; simp only [rowTake, hq]; rw [if_pos he]; rfl
theorem rt_big {b : List UInt8} {N K m : Nat} {left : List UInt8} {done : List Int} {was n k : Int} (h0 : RowEq b N K) (ht : rowTake N (-1) (b.drop K) = joinR done (rowTake (m + 1) was left)) (hq : takeN left = (n, k, 0)) (h : 268435455 < was + 1 + n) : rTake b = .error 8 := by
  unfold RowEq at h0
  rw [h0, ht]; simp only [rowTake, hq]; rw [if_neg (by decide), if_pos h]; rfl
theorem rt_step {b : List UInt8} {N K m : Nat} {left : List UInt8} {done : List Int} {n k : Int} (ht : rowTake N (-1) (b.drop K) = joinR done (rowTake (m + 1) (lastI (-1) done) left)) (hq : takeN left = (n, k, 0)) (h : ¬ 268435455 < lastI (-1) done + 1 + n) :
    rowTake N (-1) (b.drop K) = joinR (done ++ [lastI (-1) done + 1 + n]) (rowTake m (lastI (-1) (done ++ [lastI (-1) done + 1 + n])) (left.drop k.toNat)) := by
  rw [ht, lastI_snoc]; simp only [rowTake, hq]; rw [if_neg (by decide), if_neg h]
  cases rowTake m (lastI (-1) done + 1 + n) (left.drop k.toNat) with
  | error e => rfl
  | ok p => obtain ⟨l, l2⟩ := p; simp [joinR]
theorem rt_end {b : List UInt8} {N K : Nat} {left : List UInt8} {done : List Int} {was : Int} (h0 : RowEq b N K) (ht : rowTake N (-1) (b.drop K) = joinR done (rowTake 0 was left)) : rTake b = .ok (done, (b.length : Int) - left.length) := by
  unfold RowEq at h0
  rw [h0, ht]; simp [rowTake, joinR]
set_option maxHeartbeats 4000000 in
theorem rtakerow_call (b : List UInt8) (hb : b.length ≤ 1000000000) : CallW env 90 [.lst 1 (bts b)] (fun r hs => r = rTakeA b ∧ hs = []) := by
  have hbl := bts_len b
  rcases takeN_bad b with ⟨n, k, hq⟩ | hq | hq
  · obtain ⟨b1, b2, b3, b4, b5, b6, b7⟩ := put_take hq
    obtain ⟨N, rfl⟩ := Int.eq_ofNat_of_zero_le b1
    obtain ⟨K, rfl⟩ := Int.eq_ofNat_of_zero_le (show 0 ≤ k by omega)
    have hlr : (List.take ((bts b).length - (K : Int).toNat) (List.drop (K : Int).toNat (bts b))).length = b.length - K := by rw [Int.toNat_natCast, List.length_take, List.length_drop, hbl]; omega
    have hld : (b.drop K).length = b.length - K := List.length_drop
    refine Ev.fn [0, 2, 3, 4, 5, 6, 7, 8, 20, 22, 23, 24, 36, 40, 48] 0 [.tmp 2, .tmp 3, .tmp 4] Tryd.func90 (comp90 _ rfl) ?_
    repeat' (first | ((with_reducible refine Ev.br0 ?_); (first | refine Ev.brp ?_ | refine Ev.brn ?_); conv => whnf) | ((with_reducible refine Ev.c0 ?_); first | refine Ev.cp ?_ | refine Ev.cn ?_) | ((refine Ev.sw ?_); conv => whnf) | refine Ev.sn ?_ | ((with_reducible refine Ev.chk_k ?_ ?_); rotate_left; exact Ev.bt; conv => whnf) | ((with_reducible (refine Ev.RI.run ?_; constructor)) <;> intro _) | ((refine Ev.sg ?_); conv => whnf) | ((with_reducible refine Ev.sided ?_ ?_); conv => whnf) | ((with_reducible refine Ev.kr (hs := [128]) (fun Q hQ => ?_)); (simp only [Ev.runE_cons, Ev.runE_nil]); conv => whnf) | (with_reducible refine hQ _ ?_; clear hQ Q) | ((refine Ev.sf ?_); intro F hF; conv => whnf) | (with_reducible refine hF _ ?_; clear hF F) | ((with_reducible refine Ev.go_k (fun c' => ?_)); conv => whnf) | ((with_reducible refine Ev.il0 128 ?_); refine Ev.il 128 [0, 1, 4, 5, 6, 7, 12, 28] [.tmp 4] Tryd.func128 (comp128 _ rfl) (fun ct' => ?_)) | ((with_reducible refine Ev.ca0 ?_); (first | refine Ev.ca (ntake_is hq hb) ?_); conv => whnf) | ((with_reducible refine Ev.dr0 ?_); (first | refine Ev.dr 16 [128] [0, 1, 2, 3, 4] ?_ | refine Ev.dr 17 [128] [0, 1, 2, 3, 4, 5, 7, 6, 8, 9] ?_); intro Q hQ; (simp only [Ev.runE_cons, Ev.runE_nil]); conv => whnf) | ((first | refine Ev.el_map0 ?_ (fun hi => ?_) | refine Ev.el_mapN ?_ (fun hi => ?_)); rotate_left; conv => whnf) | ((with_reducible refine Ev.sd0 ?_); exact Ev.sd) | fail)
    · rename_i h
      have : rTake b = .error 8 := by unfold rTake; rw [hq]; simp only; rw [if_neg (by decide), if_pos (.inr h)]
      repeat' (first | ((with_reducible refine Ev.br0 ?_); (first | refine Ev.brp ?_ | refine Ev.brn ?_); conv => whnf) | ((with_reducible refine Ev.c0 ?_); first | refine Ev.cp ?_ | refine Ev.cn ?_) | ((refine Ev.sw ?_); conv => whnf) | refine Ev.sn ?_ | ((with_reducible refine Ev.chk_k ?_ ?_); rotate_left; exact Ev.bt; conv => whnf) | ((with_reducible (refine Ev.RI.run ?_; constructor)) <;> intro _) | ((refine Ev.sg ?_); conv => whnf) | ((with_reducible refine Ev.sided ?_ ?_); conv => whnf) | ((with_reducible refine Ev.kr (hs := [128]) (fun Q hQ => ?_)); (simp only [Ev.runE_cons, Ev.runE_nil]); conv => whnf) | (with_reducible refine hQ _ ?_; clear hQ Q) | ((refine Ev.sf ?_); intro F hF; conv => whnf) | (with_reducible refine hF _ ?_; clear hF F) | ((with_reducible refine Ev.go_k (fun c' => ?_)); conv => whnf) | ((with_reducible refine Ev.il0 128 ?_); refine Ev.il 128 [0, 1, 4, 5, 6, 7, 12, 28] [.tmp 4] Tryd.func128 (comp128 _ rfl) (fun ct' => ?_)) | ((with_reducible refine Ev.ca0 ?_); (first | refine Ev.ca (ntake_is hq hb) ?_); conv => whnf) | (with_reducible refine Ev.unroll 1 ?_) | ((with_reducible refine Ev.dr0 ?_); (first | refine Ev.dr 16 [128] [0, 1, 2, 3, 4] ?_ | refine Ev.dr 17 [128] [0, 1, 2, 3, 4, 5, 7, 6, 8, 9] ?_); intro Q hQ; (simp only [Ev.runE_cons, Ev.runE_nil]); conv => whnf) | ((first | refine Ev.el_map0 ?_ (fun hi => ?_) | refine Ev.el_mapN ?_ (fun hi => ?_)); rotate_left; conv => whnf) | ((with_reducible refine Ev.sd0 ?_); exact Ev.sd) | fail)
      all_goals exact ⟨(rTakeA_bad this).symm, rfl⟩
    · rename_i h
      have : rTake b = .error 8 := by unfold rTake; rw [hq]; simp only; rw [if_neg (by decide), if_pos (.inl h)]
      repeat' (first | ((with_reducible refine Ev.br0 ?_); (first | refine Ev.brp ?_ | refine Ev.brn ?_); conv => whnf) | ((with_reducible refine Ev.c0 ?_); first | refine Ev.cp ?_ | refine Ev.cn ?_) | ((refine Ev.sw ?_); conv => whnf) | refine Ev.sn ?_ | ((with_reducible refine Ev.chk_k ?_ ?_); rotate_left; exact Ev.bt; conv => whnf) | ((with_reducible (refine Ev.RI.run ?_; constructor)) <;> intro _) | ((refine Ev.sg ?_); conv => whnf) | ((with_reducible refine Ev.sided ?_ ?_); conv => whnf) | ((with_reducible refine Ev.kr (hs := [128]) (fun Q hQ => ?_)); (simp only [Ev.runE_cons, Ev.runE_nil]); conv => whnf) | (with_reducible refine hQ _ ?_; clear hQ Q) | ((refine Ev.sf ?_); intro F hF; conv => whnf) | (with_reducible refine hF _ ?_; clear hF F) | ((with_reducible refine Ev.go_k (fun c' => ?_)); conv => whnf) | ((with_reducible refine Ev.il0 128 ?_); refine Ev.il 128 [0, 1, 4, 5, 6, 7, 12, 28] [.tmp 4] Tryd.func128 (comp128 _ rfl) (fun ct' => ?_)) | ((with_reducible refine Ev.ca0 ?_); (first | refine Ev.ca (ntake_is hq hb) ?_); conv => whnf) | (with_reducible refine Ev.unroll 1 ?_) | ((with_reducible refine Ev.dr0 ?_); (first | refine Ev.dr 16 [128] [0, 1, 2, 3, 4] ?_ | refine Ev.dr 17 [128] [0, 1, 2, 3, 4, 5, 7, 6, 8, 9] ?_); intro Q hQ; (simp only [Ev.runE_cons, Ev.runE_nil]); conv => whnf) | ((first | refine Ev.el_map0 ?_ (fun hi => ?_) | refine Ev.el_mapN ?_ (fun hi => ?_)); rotate_left; conv => whnf) | ((with_reducible refine Ev.sd0 ?_); exact Ev.sd) | fail)
      all_goals exact ⟨(rTakeA_bad this).symm, rfl⟩
    · have h0 : RowEq b N K := by unfold RowEq rTake; rw [hq]; simp only; rw [if_neg (by decide), if_neg (by omega)]; rfl
      refine Ev.loop (fun m s => ∃ (i c : Nat) (left : List UInt8) (done : List Int) (sg : AV) (hx : List (Nat × Blk)), s = ⟨[(0, .lst 1 (bts b)), (2, sg), (3, .v (.int .i64 0)), (4, .v (.int .i64 0)), (5, .ptr 528 0 0 0), (6, .clo (.func 128) [.ptr 528 0 0 0] []), (8, .v (.int .i64 (lastI (-1) done))), (22, .v (.int .i64 N)), (23, .v (.int .i64 i))],
          (528, ⟨2, 149, 0, 0, true, [[.lst 1 (bts left), .v (.int .i64 0)]]⟩) :: hx, c⟩ ∧
          ((i = 0 ∧ sg = nilA ∧ hx = []) ∨ (0 < i ∧ ∃ u, sg = .own 6680 u 0 i ∧ hx = [(6680, ⟨1, 3, u, 0, false, ints done⟩)])) ∧ done.length = i ∧ m + i = N ∧ left.length ≤ b.length ∧ -1 ≤ lastI (-1) done ∧ lastI (-1) done ≤ 268435455 ∧
          rowTake N (-1) (b.drop K) = joinR done (rowTake m (lastI (-1) done) left)) ?_ ?_
      · (refine Ev.to _ ?hs1 ?hh1 ?hc1 ⟨N, 0, ?_, b.drop K, [], nilA, [], rfl, ?hp1⟩; (case hs1 | hh1 => ((repeat' (first | exact trivial | refine And.intro ?_ ?_)) <;> (first | exact Ev.se | (refine Ev.slot_eq rfl ?_; first | (first | rfl | (rw [Int.toNat_natCast]; exact cut_from b K) | exact congrArg (fun n => Blk.mk 2 149 0 0 true [[AV.lst 1 n, .v (.int .i64 0)]]) (cut_from b K)) | ((first | refine Ev.int_eq ?_ | refine Ev.own_eq ?_ | refine Ev.blk_eq ?_); (first | rfl | (rw [Int.toNat_natCast]; exact cut_from b K) | exact congrArg (fun n => Blk.mk 2 149 0 0 true [[AV.lst 1 n, .v (.int .i64 0)]]) (cut_from b K)))) | exact Ev.sr))); (case hc1 => exact Nat.le_refl _))
        refine ⟨.inl ⟨rfl, rfl, rfl⟩, rfl, by omega, by omega, by decide, by decide, ?_⟩
        show _ = joinR [] (rowTake N (-1) (b.drop K))
        generalize rowTake N (-1) (b.drop K) = z
        cases z with
        | error e => rfl
        | ok p => rfl
      rintro m s1 ⟨i, c, left, done, sg, hx, rfl, hsg, hd, hm, hle, hw1, hw2, ht⟩
      have hle' : left.length ≤ 1000000000 := by omega
      by_cases hiN : (i : Int) < (N : Int)
      · rcases hsg with ⟨hi, rfl, rfl⟩ | ⟨hi, u, rfl, rfl⟩
        · obtain ⟨m, rfl⟩ : ∃ m', m = m' + 1 := ⟨m - 1, by omega⟩
          rcases takeN_bad left with ⟨n, k, hq'⟩ | hq' | hq'
          · obtain ⟨b1', b2', b3', b4', b5', b6', b7'⟩ := put_take hq'
            obtain ⟨k, rfl⟩ := Int.eq_ofNat_of_zero_le (show 0 ≤ k by omega)
            have hw : IntKind.i64.wrap (lastI (-1) done + IntKind.i64.wrap (1 + n)) = lastI (-1) done + 1 + n := by rw [wrap_id (a := 1 + n) (by omega), wrap_id (by omega)]; omega
            have hll := bts_len left
            have hkd := cut_from left k
            repeat' (first | ((with_reducible refine Ev.br0 ?_); (first | refine Ev.brp ?_ | refine Ev.brn ?_); conv => whnf) | ((with_reducible refine Ev.c0 ?_); first | refine Ev.cp ?_ | refine Ev.cn ?_) | (((with_reducible refine Ev.br_pos hiN ?_); conv => whnf)) | (with_reducible refine Ev.c_pos hiN ?_) | (conv in (IntKind.i64.wrap (lastI (-1) done + IntKind.i64.wrap (1 + n))) => rw [hw]) | ((refine Ev.sw ?_); conv => whnf) | refine Ev.sn ?_ | ((with_reducible refine Ev.chk_k ?_ ?_); rotate_left; exact Ev.bt; conv => whnf) | ((with_reducible (refine Ev.RI.run ?_; constructor)) <;> intro _) | ((refine Ev.sg ?_); conv => whnf) | ((with_reducible refine Ev.sided ?_ ?_); conv => whnf) | ((with_reducible refine Ev.kr (hs := [128]) (fun Q hQ => ?_)); (simp only [Ev.runE_cons, Ev.runE_nil]); conv => whnf) | (with_reducible refine hQ _ ?_; clear hQ Q) | ((refine Ev.sf ?_); intro F hF; conv => whnf) | (with_reducible refine hF _ ?_; clear hF F) | ((with_reducible refine Ev.go_k (fun c' => ?_)); conv => whnf) | ((with_reducible refine Ev.il0 128 ?_); refine Ev.il 128 [0, 1, 4, 5, 6, 7, 12, 28] [.tmp 4] Tryd.func128 (comp128 _ rfl) (fun ct' => ?_)) | ((with_reducible refine Ev.ca0 ?_); (first | refine Ev.ca (ntake_is hq' hle') ?_); conv => whnf) | ((with_reducible refine Ev.dr0 ?_); (first | refine Ev.dr 16 [128] [0, 1, 2, 3, 4] ?_ | refine Ev.dr 17 [128] [0, 1, 2, 3, 4, 5, 7, 6, 8, 9] ?_); intro Q hQ; (simp only [Ev.runE_cons, Ev.runE_nil]); conv => whnf) | ((first | refine Ev.el_map0 ?_ (fun hi => ?_) | refine Ev.el_mapN ?_ (fun hi => ?_)); rotate_left; conv => whnf) | ((with_reducible refine Ev.sd0 ?_); exact Ev.sd) | fail)
            · omega
            · exact ⟨(rTakeA_bad (rt_big h0 ht hq' (by assumption))).symm, rfl⟩
            · have hx1 : ¬ 268435455 < lastI (-1) done + 1 + n := by assumption
              have hst := rt_step ht hq' hx1
              have hls := lastI_snoc (-1) done (lastI (-1) done + 1 + n)
              have hdr : (left.drop k).length ≤ left.length := by rw [List.length_drop]; omega
              obtain rfl : done = [] := List.eq_nil_of_length_eq_zero (by omega)
              have hr2 : List.take 1 (List.drop 0 [[AV.v (.int .i64 (lastI (-1) [] + 1 + n))]]) = ints ([] ++ [lastI (-1) [] + 1 + n]) := rfl
              subst hi
              (refine Ev.again (m) _ ?hm2 ?hs2 ?hh2 ?hc2 ⟨0 + 1, ?_, left.drop k, [] ++ [lastI (-1) [] + 1 + n], .own 6680 (c' + 8) 0 (0 + 1), [(6680, ⟨1, 3, c' + 8, 0, false, ints ([] ++ [lastI (-1) [] + 1 + n])⟩)], rfl, ?hp2⟩; (case hs2 | hh2 => ((repeat' (first | exact trivial | refine And.intro ?_ ?_)) <;> (first | exact Ev.se | (refine Ev.slot_eq rfl ?_; first | (first | exact wrap_succ (by omega) | exact hls.symm | exact congrArg (fun n => Blk.mk 1 3 _ 0 false n) hr2 | exact congrArg (fun n => Blk.mk 2 149 0 0 true [[AV.lst 1 n, .v (.int .i64 0)]]) hkd | rfl) | ((first | refine Ev.int_eq ?_ | refine Ev.own_eq ?_ | refine Ev.blk_eq ?_); (first | exact wrap_succ (by omega) | exact hls.symm | exact congrArg (fun n => Blk.mk 1 3 _ 0 false n) hr2 | exact congrArg (fun n => Blk.mk 2 149 0 0 true [[AV.lst 1 n, .v (.int .i64 0)]]) hkd | rfl))) | exact Ev.sr))); (case hc2 => exact Nat.le_refl _); (case hm2 => omega))
              refine ⟨.inr ⟨by omega, _, rfl, rfl⟩, by simp [], by omega, by omega, by rw [hls]; omega, by rw [hls]; omega, ?_⟩
              exact hst
          · repeat' (first | ((with_reducible refine Ev.br0 ?_); (first | refine Ev.brp ?_ | refine Ev.brn ?_); conv => whnf) | ((with_reducible refine Ev.c0 ?_); first | refine Ev.cp ?_ | refine Ev.cn ?_) | (((with_reducible refine Ev.br_pos hiN ?_); conv => whnf)) | (with_reducible refine Ev.c_pos hiN ?_) | ((refine Ev.sw ?_); conv => whnf) | refine Ev.sn ?_ | ((with_reducible refine Ev.chk_k ?_ ?_); rotate_left; exact Ev.bt; conv => whnf) | ((with_reducible (refine Ev.RI.run ?_; constructor)) <;> intro _) | ((refine Ev.sg ?_); conv => whnf) | ((with_reducible refine Ev.sided ?_ ?_); conv => whnf) | ((with_reducible refine Ev.kr (hs := [128]) (fun Q hQ => ?_)); (simp only [Ev.runE_cons, Ev.runE_nil]); conv => whnf) | (with_reducible refine hQ _ ?_; clear hQ Q) | ((refine Ev.sf ?_); intro F hF; conv => whnf) | (with_reducible refine hF _ ?_; clear hF F) | ((with_reducible refine Ev.go_k (fun c' => ?_)); conv => whnf) | ((with_reducible refine Ev.il0 128 ?_); refine Ev.il 128 [0, 1, 4, 5, 6, 7, 12, 28] [.tmp 4] Tryd.func128 (comp128 _ rfl) (fun ct' => ?_)) | ((with_reducible refine Ev.ca0 ?_); (first | refine Ev.ca (ntake_is hq' hle') ?_); conv => whnf) | ((with_reducible refine Ev.dr0 ?_); (first | refine Ev.dr 16 [128] [0, 1, 2, 3, 4] ?_ | refine Ev.dr 17 [128] [0, 1, 2, 3, 4, 5, 7, 6, 8, 9] ?_); intro Q hQ; (simp only [Ev.runE_cons, Ev.runE_nil]); conv => whnf) | ((first | refine Ev.el_map0 ?_ (fun hi => ?_) | refine Ev.el_mapN ?_ (fun hi => ?_)); rotate_left; conv => whnf) | ((with_reducible refine Ev.sd0 ?_); exact Ev.sd) | fail)
            exact ⟨(rTakeA_bad (rt_err h0 ht hq' (by decide))).symm, rfl⟩
          · repeat' (first | ((with_reducible refine Ev.br0 ?_); (first | refine Ev.brp ?_ | refine Ev.brn ?_); conv => whnf) | ((with_reducible refine Ev.c0 ?_); first | refine Ev.cp ?_ | refine Ev.cn ?_) | (((with_reducible refine Ev.br_pos hiN ?_); conv => whnf)) | (with_reducible refine Ev.c_pos hiN ?_) | ((refine Ev.sw ?_); conv => whnf) | refine Ev.sn ?_ | ((with_reducible refine Ev.chk_k ?_ ?_); rotate_left; exact Ev.bt; conv => whnf) | ((with_reducible (refine Ev.RI.run ?_; constructor)) <;> intro _) | ((refine Ev.sg ?_); conv => whnf) | ((with_reducible refine Ev.sided ?_ ?_); conv => whnf) | ((with_reducible refine Ev.kr (hs := [128]) (fun Q hQ => ?_)); (simp only [Ev.runE_cons, Ev.runE_nil]); conv => whnf) | (with_reducible refine hQ _ ?_; clear hQ Q) | ((refine Ev.sf ?_); intro F hF; conv => whnf) | (with_reducible refine hF _ ?_; clear hF F) | ((with_reducible refine Ev.go_k (fun c' => ?_)); conv => whnf) | ((with_reducible refine Ev.il0 128 ?_); refine Ev.il 128 [0, 1, 4, 5, 6, 7, 12, 28] [.tmp 4] Tryd.func128 (comp128 _ rfl) (fun ct' => ?_)) | ((with_reducible refine Ev.ca0 ?_); (first | refine Ev.ca (ntake_is hq' hle') ?_); conv => whnf) | ((with_reducible refine Ev.dr0 ?_); (first | refine Ev.dr 16 [128] [0, 1, 2, 3, 4] ?_ | refine Ev.dr 17 [128] [0, 1, 2, 3, 4, 5, 7, 6, 8, 9] ?_); intro Q hQ; (simp only [Ev.runE_cons, Ev.runE_nil]); conv => whnf) | ((first | refine Ev.el_map0 ?_ (fun hi => ?_) | refine Ev.el_mapN ?_ (fun hi => ?_)); rotate_left; conv => whnf) | ((with_reducible refine Ev.sd0 ?_); exact Ev.sd) | fail)
            exact ⟨(rTakeA_bad (rt_err h0 ht hq' (by decide))).symm, rfl⟩
        · obtain ⟨m, rfl⟩ : ∃ m', m = m' + 1 := ⟨m - 1, by omega⟩
          rcases takeN_bad left with ⟨n, k, hq'⟩ | hq' | hq'
          · obtain ⟨b1', b2', b3', b4', b5', b6', b7'⟩ := put_take hq'
            obtain ⟨k, rfl⟩ := Int.eq_ofNat_of_zero_le (show 0 ≤ k by omega)
            have hw : IntKind.i64.wrap (lastI (-1) done + IntKind.i64.wrap (1 + n)) = lastI (-1) done + 1 + n := by rw [wrap_id (a := 1 + n) (by omega), wrap_id (by omega)]; omega
            have hll := bts_len left
            have hkd := cut_from left k
            repeat' (first | ((with_reducible refine Ev.br0 ?_); (first | refine Ev.brp ?_ | refine Ev.brn ?_); conv => whnf) | ((with_reducible refine Ev.c0 ?_); first | refine Ev.cp ?_ | refine Ev.cn ?_) | (((with_reducible refine Ev.br_pos hiN ?_); conv => whnf)) | (with_reducible refine Ev.c_pos hiN ?_) | (conv in (IntKind.i64.wrap (lastI (-1) done + IntKind.i64.wrap (1 + n))) => rw [hw]) | ((refine Ev.sw ?_); conv => whnf) | refine Ev.sn ?_ | ((with_reducible refine Ev.chk_k ?_ ?_); rotate_left; exact Ev.bt; conv => whnf) | ((with_reducible (refine Ev.RI.run ?_; constructor)) <;> intro _) | ((refine Ev.sg ?_); conv => whnf) | ((with_reducible refine Ev.sided ?_ ?_); conv => whnf) | ((with_reducible refine Ev.kr (hs := [128]) (fun Q hQ => ?_)); (simp only [Ev.runE_cons, Ev.runE_nil]); conv => whnf) | (with_reducible refine hQ _ ?_; clear hQ Q) | ((refine Ev.sf ?_); intro F hF; conv => whnf) | (with_reducible refine hF _ ?_; clear hF F) | ((with_reducible refine Ev.go_k (fun c' => ?_)); conv => whnf) | ((with_reducible refine Ev.il0 128 ?_); refine Ev.il 128 [0, 1, 4, 5, 6, 7, 12, 28] [.tmp 4] Tryd.func128 (comp128 _ rfl) (fun ct' => ?_)) | ((with_reducible refine Ev.ca0 ?_); (first | refine Ev.ca (ntake_is hq' hle') ?_); conv => whnf) | ((with_reducible refine Ev.dr0 ?_); (first | refine Ev.dr 16 [128] [0, 1, 2, 3, 4] ?_ | refine Ev.dr 17 [128] [0, 1, 2, 3, 4, 5, 7, 6, 8, 9] ?_); intro Q hQ; (simp only [Ev.runE_cons, Ev.runE_nil]); conv => whnf) | ((first | refine Ev.el_map0 ?_ (fun hi => ?_) | refine Ev.el_mapN ?_ (fun hi => ?_)); rotate_left; conv => whnf) | ((with_reducible refine Ev.sd0 ?_); exact Ev.sd) | fail)
            · omega
            · exact ⟨(rTakeA_bad (rt_big h0 ht hq' (by assumption))).symm, rfl⟩
            · have hx1 : ¬ 268435455 < lastI (-1) done + 1 + n := by assumption
              have hst := rt_step ht hq' hx1
              have hls := lastI_snoc (-1) done (lastI (-1) done + 1 + n)
              have hdr : (left.drop k).length ≤ left.length := by rw [List.length_drop]; omega
              have hr2 : ints done ++ List.take 1 (List.drop 0 [[AV.v (.int .i64 (lastI (-1) done + 1 + n))]]) = ints (done ++ [lastI (-1) done + 1 + n]) := by simp [ints]
              (refine Ev.again (m) _ ?hm3 ?hs3 ?hh3 ?hc3 ⟨i + 1, ?_, left.drop k, done ++ [lastI (-1) done + 1 + n], .own 6680 (c' + 8) 0 (i + 1), [(6680, ⟨1, 3, c' + 8, 0, false, ints (done ++ [lastI (-1) done + 1 + n])⟩)], rfl, ?hp3⟩; (case hs3 | hh3 => ((repeat' (first | exact trivial | refine And.intro ?_ ?_)) <;> (first | exact Ev.se | (refine Ev.slot_eq rfl ?_; first | (first | exact wrap_succ (by omega) | exact hls.symm | exact congrArg (fun n => Blk.mk 1 3 _ 0 false n) hr2 | exact congrArg (fun n => Blk.mk 2 149 0 0 true [[AV.lst 1 n, .v (.int .i64 0)]]) hkd | rfl) | ((first | refine Ev.int_eq ?_ | refine Ev.own_eq ?_ | refine Ev.blk_eq ?_); (first | exact wrap_succ (by omega) | exact hls.symm | exact congrArg (fun n => Blk.mk 1 3 _ 0 false n) hr2 | exact congrArg (fun n => Blk.mk 2 149 0 0 true [[AV.lst 1 n, .v (.int .i64 0)]]) hkd | rfl))) | exact Ev.sr))); (case hc3 => exact Nat.le_refl _); (case hm3 => omega))
              refine ⟨.inr ⟨by omega, _, rfl, rfl⟩, by simp [hd], by omega, by omega, by rw [hls]; omega, by rw [hls]; omega, ?_⟩
              exact hst
          · repeat' (first | ((with_reducible refine Ev.br0 ?_); (first | refine Ev.brp ?_ | refine Ev.brn ?_); conv => whnf) | ((with_reducible refine Ev.c0 ?_); first | refine Ev.cp ?_ | refine Ev.cn ?_) | (((with_reducible refine Ev.br_pos hiN ?_); conv => whnf)) | (with_reducible refine Ev.c_pos hiN ?_) | ((refine Ev.sw ?_); conv => whnf) | refine Ev.sn ?_ | ((with_reducible refine Ev.chk_k ?_ ?_); rotate_left; exact Ev.bt; conv => whnf) | ((with_reducible (refine Ev.RI.run ?_; constructor)) <;> intro _) | ((refine Ev.sg ?_); conv => whnf) | ((with_reducible refine Ev.sided ?_ ?_); conv => whnf) | ((with_reducible refine Ev.kr (hs := [128]) (fun Q hQ => ?_)); (simp only [Ev.runE_cons, Ev.runE_nil]); conv => whnf) | (with_reducible refine hQ _ ?_; clear hQ Q) | ((refine Ev.sf ?_); intro F hF; conv => whnf) | (with_reducible refine hF _ ?_; clear hF F) | ((with_reducible refine Ev.go_k (fun c' => ?_)); conv => whnf) | ((with_reducible refine Ev.il0 128 ?_); refine Ev.il 128 [0, 1, 4, 5, 6, 7, 12, 28] [.tmp 4] Tryd.func128 (comp128 _ rfl) (fun ct' => ?_)) | ((with_reducible refine Ev.ca0 ?_); (first | refine Ev.ca (ntake_is hq' hle') ?_); conv => whnf) | ((with_reducible refine Ev.dr0 ?_); (first | refine Ev.dr 16 [128] [0, 1, 2, 3, 4] ?_ | refine Ev.dr 17 [128] [0, 1, 2, 3, 4, 5, 7, 6, 8, 9] ?_); intro Q hQ; (simp only [Ev.runE_cons, Ev.runE_nil]); conv => whnf) | ((first | refine Ev.el_map0 ?_ (fun hi => ?_) | refine Ev.el_mapN ?_ (fun hi => ?_)); rotate_left; conv => whnf) | ((with_reducible refine Ev.sd0 ?_); exact Ev.sd) | fail)
            exact ⟨(rTakeA_bad (rt_err h0 ht hq' (by decide))).symm, rfl⟩
          · repeat' (first | ((with_reducible refine Ev.br0 ?_); (first | refine Ev.brp ?_ | refine Ev.brn ?_); conv => whnf) | ((with_reducible refine Ev.c0 ?_); first | refine Ev.cp ?_ | refine Ev.cn ?_) | (((with_reducible refine Ev.br_pos hiN ?_); conv => whnf)) | (with_reducible refine Ev.c_pos hiN ?_) | ((refine Ev.sw ?_); conv => whnf) | refine Ev.sn ?_ | ((with_reducible refine Ev.chk_k ?_ ?_); rotate_left; exact Ev.bt; conv => whnf) | ((with_reducible (refine Ev.RI.run ?_; constructor)) <;> intro _) | ((refine Ev.sg ?_); conv => whnf) | ((with_reducible refine Ev.sided ?_ ?_); conv => whnf) | ((with_reducible refine Ev.kr (hs := [128]) (fun Q hQ => ?_)); (simp only [Ev.runE_cons, Ev.runE_nil]); conv => whnf) | (with_reducible refine hQ _ ?_; clear hQ Q) | ((refine Ev.sf ?_); intro F hF; conv => whnf) | (with_reducible refine hF _ ?_; clear hF F) | ((with_reducible refine Ev.go_k (fun c' => ?_)); conv => whnf) | ((with_reducible refine Ev.il0 128 ?_); refine Ev.il 128 [0, 1, 4, 5, 6, 7, 12, 28] [.tmp 4] Tryd.func128 (comp128 _ rfl) (fun ct' => ?_)) | ((with_reducible refine Ev.ca0 ?_); (first | refine Ev.ca (ntake_is hq' hle') ?_); conv => whnf) | ((with_reducible refine Ev.dr0 ?_); (first | refine Ev.dr 16 [128] [0, 1, 2, 3, 4] ?_ | refine Ev.dr 17 [128] [0, 1, 2, 3, 4, 5, 7, 6, 8, 9] ?_); intro Q hQ; (simp only [Ev.runE_cons, Ev.runE_nil]); conv => whnf) | ((first | refine Ev.el_map0 ?_ (fun hi => ?_) | refine Ev.el_mapN ?_ (fun hi => ?_)); rotate_left; conv => whnf) | ((with_reducible refine Ev.sd0 ?_); exact Ev.sd) | fail)
            exact ⟨(rTakeA_bad (rt_err h0 ht hq' (by decide))).symm, rfl⟩
      · rcases hsg with ⟨hi, rfl, rfl⟩ | ⟨hi, u, rfl, rfl⟩
        · omega
        · obtain rfl : m = 0 := by omega
          repeat' (first | ((with_reducible refine Ev.br0 ?_); (first | refine Ev.brp ?_ | refine Ev.brn ?_); conv => whnf) | ((with_reducible refine Ev.c0 ?_); first | refine Ev.cp ?_ | refine Ev.cn ?_) | (((with_reducible refine Ev.br_neg hiN ?_); conv => whnf)) | (with_reducible refine Ev.c_neg hiN ?_) | ((refine Ev.sw ?_); conv => whnf) | refine Ev.sn ?_ | ((with_reducible refine Ev.chk_k ?_ ?_); rotate_left; exact Ev.bt; conv => whnf) | ((with_reducible (refine Ev.RI.run ?_; constructor)) <;> intro _) | ((refine Ev.sg ?_); conv => whnf) | ((with_reducible refine Ev.sided ?_ ?_); conv => whnf) | ((with_reducible refine Ev.kr (hs := [128]) (fun Q hQ => ?_)); (simp only [Ev.runE_cons, Ev.runE_nil]); conv => whnf) | (with_reducible refine hQ _ ?_; clear hQ Q) | ((refine Ev.sf ?_); intro F hF; conv => whnf) | (with_reducible refine hF _ ?_; clear hF F) | ((with_reducible refine Ev.go_k (fun c' => ?_)); conv => whnf) | ((with_reducible refine Ev.il0 128 ?_); refine Ev.il 128 [0, 1, 4, 5, 6, 7, 12, 28] [.tmp 4] Tryd.func128 (comp128 _ rfl) (fun ct' => ?_)) | ((with_reducible refine Ev.dr0 ?_); (first | refine Ev.dr 16 [128] [0, 1, 2, 3, 4] ?_ | refine Ev.dr 17 [128] [0, 1, 2, 3, 4, 5, 7, 6, 8, 9] ?_); intro Q hQ; (simp only [Ev.runE_cons, Ev.runE_nil]); conv => whnf) | ((first | refine Ev.el_map0 ?_ (fun hi => ?_) | refine Ev.el_mapN ?_ (fun hi => ?_)); rotate_left; conv => whnf) | ((with_reducible refine Ev.sd0 ?_); exact Ev.sd) | fail)
          have hil := ints_len done
          have hll := bts_len left
          have hre := rt_end h0 ht
          refine ⟨?_, rfl⟩
          rw [rTakeA_ok hre, hbl, hll, wrap_id (a := (b.length : Int) - left.length) (by omega)]
          exact Ev.tup3_eq (Ev.lst_eq (Ev.take_all (by omega) rfl)) rfl rfl
  · refine Ev.fn [0, 2, 3, 4, 5, 6, 7, 8, 20, 22, 23, 24, 36, 40, 48] 0 [.tmp 2, .tmp 3, .tmp 4] Tryd.func90 (comp90 _ rfl) ?_
    repeat' (first | ((with_reducible refine Ev.br0 ?_); (first | refine Ev.brp ?_ | refine Ev.brn ?_); conv => whnf) | ((with_reducible refine Ev.c0 ?_); first | refine Ev.cp ?_ | refine Ev.cn ?_) | ((refine Ev.sw ?_); conv => whnf) | refine Ev.sn ?_ | ((with_reducible refine Ev.chk_k ?_ ?_); rotate_left; exact Ev.bt; conv => whnf) | ((with_reducible (refine Ev.RI.run ?_; constructor)) <;> intro _) | ((refine Ev.sg ?_); conv => whnf) | ((with_reducible refine Ev.sided ?_ ?_); conv => whnf) | ((with_reducible refine Ev.kr (hs := [128]) (fun Q hQ => ?_)); (simp only [Ev.runE_cons, Ev.runE_nil]); conv => whnf) | (with_reducible refine hQ _ ?_; clear hQ Q) | ((refine Ev.sf ?_); intro F hF; conv => whnf) | (with_reducible refine hF _ ?_; clear hF F) | ((with_reducible refine Ev.go_k (fun c' => ?_)); conv => whnf) | ((with_reducible refine Ev.il0 128 ?_); refine Ev.il 128 [0, 1, 4, 5, 6, 7, 12, 28] [.tmp 4] Tryd.func128 (comp128 _ rfl) (fun ct' => ?_)) | ((with_reducible refine Ev.ca0 ?_); (first | refine Ev.ca (ntake_is hq hb) ?_); conv => whnf) | (with_reducible refine Ev.unroll 1 ?_) | ((with_reducible refine Ev.dr0 ?_); (first | refine Ev.dr 16 [128] [0, 1, 2, 3, 4] ?_ | refine Ev.dr 17 [128] [0, 1, 2, 3, 4, 5, 7, 6, 8, 9] ?_); intro Q hQ; (simp only [Ev.runE_cons, Ev.runE_nil]); conv => whnf) | ((first | refine Ev.el_map0 ?_ (fun hi => ?_) | refine Ev.el_mapN ?_ (fun hi => ?_)); rotate_left; conv => whnf) | ((with_reducible refine Ev.sd0 ?_); exact Ev.sd) | fail)
    exact ⟨(rTakeA_bad (take_err hq (by decide))).symm, rfl⟩
  · refine Ev.fn [0, 2, 3, 4, 5, 6, 7, 8, 20, 22, 23, 24, 36, 40, 48] 0 [.tmp 2, .tmp 3, .tmp 4] Tryd.func90 (comp90 _ rfl) ?_
    repeat' (first | ((with_reducible refine Ev.br0 ?_); (first | refine Ev.brp ?_ | refine Ev.brn ?_); conv => whnf) | ((with_reducible refine Ev.c0 ?_); first | refine Ev.cp ?_ | refine Ev.cn ?_) | ((refine Ev.sw ?_); conv => whnf) | refine Ev.sn ?_ | ((with_reducible refine Ev.chk_k ?_ ?_); rotate_left; exact Ev.bt; conv => whnf) | ((with_reducible (refine Ev.RI.run ?_; constructor)) <;> intro _) | ((refine Ev.sg ?_); conv => whnf) | ((with_reducible refine Ev.sided ?_ ?_); conv => whnf) | ((with_reducible refine Ev.kr (hs := [128]) (fun Q hQ => ?_)); (simp only [Ev.runE_cons, Ev.runE_nil]); conv => whnf) | (with_reducible refine hQ _ ?_; clear hQ Q) | ((refine Ev.sf ?_); intro F hF; conv => whnf) | (with_reducible refine hF _ ?_; clear hF F) | ((with_reducible refine Ev.go_k (fun c' => ?_)); conv => whnf) | ((with_reducible refine Ev.il0 128 ?_); refine Ev.il 128 [0, 1, 4, 5, 6, 7, 12, 28] [.tmp 4] Tryd.func128 (comp128 _ rfl) (fun ct' => ?_)) | ((with_reducible refine Ev.ca0 ?_); (first | refine Ev.ca (ntake_is hq hb) ?_); conv => whnf) | (with_reducible refine Ev.unroll 1 ?_) | ((with_reducible refine Ev.dr0 ?_); (first | refine Ev.dr 16 [128] [0, 1, 2, 3, 4] ?_ | refine Ev.dr 17 [128] [0, 1, 2, 3, 4, 5, 7, 6, 8, 9] ?_); intro Q hQ; (simp only [Ev.runE_cons, Ev.runE_nil]); conv => whnf) | ((first | refine Ev.el_map0 ?_ (fun hi => ?_) | refine Ev.el_mapN ?_ (fun hi => ?_)); rotate_left; conv => whnf) | ((with_reducible refine Ev.sd0 ?_); exact Ev.sd) | fail)
    exact ⟨(rTakeA_bad (take_err hq (by decide))).symm, rfl⟩
end Go.Proofs.YtadlnaljicikfaaDoor.Abs

namespace Go.Proofs.YtadlnaljicikfaaDoor.Abs
open Go
set_option maxRecDepth 100000
set_option linter.unusedSimpArgs false
set_option linter.unusedVariables false
attribute [local irreducible] Ev.Unr Ev.Go' Ev.bytK Ev.runK Ev.FinL Ev.brC Ev.Side Ev.Wp Ev.Again Ev.To Ev.Fin
open Go.Lib Go.RowKit
theorem comp71 : ∀ c, Tryd.f71.body = some c → comp c = (.seq (.reg 0 [I.n 0 2 I.sn]) (.seq (.reg 1 [I.n 0 7 (.buildSlice 23 0 #[]), I.n 1 3 (I.sa 7)]) (.seq (.seq (.reg 2 [I.n 0 4 (I.si 0)]) (.block 0 (.loop (.seq (.seq (.reg 3 [I.n 0 8 (I.mv 4), I.n 1 9 (I.mv 0), I.n 2 10 (I.ln 9 23), I.n 3 11 (I.bo .lss 3 8 10 3)]) (.cond (.tmp 11) .skip (.exit 0))) (.seq (.block 1 (.seq (.reg 5 [I.n 0 14 (I.mv 0), I.n 1 15 (I.mv 4), I.n 2 16 (I.ia 23 14 15), I.n 3 17 (I.ld 35 16), I.n 4 5 (.alloc 35), I.u 5 (I.st 35 5 17)]) (.seq (.seq (.reg 6 [I.n 0 18 (I.fa 35 5 1), I.n 1 19 (I.ld 3 18), I.n 2 20 (I.bc .eql 3 19 0 3), I.n 3 21 (I.mv 20), I.w 4 22 (I.fa 35 5 2) 21 true, I.w 5 23 (I.ld 9 22) 21 true, I.w 6 24 (.binOp .eql 9 (.tmp 23) (.const (Value.string { data := #[] })) 9) 21 true, I.n 7 25 (I.pc 21 24 false)]) (.cond (.tmp 25) (.exit 1) .skip)) (.seq (.reg 7 [I.n 0 26 (I.mv 3), I.n 1 27 (I.ln 26 23), I.n 2 6 (I.sa 27)]) (.seq (.draw 8 [I.n 0 28 (I.mv 6), I.n 1 29 (I.bc .gtr 3 28 0 3), I.n 2 30 (I.mv 29), I.w 3 31 (I.mv 3) 30 true, I.w 4 32 (I.mv 6) 30 true, I.w 5 33 (I.bc .sub 3 32 1 3) 30 true, I.w 6 34 (I.ia 23 31 33) 30 true, I.w 7 35 (I.fa 35 34 0) 30 true, I.w 8 36 (I.ld 3 35) 30 true, I.w 9 37 (I.fa 35 5 0) 30 true, I.w 10 38 (I.ld 3 37) 30 true, I.w 11 39 (I.bo .eql 3 36 38 3) 30 true, I.n 12 40 (I.pc 30 39 false)] [[], [0], [1], [2], [2], [4, 2], [3, 5, 2], [6, 2], [7, 2], [2], [9, 2], [8, 10, 2], [2, 11]]) (.cond (.tmp 40) (.seq (.draw 9 [I.n 0 41 (I.mv 3), I.n 1 42 (I.mv 6), I.n 2 43 (I.bc .sub 3 42 1 3), I.n 3 44 (I.mv 3), I.n 4 45 (I.mv 6), I.n 5 46 (I.bc .sub 3 45 1 3), I.n 6 47 (I.ia 23 44 46), I.n 7 48 (I.fa 35 47 1), I.n 8 49 (I.ld 3 48), I.n 9 50 (I.fa 35 5 1), I.n 10 51 (I.ld 3 50), I.n 11 52 (I.bo .add 3 49 51 3), I.n 12 53 (I.ia 23 41 43), I.n 13 54 (I.fa 35 53 1), I.u 14 (I.st 3 54 52)] [[], [], [1], [], [], [4], [3, 5], [6], [7], [], [9], [8, 10], [0, 2, 0, 1, 2, 3, 4, 5, 6, 7, 8, 9, 10, 11], [12, 0, 1, 2, 3, 4, 5, 6, 7, 8, 9, 10, 11], [13, 11, 0, 1, 2, 3, 4, 5, 6, 7, 8, 9, 10, 11]]) (.draw 10 [I.n 0 55 (I.mv 3), I.n 1 56 (I.mv 6), I.n 2 57 (I.bc .sub 3 56 1 3), I.n 3 58 (I.mv 3), I.n 4 59 (I.mv 6), I.n 5 60 (I.bc .sub 3 59 1 3), I.n 6 61 (I.ia 23 58 60), I.n 7 62 (I.fa 35 61 2), I.n 8 63 (I.ld 9 62), I.n 9 64 (I.fa 35 5 2), I.n 10 65 (I.ld 9 64), I.n 11 66 (I.bo .add 9 63 65 9), I.n 12 67 (I.ia 23 55 57), I.n 13 68 (I.fa 35 67 2), I.u 14 (I.st 9 68 66)] [[], [], [1], [], [], [4], [3, 5], [6], [7], [], [9], [8, 10], [0, 2, 0, 1, 2, 3, 4, 5, 6, 7, 8, 9, 10, 11], [12, 0, 1, 2, 3, 4, 5, 6, 7, 8, 9, 10, 11], [13, 11, 0, 1, 2, 3, 4, 5, 6, 7, 8, 9, 10, 11]])) (.reg 11 [I.n 0 69 (I.mv 3), I.n 1 70 (I.ld 35 5), I.n 2 71 (I.b1 23 70), I.n 3 72 (I.ap 69 71 23 23), I.n 4 3 (I.sa 72)]))))))) (.reg 4 [I.n 0 12 (I.mv 4), I.n 1 13 (I.bc .add 3 12 1 3), I.n 2 4 (I.sa 13)])))))) (.seq (.reg 12 [I.n 0 73 (I.mv 3), I.n 1 2 (I.sa 73)]) .ret)))) := by
  intro c h
  have : c = Tryd.f71.body.get rfl := by rw [← Option.some_inj, ← h]; rfl
  rw [this]; rfl
def full (l : List Sp) : List Sp := l.filter fun s => !emptyS s
theorem norm_full : ∀ l, norm (full l) = norm l
  | [] => rfl
  | s :: l => by
    have c : ∀ (l : List Sp) (cur : Sp), normC cur (full l) = normC cur l := by
      intro l
      induction l with
      | nil => intro cur; rfl
      | cons s l ih =>
        intro cur
        cases h : emptyS s with
        | true => simp only [full, List.filter_cons, h, normC]; simpa [full] using ih cur
        | false =>
          have : full (s :: l) = s :: full l := by simp [full, List.filter_cons, h]
          rw [this]
          simp only [normC, h]
          split
          · exact absurd ‹_› (by decide)
          · split
            · exact ih _
            · rw [ih]
    cases h : emptyS s with
    | true => simp only [full, List.filter_cons, h, norm]; simpa [full] using norm_full l
    | false =>
      have : full (s :: l) = s :: full l := by simp [full, List.filter_cons, h]
      rw [this]
      simp only [norm, h]
      split
      · exact absurd ‹_› (by decide)
      · exact c l s
theorem sps_all3 (l : List Sp) : ∀ y ∈ sps l, y.length = 3 := by
  intro y hy
  obtain ⟨s, _, rfl⟩ := List.mem_map.1 hy
  rfl
theorem full_len (l : List Sp) : (full l).length ≤ l.length := List.length_filter_le ..
theorem sps_set (l : List Sp) (i : Nat) (s : Sp) : (sps l).set i (spC s) = sps (l.set i s) := by simp [sps, List.map_set]
theorem el_set {es : List (List AV)} {i : Nat} {x : List AV} {F : List AV → Prop} (h : i < es.length) (k : F x) : Ev.elK (es.set i x) i F := by
  unfold Ev.elK; rw [List.getElem?_set_self h]; exact k
theorem tbs_full (l : List Sp) : tbs (full l) ≤ tbs l := by
  induction l with
  | nil => exact Nat.le_refl _
  | cons s l ih =>
    cases h : emptyS s with
    | true => rw [show full (s :: l) = full l by simp [full, List.filter_cons, h], tbs_cons]; omega
    | false => rw [show full (s :: l) = s :: full l by simp [full, List.filter_cons, h], tbs_cons, tbs_cons]; omega
theorem tbs_drop {l : List Sp} {i : Nat} (hi : i < l.length) : tbs (l.drop i) = l[i].t.size + tbs (l.drop (i + 1)) := by rw [List.drop_eq_getElem_cons hi, tbs_cons]
theorem full_ne {l : List Sp} {i : Nat} (hi : i < (full l).length) : emptyS (full l)[i] = false := by
  have := (List.mem_filter.1 (List.getElem_mem hi : (full l)[i] ∈ full l)).2
  simpa using this
theorem normC_at {F : List Sp} {i : Nat} (hi : i < F.length) (h : emptyS F[i] = false) (cur : Sp) : normC cur (F.drop i) = if F[i].k = cur.k then normC (mrg cur F[i]) (F.drop (i + 1)) else cur :: normC F[i] (F.drop (i + 1)) := by
  rw [List.drop_eq_getElem_cons hi]; simp only [normC, h]; rfl
theorem norm_at {l : List Sp} (h0 : 0 < (full l).length) : norm l = normC (full l)[0] ((full l).drop 1) := by
  rw [← norm_full]
  have := full_ne (l := l) h0
  generalize full l = F at *
  cases F with
  | nil => simp at h0
  | cons s F => simp only [List.getElem_cons_zero] at this; simp only [norm, this]; rfl
def CInv (l : List Sp) (i last : Nat) (E : List Sp) : Prop :=
  E.length = l.length ∧ (E.take (full l).length).drop i = (full l).drop i ∧ ((i = 0 ∧ last = 0) ∨ (∃ pre cur, E.take (last + 1) = pre ++ [cur] ∧ pre.length = last ∧ last < i ∧ cur.t.size + tbs ((full l).drop i) ≤ 1000000000 ∧ norm l = pre ++ normC cur ((full l).drop i)))
theorem CInv.at {l E : List Sp} {i last : Nat} (h : CInv l i last E) (hi : i < (full l).length) (h' : i < E.length) : E[i] = (full l)[i] := by
  have e := congrArg (fun l => l[0]?) h.2.1
  simp only [List.getElem?_drop, Nat.add_zero] at e
  rw [List.getElem?_take_of_lt hi, List.getElem?_eq_getElem hi, List.getElem?_eq_getElem h'] at e
  exact Option.some.inj e
theorem CInv.first {l E : List Sp} {last : Nat} (h : CInv l 0 last E) (hi : 0 < (full l).length) (hb : tbs l ≤ 1000000000) : last = 0 ∧ CInv l 1 0 E := by
  have hl := full_len l
  have hE0 : 0 < E.length := by have := h.1; omega
  have ha := h.at hi hE0
  have h3 := h.2.2
  have h2 := h.2.1
  rw [List.drop_zero, List.drop_zero] at h2
  have hl0 : last = 0 := by
    rcases h3 with h | ⟨_, _, _, _, h, _⟩
    · exact h.2
    · omega
  refine ⟨hl0, h.1, by rw [h2], .inr ⟨[], E[0], ?_, rfl, by omega, ?_, ?_⟩⟩
  · rw [List.take_succ_eq_append_getElem hE0]; simp
  · rw [ha]
    have a := tbs_drop hi
    have b := tbs_full l
    rw [List.drop_zero, Nat.zero_add] at a
    omega
  · rw [ha, List.nil_append]; exact norm_at hi
theorem CInv.last {l E : List Sp} {i last : Nat} (h : CInv l i last E) (h0 : 0 < i) : last < i ∧ ∃ pre, ∃ hl : last < E.length, E.take last = pre ∧ pre.length = last ∧ E[last].t.size + tbs ((full l).drop i) ≤ 1000000000 ∧ norm l = pre ++ normC E[last] ((full l).drop i) := by
  rcases h.2.2 with h3 | ⟨pre, cur, h3, h4, h5, h6, h7⟩
  · omega
  · have hl : last < E.length := by
      have := congrArg List.length h3
      rw [List.length_take, List.length_append, List.length_singleton] at this
      omega
    rw [List.take_succ_eq_append_getElem hl] at h3
    have e := List.append_inj h3 (by rw [List.length_take, h4]; omega)
    have e2 : E[last] = cur := by simpa using e.2
    exact ⟨h5, pre, hl, e.1, h4, by rw [e2]; exact h6, by rw [e2]; exact h7⟩
theorem CInv.size {l E : List Sp} {i last : Nat} (h : CInv l i last E) (h0 : 0 < i) (hi : i < (full l).length) (hl : last < E.length) (h' : i < E.length) : E[last].t.size + E[i].t.size ≤ 1000000000 := by
  obtain ⟨_, _, _, _, _, a, _⟩ := h.last h0
  rw [tbs_drop hi, ← h.at hi h'] at a
  omega
theorem CInv.rest {l E : List Sp} {i j : Nat} {x : Sp} (hj : j ≤ i) (h : (E.take (full l).length).drop i = (full l).drop i) : ((E.set j x).take (full l).length).drop (i + 1) = (full l).drop (i + 1) := by
  rw [← List.drop_drop, ← List.drop_drop, ← h, List.take_set, List.drop_drop, List.drop_drop, List.drop_set_of_lt (by omega)]
theorem CInv.same {l E : List Sp} {i last : Nat} (h : CInv l i last E) (h0 : 0 < i) (hi : i < (full l).length) (hl : last < E.length) (h' : i < E.length) (hk : E[i].k = E[last].k) : CInv l (i + 1) last (E.set last (mrg E[last] E[i])) := by
  have ha := h.at hi h'
  obtain ⟨a1, pre, _, a2, a3, a4, a5⟩ := h.last h0
  refine ⟨by simp [h.1], CInv.rest (by omega) h.2.1, .inr ⟨pre, mrg E[last] E[i], ?_, a3, by omega, ?_, ?_⟩⟩
  · rw [List.take_succ_eq_append_getElem (by simp; omega), List.take_set_of_le (Nat.le_refl _), a2, List.getElem_set_self]
  · rw [tbs_drop hi, ← ha] at a4
    show (E[last].t ++ E[i].t).size + _ ≤ _
    rw [ByteArray.size_append]; omega
  · rw [a5, normC_at hi (full_ne hi), ← ha, if_pos hk]
theorem CInv.new {l E : List Sp} {i last : Nat} (h : CInv l i last E) (h0 : 0 < i) (hi : i < (full l).length) (hl : last < E.length) (h' : i < E.length) (hk : E[i].k ≠ E[last].k) : CInv l (i + 1) (last + 1) (E.set (last + 1) E[i]) := by
  have ha := h.at hi h'
  obtain ⟨a1, pre, _, a2, a3, a4, a5⟩ := h.last h0
  refine ⟨by simp [h.1], CInv.rest (by omega) h.2.1, .inr ⟨pre ++ [E[last]], E[i], ?_, by simp [a3], by omega, ?_, ?_⟩⟩
  · rw [List.take_succ_eq_append_getElem (by simp; omega), List.take_set_of_le (Nat.le_refl _), List.take_succ_eq_append_getElem hl, a2, List.getElem_set_self]
  · rw [tbs_drop hi, ← ha] at a4
    omega
  · rw [a5, normC_at hi (full_ne hi), ← ha, if_neg hk]; simp
theorem CInv.end {l E : List Sp} {last : Nat} (h : CInv l (full l).length last E) : E.take (min (last + 1) (full l).length) = norm l := by
  have hfl := full_len l
  by_cases h0 : (full l).length = 0
  · rw [h0, Nat.min_zero, List.take_zero, ← norm_full, List.eq_nil_of_length_eq_zero h0]; rfl
  · obtain ⟨a1, pre, a6, a2, a3, a4, a5⟩ := h.last (by omega)
    rw [Nat.min_eq_left (by omega), List.take_succ_eq_append_getElem a6, a2, a5, List.drop_of_length_le (Nat.le_refl _)]
    rfl
end Go.Proofs.YtadlnaljicikfaaDoor.Abs

namespace Go.Proofs.YtadlnaljicikfaaDoor.Abs
open Go
set_option maxRecDepth 100000
set_option linter.unusedSimpArgs false
set_option linter.unusedVariables false
attribute [local irreducible] Ev.Unr Ev.Go' Ev.bytK Ev.runK Ev.FinL Ev.brC Ev.Side Ev.Wp Ev.Again Ev.To Ev.Fin
open Go.Lib Go.RowKit
def normA (acc : List Sp) (s : Sp) : List Sp :=
  if emptyS s then acc
  else match acc.getLast? with
    | none => [s]
    | some c => if s.k = c.k then acc.set (acc.length - 1) (mrg c s) else acc ++ [s]
theorem normA_empty {acc : List Sp} {s : Sp} (h : emptyS s = true) : normA acc s = acc := by unfold normA; rw [if_pos h]
theorem normA_nil {s : Sp} (h : emptyS s = false) : normA [] s = [s] := by unfold normA; rw [h]; rfl
theorem normA_same {acc : List Sp} {s : Sp} {n : Nat} (h : emptyS s = false) (hn : acc.length = n + 1) (h' : n < acc.length) (hk : acc[n].k = s.k) : normA acc s = acc.set n (mrg acc[n] s) := by
  unfold normA
  rw [h, List.getLast?_eq_getElem?, show acc.length - 1 = n by omega, List.getElem?_eq_getElem h']
  simp [hk]
theorem normA_new {acc : List Sp} {s : Sp} {n : Nat} (h : emptyS s = false) (hn : acc.length = n + 1) (h' : n < acc.length) (hk : acc[n].k ≠ s.k) : normA acc s = acc ++ [s] := by
  unfold normA
  rw [h, List.getLast?_eq_getElem?, show acc.length - 1 = n by omega, List.getElem?_eq_getElem h']
  simp [Ne.symm hk]
theorem normA_fold : ∀ (l : List Sp) (pre : List Sp) (cur : Sp), l.foldl normA (pre ++ [cur]) = pre ++ normC cur l
  | [], pre, cur => rfl
  | s :: l, pre, cur => by
    rw [List.foldl_cons]
    simp only [normC]
    cases h : emptyS s with
    | true => rw [normA_empty h, if_pos rfl, normA_fold l]
    | false =>
      have hn : (pre ++ [cur]).length = pre.length + 1 := by simp
      have h' : pre.length < (pre ++ [cur]).length := by omega
      have hg : (pre ++ [cur])[pre.length] = cur := by simp
      rw [if_neg (by decide)]
      by_cases hk : s.k = cur.k
      · rw [normA_same h hn h' (by rw [hg, hk]), if_pos hk, hg]
        have : (pre ++ [cur]).set pre.length (mrg cur s) = pre ++ [mrg cur s] := by simp
        rw [this, normA_fold l]
      · rw [normA_new h hn h' (by rw [hg]; exact fun e => hk e.symm), if_neg hk, normA_fold l, List.append_assoc]; rfl
theorem normA_all : ∀ l : List Sp, l.foldl normA [] = norm l
  | [] => rfl
  | s :: l => by
    rw [List.foldl_cons]
    simp only [norm]
    cases h : emptyS s with
    | true => rw [normA_empty h, if_pos rfl, normA_all l]
    | false => rw [normA_nil h, if_neg (by decide)]; exact normA_fold l [] s
theorem tbs_app (a b : List Sp) : tbs (a ++ b) = tbs a + tbs b := by unfold tbs; rw [List.map_append, List.sum_append]
theorem normA_tbs (acc : List Sp) (s : Sp) : tbs (normA acc s) ≤ tbs acc + s.t.size := by
  unfold normA
  split
  · omega
  · rcases List.eq_nil_or_concat acc with rfl | ⟨pre, c, rfl⟩
    · simp [tbs]
    · have h : (pre ++ [c]).getLast? = some c := by simp
      rw [List.concat_eq_append, h]; simp only
      split
      · have e : (pre ++ [c]).set ((pre ++ [c]).length - 1) (mrg c s) = pre ++ [mrg c s] := by simp
        rw [e, tbs_app, tbs_app]; simp [tbs, mrg, ByteArray.size_append]; omega
      · rw [tbs_app _ [s]]; simp [tbs]
theorem normA_len (acc : List Sp) (s : Sp) : (normA acc s).length ≤ acc.length + 1 := by
  unfold normA
  split
  · omega
  · split
    · simp
    · split <;> simp
def normTo (l : List Sp) (i : Nat) : List Sp := (l.take i).foldl normA []
theorem normTo_succ {l : List Sp} {i : Nat} (hi : i < l.length) : normTo l (i + 1) = normA (normTo l i) l[i] := by
  unfold normTo; rw [List.take_succ_eq_append_getElem hi, List.foldl_append]; rfl
theorem normTo_all {l : List Sp} {i : Nat} (hi : l.length ≤ i) : normTo l i = norm l := by
  unfold normTo; rw [List.take_of_length_le hi, normA_all]
theorem normTo_len (l : List Sp) : ∀ i, (normTo l i).length ≤ i
  | 0 => by simp [normTo]
  | i + 1 => by
    by_cases hi : i < l.length
    · rw [normTo_succ hi]; have := normA_len (normTo l i) l[i]; have := normTo_len l i; omega
    · have e : normTo l (i + 1) = normTo l i := by unfold normTo; rw [List.take_of_length_le (by omega), List.take_of_length_le (by omega)]
      rw [e]; have := normTo_len l i; omega
theorem normTo_tbs (l : List Sp) : ∀ i, tbs (normTo l i) ≤ tbs (l.take i)
  | 0 => by simp [normTo]
  | i + 1 => by
    by_cases hi : i < l.length
    · rw [normTo_succ hi, tbs_take l hi]; have := normA_tbs (normTo l i) l[i]; have := normTo_tbs l i; omega
    · have e : normTo l (i + 1) = normTo l i := by unfold normTo; rw [List.take_of_length_le (by omega), List.take_of_length_le (by omega)]
      have e2 : l.take (i + 1) = l.take i := by rw [List.take_of_length_le (by omega), List.take_of_length_le (by omega)]
      rw [e, e2]; exact normTo_tbs l i
theorem tbs_mem {l : List Sp} {s : Sp} (h : s ∈ l) : s.t.size ≤ tbs l := by
  induction l with
  | nil => cases h
  | cons x l ih =>
    rw [tbs_cons]
    rcases List.mem_cons.1 h with rfl | h'
    · omega
    · have := ih h'; omega
theorem set_last {E : List Sp} {x : Sp} {w : Int} {n : Nat} (hw : w = (n : Int)) (A : List AV) (h : w.toNat < E.length) (h' : n < E.length) : ((sps E).set (0 + w.toNat) A).set (0 + w.toNat) (spC (mrg E[w.toNat] x)) = sps (E.set n (mrg E[n] x)) := by
  subst hw; rw [Nat.zero_add]; simp only [Int.toNat_natCast]; rw [List.set_set, sps_set]
theorem k_last {E : List Sp} {w : Int} {n : Nat} (hw : w = (n : Int)) (h : w.toNat < E.length) (h' : n < E.length) : E[w.toNat] = E[n] := by
  subst hw; rfl
theorem rnof_call (l : List Sp) (hl : l.length ≤ 100000000) (hb : tbs l ≤ 1000000000) : CallW env 71 [.lst 3 (sps l)] (fun r hs => r = .lst 3 (sps (norm l)) ∧ hs = []) := by
  have hsl := sps_len l
  have hmx : 2000000003 ≤ maxLen := by decide
  refine Ev.fn [0, 2, 3, 4, 5, 6, 11, 25, 40] 0 [.tmp 2] Tryd.func71 (comp71 _ rfl) ?_
  repeat' (first | ((refine Ev.sw ?_); conv => whnf) | refine Ev.sn ?_ | ((with_reducible refine Ev.chk_k ?_ ?_); rotate_left; exact Ev.bt; conv => whnf) | ((with_reducible (refine Ev.RI.run ?_; constructor)) <;> intro _) | ((refine Ev.sg ?_); conv => whnf) | ((with_reducible refine Ev.sided ?_ ?_); conv => whnf) | ((with_reducible refine Ev.kr (hs := []) (fun Q hQ => ?_)); (simp only [Ev.runE_cons, Ev.runE_nil]); conv => whnf) | (with_reducible refine hQ _ ?_; clear hQ Q) | ((refine Ev.sf ?_); intro F hF; conv => whnf) | (with_reducible refine hF _ ?_; clear hF F) | ((with_reducible refine Ev.go_k (fun c' => ?_)); conv => whnf) | ((with_reducible refine Ev.dr0 ?_); (first | refine Ev.dr 8 [] [0, 1, 2, 3, 4, 9, 10, 5, 6, 7, 8, 11, 12] ?_); intro Q hQ; (simp only [Ev.runE_cons, Ev.runE_nil]); conv => whnf) | ((with_reducible refine Ev.dr0 ?_); (first | refine Ev.drv 9 [] [(0, false), (1, false), (2, true), (3, false), (4, false), (5, true), (6, false), (7, false), (8, false), (9, false), (10, false), (11, true), (12, false), (13, false), (14, false)] ?_ | refine Ev.drv 10 [] [(0, false), (1, false), (2, true), (3, false), (4, false), (5, true), (6, false), (7, false), (8, false), (9, false), (10, false), (11, false), (12, false), (13, false), (14, false)] ?_); intro Q hQ; (simp only [Ev.runV_consF, Ev.runV_consT, Ev.runV_nil]); conv => whnf) | ((first | refine Ev.el_map0 ?_ (fun hi => ?_) | refine Ev.el_mapN ?_ (fun hi => ?_)); rotate_left; conv => whnf) | ((with_reducible refine Ev.sd0 ?_); exact Ev.sd) | fail)
  refine Ev.loop (fun k s => ∃ (i v c : Nat) (E : List Sp), s = ⟨[(0, .lst 3 (sps l)), (2, nilA), (3, .own 512 v 0 E.length), (4, .v (.int .i64 i))], [(512, ⟨3, 35, v, 0, false, sps E⟩)], c⟩ ∧ k + i = l.length ∧ E = normTo l i) ?_ ?_
  · (refine Ev.to _ ?hs1 ?hh1 ?hc1 ⟨l.length, 0, 0, ?_, [], rfl, ?hp1⟩; (case hs1 | hh1 => ((repeat' (first | exact trivial | refine And.intro ?_ ?_)) <;> (first | exact Ev.se | (refine Ev.slot_eq rfl ?_; first | (first | (simp; done) | (simp; omega)) | ((first | refine Ev.int_eq ?_ | refine Ev.own_eq ?_ | refine Ev.blk_eq ?_); (first | (simp; done) | (simp; omega)))) | exact Ev.sr))); (case hc1 => exact Nat.le_refl _))
    exact ⟨rfl, rfl⟩
  rintro k s1 ⟨i, v, c, E, rfl, hk, hE⟩
  have hln := sps_len E
  have hlE := normTo_len l i
  rw [← hE] at hlE
  have hw : 0 < E.length → IntKind.i64.wrap ((E.length : Int) - 1) = ((E.length - 1 : Nat) : Int) := fun h => by rw [wrap_id (by omega)]; omega
  repeat' (first | ((refine Ev.sw ?_); conv => whnf) | refine Ev.sn ?_ | ((with_reducible refine Ev.chk_k ?_ ?_); rotate_left; exact Ev.bt; conv => whnf) | ((with_reducible (refine Ev.RI.run ?_; constructor)) <;> intro _) | ((refine Ev.sg ?_); conv => whnf) | ((with_reducible refine Ev.sided ?_ ?_); conv => whnf) | ((with_reducible refine Ev.kr (hs := []) (fun Q hQ => ?_)); (simp only [Ev.runE_cons, Ev.runE_nil]); conv => whnf) | (with_reducible refine hQ _ ?_; clear hQ Q) | ((refine Ev.sf ?_); intro F hF; conv => whnf) | (with_reducible refine hF _ ?_; clear hF F) | ((with_reducible refine Ev.go_k (fun c' => ?_)); conv => whnf) | ((refine el_set (by rw [sps_len, Nat.zero_add, hw (by omega)]; omega) ?_); conv => whnf) | ((with_reducible refine Ev.dr0 ?_); (first | refine Ev.dr 8 [] [0, 1, 2, 3, 4, 9, 10, 5, 6, 7, 8, 11, 12] ?_); intro Q hQ; (simp only [Ev.runE_cons, Ev.runE_nil]); conv => whnf) | ((with_reducible refine Ev.dr0 ?_); (first | refine Ev.drv 9 [] [(0, false), (1, false), (2, true), (3, false), (4, false), (5, true), (6, false), (7, false), (8, false), (9, false), (10, false), (11, true), (12, false), (13, false), (14, false)] ?_ | refine Ev.drv 10 [] [(0, false), (1, false), (2, true), (3, false), (4, false), (5, true), (6, false), (7, false), (8, false), (9, false), (10, false), (11, false), (12, false), (13, false), (14, false)] ?_); intro Q hQ; (simp only [Ev.runV_consF, Ev.runV_consT, Ev.runV_nil]); conv => whnf) | ((first | refine Ev.el_map0 ?_ (fun hi => ?_) | refine Ev.el_mapN ?_ (fun hi => ?_)); rotate_left; conv => whnf) | ((with_reducible refine Ev.sd0 ?_); exact Ev.sd) | fail)
  · have hi : i < l.length := by omega
    have he : emptyS l[i] = true := by simp [emptyS, *]
    (refine Ev.again (k - 1) _ ?hm2 ?hs2 ?hh2 ?hc2 ⟨i + 1, v, c + 8, E, rfl, ?hp2⟩; (case hs2 | hh2 => ((repeat' (first | exact trivial | refine And.intro ?_ ?_)) <;> (first | exact Ev.se | (refine Ev.slot_eq rfl ?_; first | (first | exact wrap_succ (by omega) | rfl) | ((first | refine Ev.int_eq ?_ | refine Ev.own_eq ?_ | refine Ev.blk_eq ?_); (first | exact wrap_succ (by omega) | rfl))) | exact Ev.sr))); (case hc2 => exact Nat.le_refl _); (case hm2 => omega))
    exact ⟨by omega, by rw [normTo_succ hi, ← hE, normA_empty he]⟩
  · have hi : i < l.length := by omega
    have he : emptyS l[i] = false := by simp [emptyS, *]
    have hn : E.length - 1 < E.length := by omega
    have hm : (IntKind.i64.wrap ((E.length : Int) - 1)).toNat < E.length := by assumption
    have hkk : E[(IntKind.i64.wrap ((E.length : Int) - 1)).toNat].k = l[i].k := by assumption
    rw [k_last (hw (by omega)) hm hn] at hkk
    have hr := fun A => set_last (x := l[i]) (hw (by omega)) A hm hn
    (refine Ev.again (k - 1) _ ?hm3 ?hs3 ?hh3 ?hc3 ⟨i + 1, v, c + 8, E.set (E.length - 1) (mrg E[E.length - 1] l[i]), rfl, ?hp3⟩; (case hs3 | hh3 => ((repeat' (first | exact trivial | refine And.intro ?_ ?_)) <;> (first | exact Ev.se | (refine Ev.slot_eq rfl ?_; first | (first | exact wrap_succ (by omega) | (exact congrArg (fun n => Blk.mk 3 35 _ 0 false n) (hr _)) | (simp; done) | rfl) | ((first | refine Ev.int_eq ?_ | refine Ev.own_eq ?_ | refine Ev.blk_eq ?_); (first | exact wrap_succ (by omega) | (exact congrArg (fun n => Blk.mk 3 35 _ 0 false n) (hr _)) | (simp; done) | rfl))) | exact Ev.sr))); (case hc3 => exact Nat.le_refl _); (case hm3 => omega))
    exact ⟨by omega, by rw [normTo_succ hi, ← hE, normA_same he (n := E.length - 1) (by omega) hn hkk]⟩
  · have hi : i < l.length := by omega
    have hn : E.length - 1 < E.length := by omega
    have hm : (IntKind.i64.wrap ((E.length : Int) - 1)).toNat < E.length := by assumption
    have h1 := tbs_mem (List.getElem_mem hm)
    have h2 := normTo_tbs l i
    have h3 := tbs_take l hi
    have h4 := tbs_le l (i + 1)
    rw [← hE] at h2
    refine Ev.Side.of ?_
    show (E[(IntKind.i64.wrap ((E.length : Int) - 1)).toNat]).t.size + _ ≤ _
    omega
  · have hi : i < l.length := by omega
    have he : emptyS l[i] = false := by simp [emptyS, *]
    have hn : E.length - 1 < E.length := by omega
    have hm : (IntKind.i64.wrap ((E.length : Int) - 1)).toNat < E.length := by assumption
    have hkk : ¬ E[(IntKind.i64.wrap ((E.length : Int) - 1)).toNat].k = l[i].k := by assumption
    rw [k_last (hw (by omega)) hm hn] at hkk
    (refine Ev.again (k - 1) _ ?hm4 ?hs4 ?hh4 ?hc4 ⟨i + 1, c + 8 + 8, c + 8 + 8 + 8, E ++ [l[i]], rfl, ?hp4⟩; (case hs4 | hh4 => ((repeat' (first | exact trivial | refine And.intro ?_ ?_)) <;> (first | exact Ev.se | (refine Ev.slot_eq rfl ?_; first | (first | exact wrap_succ (by omega) | (simp; done) | (simp [sps, spC]; done) | rfl) | ((first | refine Ev.int_eq ?_ | refine Ev.own_eq ?_ | refine Ev.blk_eq ?_); (first | exact wrap_succ (by omega) | (simp; done) | (simp [sps, spC]; done) | rfl))) | exact Ev.sr))); (case hc4 => exact Nat.le_refl _); (case hm4 => omega))
    exact ⟨by omega, by rw [normTo_succ hi, ← hE, normA_new he (n := E.length - 1) (by omega) hn hkk]⟩
  · refine Ev.Side.of ?_
    show (IntKind.i64.wrap ((E.length : Int) - 1)).toNat < E.length
    rw [hw (by omega)]; omega
  · have hi : i < l.length := by omega
    have he : emptyS l[i] = false := by simp [emptyS, *]
    have hz : E = [] := List.eq_nil_of_length_eq_zero (by omega)
    subst hz
    (refine Ev.again (k - 1) _ ?hm5 ?hs5 ?hh5 ?hc5 ⟨i + 1, c + 8 + 8, c + 8 + 8 + 8, [l[i]], rfl, ?hp5⟩; (case hs5 | hh5 => ((repeat' (first | exact trivial | refine And.intro ?_ ?_)) <;> (first | exact Ev.se | (refine Ev.slot_eq rfl ?_; first | (first | exact wrap_succ (by omega) | (simp; done) | (simp [sps, spC]; done) | rfl) | ((first | refine Ev.int_eq ?_ | refine Ev.own_eq ?_ | refine Ev.blk_eq ?_); (first | exact wrap_succ (by omega) | (simp; done) | (simp [sps, spC]; done) | rfl))) | exact Ev.sr))); (case hc5 => exact Nat.le_refl _); (case hm5 => omega))
    exact ⟨by omega, by rw [normTo_succ hi, ← hE, normA_nil he]⟩
  · have hi : i < l.length := by omega
    have he : emptyS l[i] = false := by simp [emptyS, *]
    have hn : E.length - 1 < E.length := by omega
    have hm : (IntKind.i64.wrap ((E.length : Int) - 1)).toNat < E.length := by assumption
    have hkk : E[(IntKind.i64.wrap ((E.length : Int) - 1)).toNat].k = l[i].k := by assumption
    rw [k_last (hw (by omega)) hm hn] at hkk
    have hr := fun A => set_last (x := l[i]) (hw (by omega)) A hm hn
    (refine Ev.again (k - 1) _ ?hm6 ?hs6 ?hh6 ?hc6 ⟨i + 1, v, c + 8, E.set (E.length - 1) (mrg E[E.length - 1] l[i]), rfl, ?hp6⟩; (case hs6 | hh6 => ((repeat' (first | exact trivial | refine And.intro ?_ ?_)) <;> (first | exact Ev.se | (refine Ev.slot_eq rfl ?_; first | (first | exact wrap_succ (by omega) | (exact congrArg (fun n => Blk.mk 3 35 _ 0 false n) (hr _)) | (simp; done) | rfl) | ((first | refine Ev.int_eq ?_ | refine Ev.own_eq ?_ | refine Ev.blk_eq ?_); (first | exact wrap_succ (by omega) | (exact congrArg (fun n => Blk.mk 3 35 _ 0 false n) (hr _)) | (simp; done) | rfl))) | exact Ev.sr))); (case hc6 => exact Nat.le_refl _); (case hm6 => omega))
    exact ⟨by omega, by rw [normTo_succ hi, ← hE, normA_same he (n := E.length - 1) (by omega) hn hkk]⟩
  · have hi : i < l.length := by omega
    have hn : E.length - 1 < E.length := by omega
    have hm : (IntKind.i64.wrap ((E.length : Int) - 1)).toNat < E.length := by assumption
    have h1 := tbs_mem (List.getElem_mem hm)
    have h2 := normTo_tbs l i
    have h3 := tbs_take l hi
    have h4 := tbs_le l (i + 1)
    rw [← hE] at h2
    refine Ev.Side.of ?_
    show (E[(IntKind.i64.wrap ((E.length : Int) - 1)).toNat]).t.size + _ ≤ _
    omega
  · have hi : i < l.length := by omega
    have he : emptyS l[i] = false := by simp [emptyS, *]
    have hn : E.length - 1 < E.length := by omega
    have hm : (IntKind.i64.wrap ((E.length : Int) - 1)).toNat < E.length := by assumption
    have hkk : ¬ E[(IntKind.i64.wrap ((E.length : Int) - 1)).toNat].k = l[i].k := by assumption
    rw [k_last (hw (by omega)) hm hn] at hkk
    (refine Ev.again (k - 1) _ ?hm7 ?hs7 ?hh7 ?hc7 ⟨i + 1, c + 8 + 8, c + 8 + 8 + 8, E ++ [l[i]], rfl, ?hp7⟩; (case hs7 | hh7 => ((repeat' (first | exact trivial | refine And.intro ?_ ?_)) <;> (first | exact Ev.se | (refine Ev.slot_eq rfl ?_; first | (first | exact wrap_succ (by omega) | (simp; done) | (simp [sps, spC]; done) | rfl) | ((first | refine Ev.int_eq ?_ | refine Ev.own_eq ?_ | refine Ev.blk_eq ?_); (first | exact wrap_succ (by omega) | (simp; done) | (simp [sps, spC]; done) | rfl))) | exact Ev.sr))); (case hc7 => exact Nat.le_refl _); (case hm7 => omega))
    exact ⟨by omega, by rw [normTo_succ hi, ← hE, normA_new he (n := E.length - 1) (by omega) hn hkk]⟩
  · refine Ev.Side.of ?_
    show (IntKind.i64.wrap ((E.length : Int) - 1)).toNat < E.length
    rw [hw (by omega)]; omega
  · have hi : i < l.length := by omega
    have he : emptyS l[i] = false := by simp [emptyS, *]
    have hz : E = [] := List.eq_nil_of_length_eq_zero (by omega)
    subst hz
    (refine Ev.again (k - 1) _ ?hm8 ?hs8 ?hh8 ?hc8 ⟨i + 1, c + 8 + 8, c + 8 + 8 + 8, [l[i]], rfl, ?hp8⟩; (case hs8 | hh8 => ((repeat' (first | exact trivial | refine And.intro ?_ ?_)) <;> (first | exact Ev.se | (refine Ev.slot_eq rfl ?_; first | (first | exact wrap_succ (by omega) | (simp; done) | (simp [sps, spC]; done) | rfl) | ((first | refine Ev.int_eq ?_ | refine Ev.own_eq ?_ | refine Ev.blk_eq ?_); (first | exact wrap_succ (by omega) | (simp; done) | (simp [sps, spC]; done) | rfl))) | exact Ev.sr))); (case hc8 => exact Nat.le_refl _); (case hm8 => omega))
    exact ⟨by omega, by rw [normTo_succ hi, ← hE, normA_nil he]⟩
  · refine ⟨Ev.lst_eq ?_, rfl⟩
    rw [List.drop_zero, List.take_of_length_le (by omega), hE, normTo_all (by omega)]
end Go.Proofs.YtadlnaljicikfaaDoor.Abs

namespace Go.Proofs.YtadlnaljicikfaaDoor.Abs
open Go
set_option maxRecDepth 100000
set_option linter.unusedSimpArgs false
set_option linter.unusedVariables false
attribute [local irreducible] Ev.Unr Ev.Go' Ev.bytK Ev.runK Ev.FinL Ev.brC Ev.Side Ev.Wp Ev.Again Ev.To Ev.Fin
open Go.Lib Go.RowKit
end Go.Proofs.YtadlnaljicikfaaDoor.Abs

namespace Go.Proofs.YtadlnaljicikfaaDoor.Abs
open Go
set_option maxRecDepth 100000
set_option linter.unusedSimpArgs false
set_option linter.unusedVariables false
attribute [local irreducible] Ev.Unr Ev.Go' Ev.bytK Ev.runK Ev.FinL Ev.brC Ev.Side Ev.Wp Ev.Again Ev.To Ev.Fin
open Go.Lib Go.RowKit
theorem tbs_small {l : List Sp} (h : tbs l ≤ 1000000000) : Small l := by
  intro s hs
  have : s.t.size ≤ tbs l := by
    clear h
    induction l with
    | nil => cases hs
    | cons x l ih =>
      rw [tbs_cons]
      rcases List.mem_cons.1 hs with rfl | h'
      · omega
      · have := ih h'; omega
  omega
end Go.Proofs.YtadlnaljicikfaaDoor.Abs

namespace Go.Proofs.YtadlnaljicikfaaDoor.Abs
open Go Go.Lib
set_option linter.unusedSimpArgs false
set_option linter.unusedVariables false
theorem norm_tbs (l : List Sp) : tbs (norm l) ≤ tbs l := by
  have := normTo_tbs l l.length
  rwa [normTo_all (Nat.le_refl _), List.take_length] at this
theorem norm_len (l : List Sp) : (norm l).length ≤ l.length := by
  have := normTo_len l l.length
  rwa [normTo_all (Nat.le_refl _)] at this
theorem tbs_bound {l : List Sp} {b : Nat} (h : ∀ s ∈ l, s.t.size ≤ b) : tbs l ≤ b * l.length := by
  induction l with
  | nil => simp [tbs]
  | cons s l ih =>
    have h1 := h s (by simp)
    have h2 := ih (fun x hx => h x (by simp [hx]))
    rw [tbs_cons, List.length_cons, Nat.mul_succ]; omega
theorem may_norm {l : List Sp} (h : opMayF l = 0) (hl : l.length ≤ 65536) (ht : tbs l ≤ 65536) : wPutE (norm l) = 0 ∧ (norm l).length ≤ l.length ∧ tbs (norm l) ≤ 65536 := by
  have h1 := norm_tbs l
  have h2 := norm_len l
  obtain ⟨h3, h4⟩ := (opMay_iff l).1 h
  refine ⟨wPutE_of (norm_may h (by omega)) (norm_isN l h3 ?_) (by omega) (fun s hs => by have := tbs_mem hs; omega), h2, by omega⟩
  rw [← inW_sum h3 (by omega)]; exact h4
theorem fit_tbs (l : List Sp) {n : Int} (hn : 0 ≤ n ∧ n ≤ 1048576) : (fitO l n).length ≤ 13 ∧ tbs (fitO l n) ≤ 312 := by
  obtain ⟨h1, h2, h3⟩ := fitO_all l hn
  have := tbs_bound (b := 24) (fun s hs => (h1 s hs).2.1)
  omega
theorem fit_norm (l : List Sp) {n : Int} (hn : 0 ≤ n ∧ n ≤ 1048576) : wPutE (norm (fitO l n)) = 0 ∧ (norm (fitO l n)).length ≤ 13 ∧ tbs (norm (fitO l n)) ≤ 312 := by
  obtain ⟨h1, h2⟩ := fit_tbs l hn
  obtain ⟨a, b, c⟩ := may_norm (fitO_may l hn) (by omega) (by omega)
  have := norm_tbs (fitO l n)
  exact ⟨a, by omega, by omega⟩
theorem outS_le {s : Sp} (h : SpOK s) (ht : s.t.size ≤ 24) : outS s ≤ inS s + 24 ∧ 0 ≤ outS s := by
  rcases h.cases with ⟨a, b, c, _⟩ | ⟨a, b, c⟩
  · have hi : inS s = s.n := by unfold Abs.inS inF; rw [if_pos a]
    rcases a with a | a
    · have ho : outS s = s.n := by unfold outS outF; rw [if_pos a]
      omega
    · have ho : outS s = 0 := by unfold outS outF; rw [if_neg (by omega), if_neg (by omega)]
      omega
  · have ho : outS s = max (countD s.t.data.toList) 0 := by unfold outS outF; rw [if_neg (by omega), if_pos a]
    have hi : inS s = 0 := by unfold Abs.inS inF; rw [if_neg (by omega)]
    rw [countD_pts c] at ho
    have := pts_len s.t.data.toList
    rw [len_list] at this; omega
theorem sum_out {l : List Sp} (h : ∀ s ∈ l, SpOK s ∧ s.t.size ≤ 24) : sumI outS l ≤ sumI inS l + 24 * l.length ∧ 0 ≤ sumI outS l := by
  induction l with
  | nil => simp [sumI]
  | cons s l ih =>
    have h1 := outS_le (h s (by simp)).1 (h s (by simp)).2
    have h2 := ih (fun x hx => h x (by simp [hx]))
    rw [sumI_cons, sumI_cons, List.length_cons]; omega
theorem fit_out (l : List Sp) {n : Int} (hn : 0 ≤ n ∧ n ≤ 1048576) : 0 ≤ outW (fitO l n) ∧ outW (fitO l n) ≤ n + 312 := by
  obtain ⟨h1, h2, h3⟩ := fitO_all l hn
  have h4 := sum_out (l := fitO l n) (fun s hs => ⟨(h1 s hs).1, (h1 s hs).2.1⟩)
  rw [outW_eq, wrap_id (by omega)]; omega
def chS (p : List (List Sp) × Int) (x : List Sp) : List (List Sp) × Int := (p.1 ++ [fitO x p.2], outW (fitO x p.2))
def chP (l : List (List Sp)) (n : Int) (i : Nat) : List (List Sp) × Int := (l.take i).foldl chS ([], n)
theorem chP_succ {l : List (List Sp)} {n : Int} {i : Nat} (hi : i < l.length) : chP l n (i + 1) = chS (chP l n i) l[i] := by
  unfold chP; rw [List.take_succ_eq_append_getElem hi, List.foldl_append]; rfl
theorem chP_all (l : List (List Sp)) {n : Int} (hn : 0 ≤ n ∧ n ≤ 1000) : ∀ i, i ≤ 20 → 0 ≤ (chP l n i).2 ∧ (chP l n i).2 ≤ n + 312 * i ∧ (chP l n i).1.length ≤ i ∧ (i ≤ l.length → (chP l n i).1.length = i)
  | 0, _ => by simp [chP]; omega
  | i + 1, h => by
    obtain ⟨a, b, c, d⟩ := chP_all l hn i (by omega)
    by_cases hi : i < l.length
    · have e := fit_out l[i] (n := (chP l n i).2) (by omega)
      rw [chP_succ hi]
      simp only [chS, List.length_append, List.length_singleton]
      omega
    · have e : chP l n (i + 1) = chP l n i := by unfold chP; rw [List.take_of_length_le (by omega), List.take_of_length_le (by omega)]
      rw [e]; omega
def chO (l : List (List Sp)) (n : Int) : List (List Sp) := (chP l n 20).1
theorem chP_end {l : List (List Sp)} {n : Int} {i : Nat} (h : l.length ≤ i ∨ i = 20) (h' : i ≤ 20) : (chP l n i).1 = chO l n := by
  rcases h with h | rfl
  · unfold chO chP; rw [List.take_of_length_le h, List.take_of_length_le (by omega)]
  · rfl
def Chn : Int → List (List Sp) → Prop
  | _, [] => True
  | n, x :: l => (∃ y m, x = fitO y m ∧ 0 ≤ m ∧ m ≤ 10000) ∧ inW x = n ∧ Chn (outW x) l
def endN : Int → List (List Sp) → Int
  | n, [] => n
  | _, x :: l => endN (outW x) l
theorem chn_app : ∀ (l : List (List Sp)) (n : Int) (x : List Sp), Chn n l → (∃ y m, x = fitO y m ∧ 0 ≤ m ∧ m ≤ 10000) → inW x = endN n l → Chn n (l ++ [x]) ∧ endN n (l ++ [x]) = outW x
  | [], n, x, _, h, h' => ⟨⟨h, h', trivial⟩, rfl⟩
  | y :: l, n, x, ⟨a, b, c⟩, h, h' => by
    obtain ⟨e, f⟩ := chn_app l (outW y) x c h h'
    exact ⟨⟨a, b, e⟩, f⟩
theorem chP_chn (l : List (List Sp)) {n : Int} (hn : 0 ≤ n ∧ n ≤ 1000) : ∀ i, i ≤ 20 → Chn n (chP l n i).1 ∧ endN n (chP l n i).1 = (chP l n i).2
  | 0, _ => ⟨trivial, rfl⟩
  | i + 1, h => by
    obtain ⟨a, b⟩ := chP_chn l hn i (by omega)
    obtain ⟨c, d, _⟩ := chP_all l hn i (by omega)
    by_cases hi : i < l.length
    · rw [chP_succ hi]
      exact chn_app _ _ _ a ⟨_, _, rfl, c, by omega⟩ (by rw [b]; exact fitO_in _ (by omega))
    · have e : chP l n (i + 1) = chP l n i := by unfold chP; rw [List.take_of_length_le (by omega), List.take_of_length_le (by omega)]
      rw [e]; exact ⟨a, b⟩
theorem chO_chn (l : List (List Sp)) {n : Int} (hn : 0 ≤ n ∧ n ≤ 1000) : Chn n (chO l n) ∧ (chO l n).length ≤ 20 := ⟨(chP_chn l hn 20 (by omega)).1, (chP_all l hn 20 (by omega)).2.2.1⟩
theorem chn_mem : ∀ {l : List (List Sp)} {n : Int}, Chn n l → ∀ x ∈ l, ∃ y m, x = fitO y m ∧ 0 ≤ m ∧ m ≤ 10000
  | [], _, _, x, hx => by cases hx
  | y :: l, n, ⟨a, b, c⟩, x, hx => by
    rcases List.mem_cons.1 hx with rfl | h
    · exact a
    · exact chn_mem c x h
end Go.Proofs.YtadlnaljicikfaaDoor.Abs

namespace Go.Proofs.YtadlnaljicikfaaDoor.Abs
open Go
set_option maxRecDepth 100000
set_option linter.unusedSimpArgs false
set_option linter.unusedVariables false
attribute [local irreducible] Ev.Unr Ev.Go' Ev.bytK Ev.runK Ev.FinL Ev.brC Ev.Side Ev.Wp Ev.Again Ev.To Ev.Fin
open Go.Lib Go.RowKit
end Go.Proofs.YtadlnaljicikfaaDoor.Abs

namespace Go.Proofs.YtadlnaljicikfaaDoor.Abs
open Go
set_option maxRecDepth 100000
set_option linter.unusedSimpArgs false
set_option linter.unusedVariables false
attribute [local irreducible] Ev.Unr Ev.Go' Ev.bytK Ev.runK Ev.FinL Ev.brC Ev.Side Ev.Wp Ev.Again Ev.To Ev.Fin
open Go.Lib Go.RowKit
end Go.Proofs.YtadlnaljicikfaaDoor.Abs

namespace Go.Proofs.YtadlnaljicikfaaDoor.Abs
open Go
set_option maxRecDepth 100000
set_option linter.unusedSimpArgs false
set_option linter.unusedVariables false
attribute [local irreducible] Ev.Unr Ev.Go' Ev.bytK Ev.runK Ev.FinL Ev.brC Ev.Side Ev.Wp Ev.Again Ev.To Ev.Fin
open Go.Lib Go.RowKit
theorem comp69 : ∀ c, Tryd.f69.body = some c → comp c = (.seq (.reg 0 [I.n 0 4 I.sn]) (.seq (.reg 1 [I.n 0 8 (.buildSlice 22 0 #[]), I.n 1 5 (I.sa 8)]) (.seq (.seq (.reg 2 [I.n 0 6 (I.si 0)]) (.block 0 (.loop (.seq (.seq (.reg 3 [I.n 0 9 (I.mv 6), I.n 1 10 (I.mv 0), I.n 2 11 (I.ln 10 22), I.n 3 12 (I.bo .lss 3 9 11 3), I.n 4 13 (I.mv 12), I.w 5 14 (I.mv 6) 13 true, I.w 6 15 (I.bc .lss 3 14 20 3) 13 true, I.n 7 16 (I.pc 13 15 false)]) (.cond (.tmp 16) .skip (.exit 0))) (.seq (.block 1 (.seq (.reg 5 [I.n 0 19 (I.mv 0), I.n 1 20 (I.mv 6), I.n 2 21 (I.ia 22 19 20), I.n 3 22 (I.ld 23 21), I.n 4 23 (I.mv 1), I.n 5 24 (I.c2 31 22 23 23 3), I.n 6 7 (I.sa 24)]) (.seq (.reg 6 [I.n 0 25 (I.mv 5), I.n 1 26 (I.mv 7), I.n 2 27 (I.b1 22 26), I.n 3 28 (I.ap 25 27 22 22), I.n 4 5 (I.sa 28)]) (.reg 7 [I.n 0 29 (I.mv 7), I.n 1 30 (I.c1 102 29 23), I.n 2 1 (I.sa 30)])))) (.reg 4 [I.n 0 17 (I.mv 6), I.n 1 18 (I.bc .add 3 17 1 3), I.n 2 6 (I.sa 18)])))))) (.seq (.reg 8 [I.n 0 31 (I.mv 5), I.n 1 4 (I.sa 31)]) .ret)))) := by
  intro c h
  have : c = Tryd.f69.body.get rfl := by rw [← Option.some_inj, ← h]; rfl
  rw [this]; rfl
def rowsA (l : List (List Sp)) : List (List AV) := l.map fun x => [.lst 3 (sps x)]
@[simp] theorem rowsA_len (l : List (List Sp)) : (rowsA l).length = l.length := by simp [rowsA]
theorem rowsA_app (a b : List (List Sp)) : rowsA (a ++ b) = rowsA a ++ rowsA b := by simp [rowsA]
theorem chain4_call (l : List (List Sp)) (n : Int) (hn : 0 ≤ n ∧ n ≤ 1000) : CallW env 69 [.lst 1 (rowsA l), .v (.int .i64 n)] (fun r hs => r = .lst 1 (rowsA (chO l n)) ∧ hs = []) := by
  have hrl := rowsA_len l
  refine Ev.fn [0, 1, 4, 5, 6, 7, 16] 0 [.tmp 4] Tryd.func69 (comp69 _ rfl) ?_
  repeat' (first | ((refine Ev.sw ?_); conv => whnf) | refine Ev.sn ?_ | ((with_reducible refine Ev.chk_k ?_ ?_); rotate_left; exact Ev.bt; conv => whnf) | ((with_reducible (refine Ev.RI.run ?_; constructor)) <;> intro _) | ((refine Ev.sg ?_); conv => whnf) | ((with_reducible refine Ev.sided ?_ ?_); conv => whnf) | ((with_reducible refine Ev.kr (hs := []) (fun Q hQ => ?_)); (simp only [Ev.runE_cons, Ev.runE_nil]); conv => whnf) | (with_reducible refine hQ _ ?_; clear hQ Q) | ((refine Ev.sf ?_); intro F hF; conv => whnf) | (with_reducible refine hF _ ?_; clear hF F) | ((with_reducible refine Ev.go_k (fun c' => ?_)); conv => whnf) | ((first | refine Ev.el_map0 ?_ (fun hi => ?_) | refine Ev.el_mapN ?_ (fun hi => ?_)); rotate_left; conv => whnf) | ((with_reducible refine Ev.sd0 ?_); exact Ev.sd) | fail)
  refine Ev.loop (fun k s => ∃ (i v c : Nat) (E : List (List Sp)) (m : Int), s = ⟨[(0, .lst 1 (rowsA l)), (1, .v (.int .i64 m)), (4, nilA), (5, .own 512 v 0 E.length), (6, .v (.int .i64 i))], [(512, ⟨1, 23, v, 0, false, rowsA E⟩)], c⟩ ∧ k + i = 20 ∧ i ≤ l.length ∧ (E, m) = chP l n i) ?_ ?_
  · (refine Ev.to _ ?hs1 ?hh1 ?hc1 ⟨20, 0, ?_, ?_, [], n, rfl, ?hp1⟩; (case hs1 | hh1 => ((repeat' (first | exact trivial | refine And.intro ?_ ?_)) <;> (first | exact Ev.se | (refine Ev.slot_eq rfl ?_; first | (first | (simp; done) | (simp; omega)) | ((first | refine Ev.int_eq ?_ | refine Ev.own_eq ?_ | refine Ev.blk_eq ?_); (first | (simp; done) | (simp; omega)))) | exact Ev.sr))); (case hc1 => exact Nat.le_refl _))
    exact ⟨by omega, by omega, rfl⟩
  rintro k s1 ⟨i, v, c, E, m, rfl, hk, hi', hE⟩
  obtain ⟨c1, c2, c3, c4⟩ := chP_all l hn i (by omega)
  rw [← hE] at c1 c2 c3 c4
  simp only at c1 c2 c3 c4
  have hel := rowsA_len E
  have hlen := c4 hi'
  repeat' (first | ((refine Ev.sw ?_); conv => whnf) | refine Ev.sn ?_ | ((with_reducible refine Ev.chk_k ?_ ?_); rotate_left; exact Ev.bt; conv => whnf) | ((with_reducible (refine Ev.RI.run ?_; constructor)) <;> intro _) | ((refine Ev.sg ?_); conv => whnf) | ((with_reducible refine Ev.sided ?_ ?_); conv => whnf) | ((with_reducible refine Ev.kr (hs := []) (fun Q hQ => ?_)); (simp only [Ev.runE_cons, Ev.runE_nil]); conv => whnf) | (with_reducible refine hQ _ ?_; clear hQ Q) | ((refine Ev.sf ?_); intro F hF; conv => whnf) | (with_reducible refine hF _ ?_; clear hF F) | ((with_reducible refine Ev.go_k (fun c' => ?_)); conv => whnf) | ((with_reducible refine Ev.ca0 ?_); (first | refine Ev.call_det (fit4_call _ m (by omega)) rfl rfl ?_ | refine Ev.call_det (r4out_call (fitO _ m) (by have := (fit_tbs l[i] (n := m) (by omega)).1; omega) (fitO_small _ (by omega))) rfl rfl ?_ | refine Ev.ca (fit4_call _ m (by omega)) ?_ | refine Ev.ca (r4out_call (fitO _ m) (by have := (fit_tbs l[i] (n := m) (by omega)).1; omega) (fitO_small _ (by omega))) ?_); conv => whnf) | ((first | refine Ev.el_map0 ?_ (fun hi => ?_) | refine Ev.el_mapN ?_ (fun hi => ?_)); rotate_left; conv => whnf) | ((with_reducible refine Ev.sd0 ?_); exact Ev.sd) | fail)
  · have hi : i < l.length := by assumption
    (refine Ev.again (k - 1) _ ?hm2 ?hs2 ?hh2 ?hc2 ⟨i + 1, ?_, ?_, E ++ [fitO l[i] m], outW (fitO l[i] m), rfl, ?hp2⟩; (case hs2 | hh2 => ((repeat' (first | exact trivial | refine And.intro ?_ ?_)) <;> (first | exact Ev.se | (refine Ev.slot_eq rfl ?_; first | (first | exact wrap_succ (by omega) | (rw [rowsA_app]; rfl) | (simp; done) | rfl) | ((first | refine Ev.int_eq ?_ | refine Ev.own_eq ?_ | refine Ev.blk_eq ?_); (first | exact wrap_succ (by omega) | (rw [rowsA_app]; rfl) | (simp; done) | rfl))) | exact Ev.sr))); (case hc2 => exact Nat.le_refl _); (case hm2 => omega))
    exact ⟨by omega, by omega, by rw [chP_succ hi, ← hE]; rfl⟩
  all_goals
    have he := chP_end (l := l) (n := n) (i := i) (by omega) (by omega)
    rw [← hE] at he
    refine ⟨Ev.lst_eq (Ev.take_all (by omega) ?_), rfl⟩
    exact congrArg rowsA he
end Go.Proofs.YtadlnaljicikfaaDoor.Abs

namespace Go.Proofs.YtadlnaljicikfaaDoor.Abs
open Go
set_option maxRecDepth 100000
set_option linter.unusedSimpArgs false
set_option linter.unusedVariables false
attribute [local irreducible] Ev.Unr Ev.Go' Ev.bytK Ev.runK Ev.FinL Ev.brC Ev.Side Ev.Wp Ev.Again Ev.To Ev.Fin
open Go.Lib Go.RowKit
theorem comp95 : ∀ c, Tryd.f95.body = some c → comp c = (.seq (.reg 0 [I.n 0 1 (.box 27 (.tmp 0)), I.n 1 2 I.sn, I.n 2 3 (I.si 0)]) (.seq (.reg 1 [I.n 0 12 (I.fa 27 1 0), I.n 1 13 (I.ld 9 12), I.n 2 14 (I.c1 32 13 9), I.n 3 4 (.alloc 3), I.u 4 (I.st 3 4 14)]) (.seq (.reg 2 [I.n 0 16 (I.fa 27 1 1), I.n 1 17 (I.ld 25 16), I.n 2 18 (I.c1 48 17 25), I.n 3 15 (I.mv 18), I.n 4 19 (I.ex 15 0), I.n 5 20 (I.ex 15 1), I.n 6 6 (.alloc 30), I.n 7 5 (I.sa 19), I.u 8 (I.st 30 6 20)]) (.seq (.reg 3 [I.n 0 21 (.makeFunc (.func 135) #[] #[.tmp 4]), I.n 1 22 (.call { callee := .value (.func 134), args := #[.tmp 21, .const (Value.int .i64 3)], argTypes := #[24, 30] }), I.n 2 23 (.makeFunc (.func 136) #[] #[.tmp 4]), I.n 3 24 (.call { callee := .value (.func 134), args := #[.tmp 23, .const (Value.int .i64 4)], argTypes := #[24, 30] }), I.n 4 25 (.makeFunc (.func 137) #[] #[.tmp 6, .tmp 1]), I.n 5 26 (.call { callee := .value (.func 134), args := #[.tmp 25, .const (Value.int .i64 6)], argTypes := #[24, 30] }), I.n 6 27 (.buildSlice 177 3 #[(0, .tmp 22), (1, .tmp 24), (2, .tmp 26)]), I.n 7 28 (I.c1 133 27 177), I.n 8 7 (I.sa 28)]) (.seq (.seq (.reg 4 [I.n 0 29 (I.mv 7), I.n 1 30 (I.bc .neq 30 29 0 30)]) (.cond (.tmp 30) (.seq (.reg 5 [I.n 0 31 (I.mv 7), I.n 1 2 I.sn, I.n 2 3 (I.sa 31)]) .ret) .skip)) (.seq (.reg 6 [I.n 0 32 (I.ld 3 4), I.n 1 33 (I.b1 25 32), I.n 2 8 (I.sa 33)]) (.seq (.seq (.reg 7 [I.n 0 34 (I.fa 27 1 2), I.n 1 35 (I.ld 22 34), I.n 2 36 (I.ln 35 22), I.n 3 37 (.move (.const (Value.int .i64 0)))]) (.block 0 (.loop (.seq (.reg 8 [I.n 0 38 (I.bo .lss 3 37 36 3)]) (.seq (.cond (.tmp 38) .skip (.exit 0)) (.seq (.block 1 (.seq (.reg 9 [I.n 0 39 (I.ia 22 35 37), I.n 1 40 (I.ld 23 39), I.n 2 10 (.alloc 23), I.u 3 (I.st 23 10 40)]) (.seq (.reg 10 [I.n 0 41 (.makeFunc (.func 138) #[] #[.tmp 10]), I.n 1 42 (.makeFunc (.func 139) #[] #[.tmp 10, .tmp 4]), I.n 2 43 (.call { callee := .value (.func 134), args := #[.tmp 42, .const (Value.int .i64 5)], argTypes := #[24, 30] }), I.n 3 44 (.makeFunc (.func 140) #[] #[.tmp 10]), I.n 4 45 (.call { callee := .value (.func 134), args := #[.tmp 44, .const (Value.int .i64 4)], argTypes := #[24, 30] }), I.n 5 46 (.makeFunc (.func 141) #[] #[.tmp 10]), I.n 6 47 (.call { callee := .value (.func 134), args := #[.tmp 46, .const (Value.int .i64 8)], argTypes := #[24, 30] }), I.n 7 48 (.buildSlice 177 4 #[(0, .tmp 41), (1, .tmp 43), (2, .tmp 45), (3, .tmp 47)]), I.n 8 49 (I.c1 133 48 177), I.n 9 11 (I.sa 49)]) (.seq (.seq (.reg 11 [I.n 0 50 (I.mv 11), I.n 1 51 (I.bc .neq 30 50 0 30)]) (.cond (.tmp 51) (.seq (.reg 12 [I.n 0 52 (I.mv 11), I.n 1 2 I.sn, I.n 2 3 (I.sa 52)]) .ret) .skip)) (.seq (.reg 13 [I.n 0 53 (I.ld 23 10), I.n 1 54 (I.c1 73 53 23), I.u 2 (I.st 3 4 54)]) (.reg 14 [I.n 0 55 (I.mv 8), I.n 1 56 (I.ld 3 4), I.n 2 57 (I.b1 25 56), I.n 3 58 (I.ap 55 57 25 25), I.n 4 8 (I.sa 58)])))))) (.reg 15 [I.n 0 59 (I.bc .add 3 37 1 3), I.n 1 37 (I.mv 59)]))))))) (.seq (.reg 16 [I.n 0 60 (I.mv 8), I.n 1 2 (I.sa 60), I.n 2 3 (I.si 0)]) .ret)))))))) := by
  intro c h
  have : c = Tryd.f95.body.get rfl := by rw [← Option.some_inj, ← h]; rfl
  rw [this]; rfl
theorem comp133 : ∀ c, Tryd.f133.body = some c → comp c = (.seq (.reg 0 [I.n 0 2 (I.si 0)]) (.seq (.seq (.reg 1 [I.n 0 6 (I.mv 0), I.n 1 7 (I.ln 6 177), I.n 2 8 (.move (.const (Value.int .i64 0)))]) (.block 0 (.loop (.seq (.reg 2 [I.n 0 9 (I.bo .lss 3 8 7 3)]) (.seq (.cond (.tmp 9) .skip (.exit 0)) (.seq (.block 1 (.seq (.reg 3 [I.n 0 10 (I.ia 177 6 8), I.n 1 11 (I.ld 155 10), I.n 2 4 (I.sa 11)]) (.seq (.reg 4 [I.n 0 12 (I.mv 4), I.n 1 13 (.call { callee := .value (.tmp 12), args := #[], argTypes := #[] }), I.n 2 5 (I.sa 13)]) (.seq (.reg 5 [I.n 0 14 (I.mv 5), I.n 1 15 (I.bc .neq 30 14 0 30)]) (.cond (.tmp 15) (.seq (.reg 6 [I.n 0 16 (I.mv 5), I.n 1 2 (I.sa 16)]) .ret) .skip))))) (.reg 7 [I.n 0 17 (I.bc .add 3 8 1 3), I.n 1 8 (I.mv 17)]))))))) (.seq (.reg 8 [I.n 0 2 (I.si 0)]) .ret))) := by
  intro c h
  have : c = Tryd.f133.body.get rfl := by rw [← Option.some_inj, ← h]; rfl
  rw [this]; rfl
theorem comp134 : ∀ c, Tryd.f134.body = some c → comp c = (.seq (.reg 0 [I.n 0 2 (.box 24 (.tmp 0)), I.n 1 3 (.box 30 (.tmp 1)), I.n 2 4 (.assign (.const Value.nilFunc))]) (.seq (.reg 1 [I.n 0 5 (.makeFunc (.func 160) #[] #[.tmp 2, .tmp 3]), I.n 1 4 (I.sa 5)]) .ret)) := by
  intro c h
  have : c = Tryd.f134.body.get rfl := by rw [← Option.some_inj, ← h]; rfl
  rw [this]; rfl
theorem comp160 : ∀ c, Tryd.f160.body = some c → comp c = (.seq (.reg 0 [I.n 0 2 (I.si 0)]) (.seq (.seq (.reg 1 [I.n 0 3 (I.ld 24 0), I.n 1 4 (.call { callee := .value (.tmp 3), args := #[], argTypes := #[] })]) (.cond (.tmp 4) (.seq (.reg 2 [I.n 0 5 (I.ld 30 1), I.n 1 2 (I.sa 5)]) .ret) .skip)) (.seq (.reg 3 [I.n 0 2 (I.si 0)]) .ret))) := by
  intro c h
  have : c = Tryd.f160.body.get rfl := by rw [← Option.some_inj, ← h]; rfl
  rw [this]; rfl
theorem comp135 : ∀ c, Tryd.f135.body = some c → comp c = (.seq (.reg 0 [I.n 0 1 (I.sb false)]) (.seq (.reg 1 [I.n 0 2 (I.ld 3 0), I.n 1 3 (I.bc .lss 3 2 0 3), I.n 2 1 (I.sa 3)]) .ret)) := by
  intro c h
  have : c = Tryd.f135.body.get rfl := by rw [← Option.some_inj, ← h]; rfl
  rw [this]; rfl
theorem comp136 : ∀ c, Tryd.f136.body = some c → comp c = (.seq (.reg 0 [I.n 0 1 (I.sb false)]) (.seq (.reg 1 [I.n 0 2 (I.ld 3 0), I.n 1 3 (I.bc .gtr 3 2 1048576 3), I.n 2 1 (I.sa 3)]) .ret)) := by
  intro c h
  have : c = Tryd.f136.body.get rfl := by rw [← Option.some_inj, ← h]; rfl
  rw [this]; rfl
theorem comp137 : ∀ c, Tryd.f137.body = some c → comp c = (.seq (.reg 0 [I.n 0 2 (I.sb false)]) (.seq (.reg 1 [I.n 0 3 (I.ld 30 0), I.n 1 4 (I.bc .neq 30 3 0 30), I.n 2 5 (I.mv 4), I.w 3 6 (I.fa 27 1 1) 5 false, I.w 4 7 (I.ld 25 6) 5 false, I.w 5 8 (I.ln 7 25) 5 false, I.w 6 9 (I.fa 27 1 2) 5 false, I.w 7 10 (I.ld 22 9) 5 false, I.w 8 11 (I.ln 10 22) 5 false, I.w 9 12 (I.bc .add 3 11 1 3) 5 false, I.w 10 13 (I.bo .neq 3 8 12 3) 5 false, I.n 11 14 (I.pb 5 true 13), I.n 12 2 (I.sa 14)]) .ret)) := by
  intro c h
  have : c = Tryd.f137.body.get rfl := by rw [← Option.some_inj, ← h]; rfl
  rw [this]; rfl
theorem comp138 : ∀ c, Tryd.f138.body = some c → comp c = (.seq (.reg 0 [I.n 0 1 (I.si 0)]) (.seq (.reg 1 [I.n 0 2 (I.ld 23 0), I.n 1 3 (I.c1 72 2 23), I.n 2 1 (I.sa 3)]) .ret)) := by
  intro c h
  have : c = Tryd.f138.body.get rfl := by rw [← Option.some_inj, ← h]; rfl
  rw [this]; rfl
theorem comp139 : ∀ c, Tryd.f139.body = some c → comp c = (.seq (.reg 0 [I.n 0 2 (I.sb false)]) (.seq (.draw 1 [I.n 0 3 (I.ld 23 0), I.n 1 4 (I.c1 74 3 23), I.n 2 5 (I.ld 3 1), I.n 3 6 (I.bo .neq 3 4 5 3), I.n 4 2 (I.sa 6)] [[], [0], [], [1, 2], [3, 1, 0, 1, 2, 3]]) .ret)) := by
  intro c h
  have : c = Tryd.f139.body.get rfl := by rw [← Option.some_inj, ← h]; rfl
  rw [this]; rfl
theorem comp140 : ∀ c, Tryd.f140.body = some c → comp c = (.seq (.reg 0 [I.n 0 1 (I.sb false)]) (.seq (.reg 1 [I.n 0 2 (I.ld 23 0), I.n 1 3 (I.c1 73 2 23), I.n 2 4 (I.bc .gtr 3 3 1048576 3), I.n 3 1 (I.sa 4)]) .ret)) := by
  intro c h
  have : c = Tryd.f140.body.get rfl := by rw [← Option.some_inj, ← h]; rfl
  rw [this]; rfl
theorem comp141 : ∀ c, Tryd.f141.body = some c → comp c = (.seq (.reg 0 [I.n 0 1 (I.sb false)]) (.seq (.reg 1 [I.n 0 2 (I.ld 23 0), I.n 1 3 (I.c1 65 2 23), I.n 2 4 (.unOp .not 4 (.tmp 3)), I.n 3 1 (I.sa 4)]) .ret)) := by
  intro c h
  have : c = Tryd.f141.body.get rfl := by rw [← Option.some_inj, ← h]; rfl
  rw [this]; rfl
structure Lg where
  base : ByteArray
  revs : List Int
  segs : List (List Sp)
def lgA (c : Lg) : AV := .agg [.v (.string c.base), .lst 1 (ints c.revs), .lst 1 (rowsA c.segs)]
def segE (n : Int) (l : List Sp) : Int := if opMayF l ≠ 0 then opMayF l else if inW l ≠ n then 5 else if 1048576 < outW l then 4 else if isN l then 0 else 8
def segsE : Int → List (List Sp) → Int
  | _, [] => 0
  | n, x :: l => if segE n x = 0 then segsE (outW x) l else segE n x
def szL : Int → List (List Sp) → List Int
  | n, [] => [n]
  | n, x :: l => n :: szL (outW x) l
def chE (c : Lg) : Int := if countD c.base.data.toList < 0 then 3 else if 1048576 < countD c.base.data.toList then 4 else if rPutE c.revs ≠ 0 ∨ c.revs.length ≠ c.segs.length + 1 then 6 else segsE (countD c.base.data.toList) c.segs
def LgS (c : Lg) : Prop := c.base.size ≤ 1000000000 ∧ c.revs.length ≤ 100000000 ∧ c.segs.length ≤ 100000000 ∧ ∀ x ∈ c.segs, x.length ≤ 100000000 ∧ Small x
def szA (c : Lg) : AV := if chE c = 0 then .tup [.lst 1 (ints (szL (countD c.base.data.toList) c.segs)), .v (.int .i64 0)] else .tup [nilA, .v (.int .i64 (chE c))]
theorem szA_bad {c : Lg} {e : Int} (h : chE c = e) (he : e ≠ 0) : szA c = .tup [nilA, .v (.int .i64 e)] := by subst h; exact if_neg he
theorem szA_ok {c : Lg} (h : chE c = 0) : szA c = .tup [.lst 1 (ints (szL (countD c.base.data.toList) c.segs)), .v (.int .i64 0)] := if_pos h
theorem segsE_app : ∀ (a b : List (List Sp)) (n : Int), segsE n (a ++ b) = if segsE n a = 0 then segsE (endN n a) b else segsE n a
  | [], b, n => rfl
  | x :: a, b, n => by
    rw [List.cons_append]
    by_cases h : segE n x = 0
    · have e1 : segsE n (x :: (a ++ b)) = segsE (outW x) (a ++ b) := if_pos h
      have e2 : segsE n (x :: a) = segsE (outW x) a := if_pos h
      rw [e1, e2, segsE_app a b]; rfl
    · have e1 : segsE n (x :: (a ++ b)) = segE n x := if_neg h
      have e2 : segsE n (x :: a) = segE n x := if_neg h
      rw [e1, e2, if_neg h]
theorem endN_snoc : ∀ (a : List (List Sp)) (x : List Sp) (n : Int), endN n (a ++ [x]) = outW x
  | [], x, n => rfl
  | y :: a, x, n => endN_snoc a x (outW y)
theorem szL_snoc : ∀ (a : List (List Sp)) (x : List Sp) (n : Int), szL n (a ++ [x]) = szL n a ++ [outW x]
  | [], x, n => rfl
  | y :: a, x, n => by rw [List.cons_append]; simp only [szL]; rw [szL_snoc a]; rfl
theorem szL_len : ∀ (a : List (List Sp)) (n : Int), (szL n a).length = a.length + 1
  | [], n => rfl
  | y :: a, n => by simp only [szL, List.length_cons]; rw [szL_len a]
theorem segsE_at {l : List (List Sp)} {n : Int} {i : Nat} (hi : i < l.length) (h : segsE n (l.take i) = 0) {e : Int} (he : segE (endN n (l.take i)) l[i] = e) (h0 : e ≠ 0) : segsE n l = e := by
  have : l = l.take i ++ l[i] :: l.drop (i + 1) := by rw [← List.drop_eq_getElem_cons hi, List.take_append_drop]
  rw [this, segsE_app, if_pos h]
  simp only [segsE]; rw [he, if_neg h0]
theorem segsE_next {l : List (List Sp)} {n : Int} {i : Nat} (hi : i < l.length) (h : segsE n (l.take i) = 0) (he : segE (endN n (l.take i)) l[i] = 0) : segsE n (l.take (i + 1)) = 0 := by
  rw [List.take_succ_eq_append_getElem hi, segsE_app, if_pos h]
  simp only [segsE]; rw [if_pos he]
theorem prow_e (l : List Int) (hl : l.length ≤ 100000000) : CallW env 48 [.lst 1 (ints l)] (fun r hs => r = .tup [.lst 1 (bts (rPutB l)), .v (.int .i64 (rPutE l))] ∧ hs = []) := by
  refine (prow_call l hl).res_eq ?_
  unfold rPutA rPutB rPutE
  cases h : rises l with
  | true => exact LeR.refl _
  | false => exact LeR.tup2 (LeR.nil 1) (LeR.refl _)
theorem ints_app (a b : List Int) : ints (a ++ b) = ints a ++ ints b := by simp [ints]
set_option maxHeartbeats 8000000 in
theorem sizes_call (c : Lg) (hc : LgS c) : CallW env 95 [lgA c] (fun r hs => r = szA c ∧ hs = []) := by
  obtain ⟨h1, h2, h3, h4⟩ := hc
  have hrl := rowsA_len c.segs
  have hil := ints_len c.revs
  have hP := prow_e c.revs h2
  have hw : IntKind.i64.wrap (((rowsA c.segs).length : Int) + 1) = (c.segs.length : Int) + 1 := by rw [hrl, wrap_id (by omega)]
  generalize hn0 : countD c.base.data.toList = n0
  have hch : chE c = (if n0 < 0 then 3 else if 1048576 < n0 then 4 else if rPutE c.revs ≠ 0 ∨ c.revs.length ≠ c.segs.length + 1 then 6 else segsE n0 c.segs) := by subst hn0; rfl
  have hcnt := pcount_call c.base h1
  rw [hn0] at hcnt
  refine Ev.fn [0, 1, 2, 3, 4, 6, 7, 8, 10, 11, 30, 35, 36, 37, 38, 51] 0 [.tmp 2, .tmp 3] Tryd.func95 (comp95 _ rfl) ?_
  repeat' (first | ((with_reducible refine Ev.br0 ?_); (first | refine Ev.brp ?_ | refine Ev.brn ?_); conv => whnf) | ((with_reducible refine Ev.c0 ?_); first | refine Ev.cp ?_ | refine Ev.cn ?_) | (with_reducible refine Ev.join (a := .reg 7 (⟨0, some 34, _, _⟩ :: _)) (fun s => ∃ w k v, s = ⟨[(2, nilA), (3, .v (.int .i64 0)), (4, .ptr 536 w 0 0), (8, .own 3080 v 0 1), (35, .lst 1 (rowsA c.segs)), (36, .v (.int .i64 (rowsA c.segs).length)), (37, .v (.int .i64 0))], [(536, ⟨1, 3, w, 0, true, [[.v (.int .i64 n0)]]⟩), (3080, ⟨1, 3, v, 0, false, [[.v (.int .i64 n0)]]⟩)], k⟩ ∧ 0 ≤ n0 ∧ n0 ≤ 1048576 ∧ rPutE c.revs = 0 ∧ c.revs.length = c.segs.length + 1) ?_ ?_) | ((refine Ev.sw ?_); conv => whnf) | refine Ev.sn ?_ | ((with_reducible refine Ev.chk_k ?_ ?_); rotate_left; exact Ev.bt; conv => whnf) | ((with_reducible (refine Ev.RI.run ?_; constructor)) <;> intro _) | ((refine Ev.sg ?_); conv => whnf) | ((with_reducible refine Ev.sided ?_ ?_); conv => whnf) | ((with_reducible refine Ev.kr (hs := [133, 134, 160, 135, 136, 137]) (fun Q hQ => ?_)); (simp only [Ev.runE_cons, Ev.runE_nil]); conv => whnf) | (with_reducible refine hQ _ ?_; clear hQ Q) | ((refine Ev.sf ?_); intro F hF; conv => whnf) | (with_reducible refine hF _ ?_; clear hF F) | ((with_reducible refine Ev.go_k (fun c' => ?_)); conv => whnf) | ((with_reducible refine Ev.il0 133 ?_); refine Ev.il 133 [0, 2, 4, 5, 6, 7, 8, 9, 15] [.tmp 2] Tryd.func133 (comp133 _ rfl) (fun ct' => ?_)) | ((with_reducible refine Ev.il0 134 ?_); refine Ev.il 134 [0, 1, 2, 3, 4] [.tmp 4] Tryd.func134 (comp134 _ rfl) (fun ct' => ?_)) | ((with_reducible refine Ev.il0 160 ?_); refine Ev.il 160 [0, 1, 2, 4] [.tmp 2] Tryd.func160 (comp160 _ rfl) (fun ct' => ?_)) | ((with_reducible refine Ev.il0 135 ?_); refine Ev.il 135 [0, 1] [.tmp 1] Tryd.func135 (comp135 _ rfl) (fun ct' => ?_)) | ((with_reducible refine Ev.il0 136 ?_); refine Ev.il 136 [0, 1] [.tmp 1] Tryd.func136 (comp136 _ rfl) (fun ct' => ?_)) | ((with_reducible refine Ev.il0 137 ?_); refine Ev.il 137 [0, 1, 2] [.tmp 2] Tryd.func137 (comp137 _ rfl) (fun ct' => ?_)) | ((with_reducible refine Ev.ca0 ?_); (first | refine Ev.ca (hcnt) ?_ | refine Ev.ca (hP) ?_); conv => whnf) | (with_reducible refine Ev.unroll 4 ?_) | ((first | refine Ev.el_map0 ?_ (fun hi => ?_) | refine Ev.el_mapN ?_ (fun hi => ?_)); rotate_left; conv => whnf) | ((with_reducible refine Ev.sd0 ?_); exact Ev.sd) | fail)
  · have : chE c = 3 := by rw [hch, if_pos (by assumption)]
    exact ⟨(szA_bad this (by decide)).symm, rfl⟩
  · have : chE c = 4 := by rw [hch, if_neg (by assumption), if_pos (by assumption)]
    exact ⟨(szA_bad this (by decide)).symm, rfl⟩
  · (refine Ev.to _ ?hs1 ?hh1 ?hc1 ⟨?_, ?_, ?_, rfl, ?hp1⟩; (case hs1 | hh1 => ((repeat' (first | exact trivial | refine And.intro ?_ ?_)) <;> (first | exact Ev.se | (refine Ev.slot_eq rfl ?_; first | (first | rfl | (simp; done)) | ((first | refine Ev.int_eq ?_ | refine Ev.own_eq ?_ | refine Ev.blk_eq ?_); (first | rfl | (simp; done)))) | exact Ev.sr))); (case hc1 => exact Nat.le_refl _))
    exact ⟨by omega, by omega, by assumption, by omega⟩
  · rintro s1 ⟨w, k, v, rfl, g1, g2, g3, g4⟩
    have hc0 : chE c = segsE n0 c.segs := by rw [hch, if_neg (by omega), if_neg (by omega), if_neg (by omega)]
    repeat' (first | ((with_reducible refine Ev.br0 ?_); (first | refine Ev.brp ?_ | refine Ev.brn ?_); conv => whnf) | ((with_reducible refine Ev.c0 ?_); first | refine Ev.cp ?_ | refine Ev.cn ?_) | ((refine Ev.sw ?_); conv => whnf) | refine Ev.sn ?_ | ((with_reducible refine Ev.chk_k ?_ ?_); rotate_left; exact Ev.bt; conv => whnf) | ((with_reducible (refine Ev.RI.run ?_; constructor)) <;> intro _) | ((refine Ev.sg ?_); conv => whnf) | ((with_reducible refine Ev.sided ?_ ?_); conv => whnf) | ((with_reducible refine Ev.kr (hs := []) (fun Q hQ => ?_)); (simp only [Ev.runE_cons, Ev.runE_nil]); conv => whnf) | (with_reducible refine hQ _ ?_; clear hQ Q) | ((refine Ev.sf ?_); intro F hF; conv => whnf) | (with_reducible refine hF _ ?_; clear hF F) | ((with_reducible refine Ev.go_k (fun c' => ?_)); conv => whnf) | ((first | refine Ev.el_map0 ?_ (fun hi => ?_) | refine Ev.el_mapN ?_ (fun hi => ?_)); rotate_left; conv => whnf) | ((with_reducible refine Ev.sd0 ?_); exact Ev.sd) | fail)
    refine Ev.loop (fun m s => ∃ i v k, s = ⟨[(2, nilA), (3, .v (.int .i64 0)), (4, .ptr 536 w 0 0), (8, .own 3080 v 0 (szL n0 (c.segs.take i)).length), (35, .lst 1 (rowsA c.segs)), (36, .v (.int .i64 (rowsA c.segs).length)), (37, .v (.int .i64 (i : Nat)))], [(536, ⟨1, 3, w, 0, true, [[.v (.int .i64 (endN n0 (c.segs.take i)))]]⟩), (3080, ⟨1, 3, v, 0, false, ints (szL n0 (c.segs.take i))⟩)], k⟩ ∧ m + i = c.segs.length ∧ segsE n0 (c.segs.take i) = 0) ?_ ?_
    · (refine Ev.to _ ?hs2 ?hh2 ?hc2 ⟨c.segs.length, 0, ?_, ?_, rfl, ?hp2⟩; (case hs2 | hh2 => ((repeat' (first | exact trivial | refine And.intro ?_ ?_)) <;> (first | exact Ev.se | (refine Ev.slot_eq rfl ?_; first | (first | rfl | (simp; done)) | ((first | refine Ev.int_eq ?_ | refine Ev.own_eq ?_ | refine Ev.blk_eq ?_); (first | rfl | (simp; done)))) | exact Ev.sr))); (case hc2 => exact Nat.le_refl _))
      exact ⟨by omega, rfl⟩
    rintro m s1 ⟨i, v, k, rfl, hm, hz⟩
    have hsl := szL_len (c.segs.take i) n0
    have hil2 := ints_len (szL n0 (c.segs.take i))
    have hti : (c.segs.take i).length ≤ c.segs.length := by rw [List.length_take]; omega
    have hX : ∀ (hi : i < c.segs.length), c.segs[i].length ≤ 100000000 ∧ Small c.segs[i] := fun hi => h4 _ (List.getElem_mem hi)
    repeat' (first | ((with_reducible refine Ev.br0 ?_); (first | refine Ev.brp ?_ | refine Ev.brn ?_); conv => whnf) | ((with_reducible refine Ev.c0 ?_); first | refine Ev.cp ?_ | refine Ev.cn ?_) | ((refine Ev.sw ?_); conv => whnf) | refine Ev.sn ?_ | ((with_reducible refine Ev.chk_k ?_ ?_); rotate_left; exact Ev.bt; conv => whnf) | ((with_reducible (refine Ev.RI.run ?_; constructor)) <;> intro _) | ((refine Ev.sg ?_); conv => whnf) | ((with_reducible refine Ev.sided ?_ ?_); conv => whnf) | ((with_reducible refine Ev.kr (hs := [133, 134, 160, 138, 139, 140, 141]) (fun Q hQ => ?_)); (simp only [Ev.runE_cons, Ev.runE_nil]); conv => whnf) | (with_reducible refine hQ _ ?_; clear hQ Q) | ((refine Ev.sf ?_); intro F hF; conv => whnf) | (with_reducible refine hF _ ?_; clear hF F) | ((with_reducible refine Ev.go_k (fun c' => ?_)); conv => whnf) | ((with_reducible refine Ev.il0 133 ?_); refine Ev.il 133 [0, 2, 4, 5, 6, 7, 8, 9, 15] [.tmp 2] Tryd.func133 (comp133 _ rfl) (fun ct' => ?_)) | ((with_reducible refine Ev.il0 134 ?_); refine Ev.il 134 [0, 1, 2, 3, 4] [.tmp 4] Tryd.func134 (comp134 _ rfl) (fun ct' => ?_)) | ((with_reducible refine Ev.il0 160 ?_); refine Ev.il 160 [0, 1, 2, 4] [.tmp 2] Tryd.func160 (comp160 _ rfl) (fun ct' => ?_)) | ((with_reducible refine Ev.il0 138 ?_); refine Ev.il 138 [0, 1] [.tmp 1] Tryd.func138 (comp138 _ rfl) (fun ct' => ?_)) | ((with_reducible refine Ev.il0 139 ?_); refine Ev.il 139 [0, 1, 2] [.tmp 2] Tryd.func139 (comp139 _ rfl) (fun ct' => ?_)) | ((with_reducible refine Ev.il0 140 ?_); refine Ev.il 140 [0, 1] [.tmp 1] Tryd.func140 (comp140 _ rfl) (fun ct' => ?_)) | ((with_reducible refine Ev.il0 141 ?_); refine Ev.il 141 [0, 1] [.tmp 1] Tryd.func141 (comp141 _ rfl) (fun ct' => ?_)) | ((with_reducible refine Ev.ca0 ?_); (first | refine Ev.call_det (opMay_call _ (by have := (hX (by assumption)).1; omega) (hX (by assumption)).2) rfl rfl ?_ | refine Ev.call_det (opIn_call _ (by have := (hX (by assumption)).1; omega)) rfl rfl ?_ | refine Ev.call_det (opOut_call _ (by have := (hX (by assumption)).1; omega) (hX (by assumption)).2) rfl rfl ?_ | refine Ev.call_det (is_call _ (by have := (hX (by assumption)).1; omega)) rfl rfl ?_ | refine Ev.ca (opMay_call _ (by have := (hX (by assumption)).1; omega) (hX (by assumption)).2) ?_ | refine Ev.ca (opIn_call _ (by have := (hX (by assumption)).1; omega)) ?_ | refine Ev.ca (opOut_call _ (by have := (hX (by assumption)).1; omega) (hX (by assumption)).2) ?_ | refine Ev.ca (is_call _ (by have := (hX (by assumption)).1; omega)) ?_); conv => whnf) | (with_reducible refine Ev.unroll 5 ?_) | ((with_reducible refine Ev.dr0 ?_); (first | refine Ev.dr 1 [133, 134, 160, 138, 139, 140, 141] [0, 2, 1, 3, 4] ?_); intro Q hQ; (simp only [Ev.runE_cons, Ev.runE_nil]); conv => whnf) | ((first | refine Ev.el_map0 ?_ (fun hi => ?_) | refine Ev.el_mapN ?_ (fun hi => ?_)); rotate_left; conv => whnf) | ((with_reducible refine Ev.sd0 ?_); exact Ev.sd) | fail)
    · have hi : i < c.segs.length := by omega
      have hb : segE (endN n0 (c.segs.take i)) c.segs[i] = 4 := by
        unfold segE; rw [if_neg (by simp; assumption), if_neg (by simp; assumption), if_pos (by assumption)]
      exact ⟨(szA_bad (hc0.trans (segsE_at hi hz hb (by decide))) (by decide)).symm, rfl⟩
    · have hi : i < c.segs.length := by omega
      have hb : segE (endN n0 (c.segs.take i)) c.segs[i] = 0 := by
        unfold segE; rw [if_neg (by simp; assumption), if_neg (by simp; assumption), if_neg (by assumption), if_pos (by assumption)]
      have e1 : c.segs.take (i + 1) = c.segs.take i ++ [c.segs[i]] := List.take_succ_eq_append_getElem hi
      have e2 : endN n0 (c.segs.take (i + 1)) = sumW (fun s => outF s.k s.n s.t) c.segs[i] := by rw [e1, endN_snoc]; rfl
      have e3 : szL n0 (c.segs.take (i + 1)) = szL n0 (c.segs.take i) ++ [sumW (fun s => outF s.k s.n s.t) c.segs[i]] := by rw [e1, szL_snoc]; rfl
      (refine Ev.again (m - 1) _ ?hm3 ?hs3 ?hh3 ?hc3 ⟨i + 1, ?_, ?_, rfl, ?hp3⟩; (case hs3 | hh3 => ((repeat' (first | exact trivial | refine And.intro ?_ ?_)) <;> (first | exact Ev.se | (refine Ev.slot_eq rfl ?_; first | (first | exact wrap_succ (by omega) | (rw [e3, ints_app]; rfl) | (rw [e3]; simp; done) | (rw [e2]; rfl) | rfl) | ((first | refine Ev.int_eq ?_ | refine Ev.own_eq ?_ | refine Ev.blk_eq ?_); (first | exact wrap_succ (by omega) | (rw [e3, ints_app]; rfl) | (rw [e3]; simp; done) | (rw [e2]; rfl) | rfl))) | exact Ev.sr))); (case hc3 => exact Nat.le_refl _); (case hm3 => omega))
      exact ⟨by omega, segsE_next hi hz hb⟩
    · have hi : i < c.segs.length := by omega
      have hb : segE (endN n0 (c.segs.take i)) c.segs[i] = 8 := by
        unfold segE; rw [if_neg (by simp; assumption), if_neg (by simp; assumption), if_neg (by assumption), if_neg (by simp; assumption)]
      exact ⟨(szA_bad (hc0.trans (segsE_at hi hz hb (by decide))) (by decide)).symm, rfl⟩
    · have hi : i < c.segs.length := by omega
      have hb : segE (endN n0 (c.segs.take i)) c.segs[i] = 5 := by
        unfold segE; rw [if_neg (by simp; assumption), if_pos (by assumption)]
      exact ⟨(szA_bad (hc0.trans (segsE_at hi hz hb (by decide))) (by decide)).symm, rfl⟩
    · exfalso
      rename_i a b
      exact a b
    · have hi : i < c.segs.length := by omega
      have hm0 : opMayF c.segs[i] ≠ 0 := by assumption
      have hb : segE (endN n0 (c.segs.take i)) c.segs[i] = opMayF c.segs[i] := by
        unfold segE; rw [if_pos hm0]
      exact ⟨(szA_bad (hc0.trans (segsE_at hi hz hb hm0)) hm0).symm, rfl⟩
    · have hall : c.segs.take i = c.segs := List.take_of_length_le (by omega)
      rw [hall] at hz hsl hil2 ⊢
      refine ⟨?_, rfl⟩
      rw [szA_ok (hc0.trans hz), hn0]
      exact Ev.tup2_eq (Ev.lst_eq (Ev.take_all (by omega) rfl)) rfl
  · have : chE c = 6 := by rw [hch, if_neg (by assumption), if_neg (by assumption), if_pos (.inr (by omega))]
    exact ⟨(szA_bad this (by decide)).symm, rfl⟩
  · have : chE c = 6 := by rw [hch, if_neg (by assumption), if_neg (by assumption), if_pos (.inl (by assumption))]
    exact ⟨(szA_bad this (by decide)).symm, rfl⟩
end Go.Proofs.YtadlnaljicikfaaDoor.Abs

namespace Go.Proofs.YtadlnaljicikfaaDoor.Abs
open Go Go.Lib
set_option linter.unusedSimpArgs false
set_option linter.unusedVariables false
end Go.Proofs.YtadlnaljicikfaaDoor.Abs

namespace Go.Proofs.YtadlnaljicikfaaDoor.Abs
open Go
set_option maxRecDepth 100000
set_option linter.unusedSimpArgs false
set_option linter.unusedVariables false
attribute [local irreducible] Ev.Unr Ev.Go' Ev.bytK Ev.runK Ev.FinL Ev.brC Ev.Side Ev.Wp Ev.Again Ev.To Ev.Fin
open Go.Lib Go.RowKit
end Go.Proofs.YtadlnaljicikfaaDoor.Abs

namespace Go.Proofs.YtadlnaljicikfaaDoor.Abs
open Go
set_option maxRecDepth 100000
set_option linter.unusedSimpArgs false
set_option linter.unusedVariables false
attribute [local irreducible] Ev.Unr Ev.Go' Ev.bytK Ev.runK Ev.FinL Ev.brC Ev.Side Ev.Wp Ev.Again Ev.To Ev.Fin
open Go.Lib Go.RowKit
theorem comp46 : ∀ c, Tryd.f46.body = some c → comp c = (.seq (.reg 0 [I.n 0 1 (.box 27 (.tmp 0)), I.n 1 2 (I.si 0)]) (.seq (.reg 1 [I.n 0 6 (I.ld 27 1), I.n 1 7 (I.c1 95 6 27), I.n 2 5 (I.mv 7), I.n 3 8 (I.ex 5 0), I.n 4 9 (I.ex 5 1), I.n 5 3 (I.sa 8), I.n 6 4 (I.sa 9)]) (.seq (.reg 2 [I.n 0 10 (I.mv 4), I.n 1 2 (I.sa 10)]) .ret))) := by
  intro c h
  have : c = Tryd.f46.body.get rfl := by rw [← Option.some_inj, ← h]; rfl
  rw [this]; rfl
theorem comp23 : ∀ c, Tryd.f23.body = some c → comp c = (.seq (.reg 0 [I.n 0 4 (.alloc 27)]) (.seq (.reg 1 [I.n 0 8 (I.mv 0), I.n 1 9 (I.mv 0), I.n 2 10 (I.ln 9 9), I.n 3 11 (.call { callee := .builtin .min, args := #[.tmp 10, .const (Value.int .i64 20)], argTypes := #[3, 3] }), I.n 4 12 (.slice 9 (.tmp 8) none (some (.tmp 11)) none), I.n 5 13 (I.c1 37 12 9), I.n 6 14 (.buildSlice 25 1 #[(0, .const (Value.int .i64 0))]), I.n 7 15 (.build 27 #[(0, .tmp 13), (1, .tmp 14)]), I.n 8 5 (.alloc 27), I.u 9 (I.st 27 5 15)]) (.seq (.reg 2 [I.n 0 16 (I.mv 1), I.n 1 17 (I.fa 27 5 0), I.n 2 18 (I.ld 9 17), I.n 3 19 (I.c1 70 18 9), I.n 4 20 (I.c2 69 16 19 22 3), I.n 5 6 (I.sa 20)]) (.seq (.seq (.reg 3 [I.n 0 7 (I.si 0)]) (.block 0 (.loop (.seq (.seq (.reg 4 [I.n 0 21 (I.mv 7), I.n 1 22 (I.mv 6), I.n 2 23 (I.ln 22 22), I.n 3 24 (I.bo .lss 3 21 23 3)]) (.cond (.tmp 24) .skip (.exit 0))) (.seq (.block 1 (.seq (.reg 6 [I.n 0 27 (I.fa 27 5 1), I.n 1 28 (I.ld 25 27), I.n 2 29 (I.mv 7), I.n 3 30 (I.bc .add 3 29 1 3), I.n 4 31 (I.b1 25 30), I.n 5 32 (I.ap 28 31 25 25), I.n 6 33 (I.fa 27 5 1), I.u 7 (I.st 25 33 32)]) (.draw 7 [I.n 0 34 (I.fa 27 5 2), I.n 1 35 (I.ld 22 34), I.n 2 36 (I.mv 6), I.n 3 37 (I.mv 7), I.n 4 38 (I.ia 22 36 37), I.n 5 39 (I.ld 23 38), I.n 6 40 (I.c1 71 39 23), I.n 7 41 (I.b1 22 40), I.n 8 42 (I.ap 35 41 22 22), I.n 9 43 (I.fa 27 5 2), I.u 10 (I.st 22 43 42)] [[], [0], [], [], [2, 3], [4], [5], [6], [1, 7, 6], [0, 1, 2, 3, 4, 5, 6, 7, 8], [9, 8, 8, 0, 1, 2, 3, 4, 5, 6, 7, 8]]))) (.reg 5 [I.n 0 25 (I.mv 7), I.n 1 26 (I.bc .add 3 25 1 3), I.n 2 7 (I.sa 26)])))))) (.seq (.reg 8 [I.n 0 44 (I.ld 27 5), I.u 1 (I.st 27 4 44)]) .ret))))) := by
  intro c h
  have : c = Tryd.f23.body.get rfl := by rw [← Option.some_inj, ← h]; rfl
  rw [this]; rfl
def totb (l : List (List Sp)) : Nat := (l.map tbs).sum
theorem totb_cons (x : List Sp) (l : List (List Sp)) : totb (x :: l) = tbs x + totb l := by simp [totb]
theorem cmay_call (c : Lg) (hc : LgS c) : CallW env 46 [lgA c] (fun r hs => r = .v (.int .i64 (chE c)) ∧ hs = []) := by
  have h := sizes_call c hc
  unfold szA at h
  by_cases h0 : chE c = 0
  · rw [if_pos h0] at h
    refine Ev.fn [0, 1, 2, 4] 0 [.tmp 2] Tryd.func46 (comp46 _ rfl) ?_
    repeat' (first | ((refine Ev.sw ?_); conv => whnf) | refine Ev.sn ?_ | ((with_reducible refine Ev.chk_k ?_ ?_); rotate_left; exact Ev.bt; conv => whnf) | ((with_reducible (refine Ev.RI.run ?_; constructor)) <;> intro _) | ((refine Ev.sg ?_); conv => whnf) | ((with_reducible refine Ev.sided ?_ ?_); conv => whnf) | ((with_reducible refine Ev.kr (hs := []) (fun Q hQ => ?_)); (simp only [Ev.runE_cons, Ev.runE_nil]); conv => whnf) | (with_reducible refine hQ _ ?_; clear hQ Q) | ((refine Ev.sf ?_); intro F hF; conv => whnf) | (with_reducible refine hF _ ?_; clear hF F) | ((with_reducible refine Ev.go_k (fun c' => ?_)); conv => whnf) | ((with_reducible refine Ev.ca0 ?_); (first | refine Ev.ca (h) ?_); conv => whnf) | ((first | refine Ev.el_map0 ?_ (fun hi => ?_) | refine Ev.el_mapN ?_ (fun hi => ?_)); rotate_left; conv => whnf) | ((with_reducible refine Ev.sd0 ?_); exact Ev.sd) | fail)
    exact ⟨by rw [h0]; rfl, rfl⟩
  · rw [if_neg h0] at h
    refine Ev.fn [0, 1, 2, 4] 0 [.tmp 2] Tryd.func46 (comp46 _ rfl) ?_
    repeat' (first | ((refine Ev.sw ?_); conv => whnf) | refine Ev.sn ?_ | ((with_reducible refine Ev.chk_k ?_ ?_); rotate_left; exact Ev.bt; conv => whnf) | ((with_reducible (refine Ev.RI.run ?_; constructor)) <;> intro _) | ((refine Ev.sg ?_); conv => whnf) | ((with_reducible refine Ev.sided ?_ ?_); conv => whnf) | ((with_reducible refine Ev.kr (hs := []) (fun Q hQ => ?_)); (simp only [Ev.runE_cons, Ev.runE_nil]); conv => whnf) | (with_reducible refine hQ _ ?_; clear hQ Q) | ((refine Ev.sf ?_); intro F hF; conv => whnf) | (with_reducible refine hF _ ?_; clear hF F) | ((with_reducible refine Ev.go_k (fun c' => ?_)); conv => whnf) | ((with_reducible refine Ev.ca0 ?_); (first | refine Ev.ca (h) ?_); conv => whnf) | ((first | refine Ev.el_map0 ?_ (fun hi => ?_) | refine Ev.el_mapN ?_ (fun hi => ?_)); rotate_left; conv => whnf) | ((with_reducible refine Ev.sd0 ?_); exact Ev.sd) | fail)
    exact ⟨rfl, rfl⟩
def fitL' (t : ByteArray) (l : List (List Sp)) : Lg :=
  let b := fitS (t.extract 0 (min t.size 20))
  let w := chO l (countD b.data.toList)
  ⟨b, (List.range (w.length + 1)).map fun (i : Nat) => (i : Int), w.map norm⟩
theorem fit16_core (t : ByteArray) (l : List (List Sp)) : CallW env 23 [.v (.string t), .lst 1 (rowsA l)] (fun r hs => LeR r (lgA (fitL' t l)) ∧ hs = []) := by
  have hrl := rowsA_len l
  have hs20 : (t.extract 0 (min t.size 20)).size ≤ 20 := by rw [ByteArray.size_extract]; omega
  have hx : (min (t.size : Int) 20).toNat = min t.size 20 := by omega
  have hF : CallW env 37 [.v (.string (t.extract 0 (min (t.size : Int) 20).toNat))] (fun r hs => r = .v (.string (fitS (t.extract 0 (min t.size 20)))) ∧ hs = []) := by rw [hx]; exact fit_call _ (by omega)
  have hC := rcount_call (fitS (t.extract 0 (min t.size 20))) (by have := fit_size (t.extract 0 (min t.size 20)) (by omega); omega)
  have hcc := fit_count (t.extract 0 (min t.size 20))
  have hW := chain4_call l (countD (fitS (t.extract 0 (min t.size 20))).data.toList) (by omega)
  have hL : lgA (fitL' t l) = .agg [.v (.string (fitS (t.extract 0 (min t.size 20)))), .lst 1 (ints ((List.range ((chO l (countD (fitS (t.extract 0 (min t.size 20))).data.toList)).length + 1)).map fun (i : Nat) => (i : Int))), .lst 1 (rowsA ((chO l (countD (fitS (t.extract 0 (min t.size 20))).data.toList)).map norm))] := rfl
  rw [hL]
  have hcw := chO_chn l (n := countD (fitS (t.extract 0 (min t.size 20))).data.toList) (by omega)
  have hN : ∀ x ∈ chO l (countD (fitS (t.extract 0 (min t.size 20))).data.toList), x.length ≤ 13 ∧ tbs x ≤ 312 := by
    intro x hx
    obtain ⟨y, m, rfl, m1, m2⟩ := chn_mem hcw.1 x hx
    exact fit_tbs y (by omega)
  obtain ⟨_, h20⟩ := hcw
  generalize fitS (t.extract 0 (min t.size 20)) = b at *
  generalize chO l (countD b.data.toList) = W at *
  have hwl := rowsA_len W
  refine Ev.fn [0, 1, 4, 5, 6, 7, 24] 0 [.cell 4 27] Tryd.func23 (comp23 _ rfl) ?_
  repeat' (first | ((with_reducible refine Ev.br0 ?_); (first | refine Ev.brp ?_ | refine Ev.brn ?_); conv => whnf) | ((with_reducible refine Ev.c0 ?_); first | refine Ev.cp ?_ | refine Ev.cn ?_) | ((refine Ev.sw ?_); conv => whnf) | refine Ev.sn ?_ | ((with_reducible refine Ev.chk_k ?_ ?_); rotate_left; exact Ev.bt; conv => whnf) | ((with_reducible (refine Ev.RI.run ?_; constructor)) <;> intro _) | ((refine Ev.sg ?_); conv => whnf) | ((with_reducible refine Ev.sided ?_ ?_); conv => whnf) | ((with_reducible refine Ev.kr (hs := []) (fun Q hQ => ?_)); (simp only [Ev.runE_cons, Ev.runE_nil]); conv => whnf) | (with_reducible refine hQ _ ?_; clear hQ Q) | ((refine Ev.sf ?_); intro F hF; conv => whnf) | (with_reducible refine hF _ ?_; clear hF F) | ((with_reducible refine Ev.go_k (fun c' => ?_)); conv => whnf) | ((with_reducible refine Ev.ca0 ?_); (first | refine Ev.ca (hF) ?_ | refine Ev.ca (hC) ?_ | refine Ev.ca (hW) ?_); conv => whnf) | ((with_reducible refine Ev.dr0 ?_); (first | refine Ev.dr 7 [] [0, 1, 2, 3, 4, 5, 6, 7, 8, 9, 10] ?_); intro Q hQ; (simp only [Ev.runE_cons, Ev.runE_nil]); conv => whnf) | ((first | refine Ev.el_map0 ?_ (fun hi => ?_) | refine Ev.el_mapN ?_ (fun hi => ?_)); rotate_left; conv => whnf) | ((with_reducible refine Ev.sd0 ?_); exact Ev.sd) | fail)
  have hrg : ∀ i : Nat, ((List.range (i + 1)).map fun (i : Nat) => (i : Int)) = ((List.range i).map fun (i : Nat) => (i : Int)) ++ [(i : Int)] := fun i => by rw [List.range_succ, List.map_append]; rfl
  refine Ev.loop (fun k s => ∃ (i c v w : Nat) (sg : AV) (hx : List (Nat × Blk)), s = ⟨[(4, .ptr 0 0 0 0), (5, .ptr 576 w 0 0), (6, .lst 1 (rowsA W)), (7, .v (.int .i64 i))],
      (576, ⟨3, 27, w, 0, true, [[.v (.string b), .own 560 v 0 (i + 1), sg]]⟩) :: (560, ⟨1, 3, v, 0, false, ints ((List.range (i + 1)).map fun (i : Nat) => (i : Int))⟩) :: (0, ⟨3, 27, 0, 0, true, [[.v (.string ⟨#[]⟩), nilA, nilA]]⟩) :: hx, c⟩ ∧
      ((i = 0 ∧ sg = nilA ∧ hx = []) ∨ (0 < i ∧ ∃ u, sg = .own 3648 u 0 i ∧ hx = [(3648, ⟨1, 23, u, 0, false, rowsA ((W.take i).map norm)⟩)])) ∧ k + i = W.length) ?_ ?_
  · (refine Ev.to _ ?hs5 ?hh5 ?hc5 ⟨W.length, 0, ?_, ?_, ?_, nilA, [], rfl, ?hp5⟩; (case hs5 | hh5 => ((repeat' (first | exact trivial | refine And.intro ?_ ?_)) <;> (first | exact Ev.se | (refine Ev.slot_eq rfl ?_; first | (first | rfl | (simp; done)) | ((first | refine Ev.int_eq ?_ | refine Ev.own_eq ?_ | refine Ev.blk_eq ?_); (first | rfl | (simp; done)))) | exact Ev.sr))); (case hc5 => exact Nat.le_refl _))
    exact ⟨.inl ⟨rfl, rfl, rfl⟩, by omega⟩
  rintro k s1 ⟨i, c, v, w, sg, hx, rfl, hsg, hk⟩
  have hlr := ints_len ((List.range (i + 1)).map fun (i : Nat) => (i : Int))
  rw [List.length_map, List.length_range] at hlr
  have hO : ∀ (hi : i < W.length), CallW env 71 [.lst 3 (sps W[i])] (fun r hs => r = .lst 3 (sps (norm W[i])) ∧ hs = []) := fun hi => by
    have := hN _ (List.getElem_mem hi); exact rnof_call _ (by omega) (by omega)
  by_cases hi : i < W.length
  · have hi2 : (i : Int) < ((rowsA W).length : Int) := by omega
    rcases hsg with ⟨rfl, rfl, rfl⟩ | ⟨h0, u, rfl, rfl⟩
    · repeat' (first | ((with_reducible refine Ev.br0 ?_); (first | refine Ev.brp ?_ | refine Ev.brn ?_); conv => whnf) | ((with_reducible refine Ev.c0 ?_); first | refine Ev.cp ?_ | refine Ev.cn ?_) | (with_reducible refine Ev.c_pos hi2 ?_) | ((refine Ev.sw ?_); conv => whnf) | refine Ev.sn ?_ | ((with_reducible refine Ev.chk_k ?_ ?_); rotate_left; exact Ev.bt; conv => whnf) | ((with_reducible (refine Ev.RI.run ?_; constructor)) <;> intro _) | ((refine Ev.sg ?_); conv => whnf) | ((with_reducible refine Ev.sided ?_ ?_); conv => whnf) | ((with_reducible refine Ev.kr (hs := []) (fun Q hQ => ?_)); (simp only [Ev.runE_cons, Ev.runE_nil]); conv => whnf) | (with_reducible refine hQ _ ?_; clear hQ Q) | ((refine Ev.sf ?_); intro F hF; conv => whnf) | (with_reducible refine hF _ ?_; clear hF F) | ((with_reducible refine Ev.go_k (fun c' => ?_)); conv => whnf) | ((with_reducible refine Ev.ca0 ?_); (first | refine Ev.ca (hO hi) ?_); conv => whnf) | ((with_reducible refine Ev.dr0 ?_); (first | refine Ev.dr 7 [] [0, 1, 2, 3, 4, 5, 6, 7, 8, 9, 10] ?_); intro Q hQ; (simp only [Ev.runE_cons, Ev.runE_nil]); conv => whnf) | ((first | refine Ev.el_map0 ?_ (fun hi => ?_) | refine Ev.el_mapN ?_ (fun hi => ?_)); rotate_left; conv => whnf) | ((with_reducible refine Ev.sd0 ?_); exact Ev.sd) | fail)
      have hw1 : IntKind.i64.wrap (((0 : Nat) : Int) + 1) = ((0 + 1 : Nat) : Int) := by rw [wrap_id (by omega)]; rfl
      have hr1 : ints ((List.range (0 + 1)).map fun (i : Nat) => (i : Int)) ++ List.take 1 (List.drop 0 [[AV.v (.int .i64 (IntKind.i64.wrap (((0 : Nat) : Int) + 1)))]]) = ints ((List.range (0 + 1 + 1)).map fun (i : Nat) => (i : Int)) := by rw [hrg (0 + 1), ints_app, hw1]; rfl
      have hr2 : List.take 1 (List.drop 0 [[AV.lst 3 (sps (norm W[0]))]]) = rowsA ((W.take (0 + 1)).map norm) := by rw [List.take_succ_eq_append_getElem hi]; rfl
      (refine Ev.again (k - 1) _ ?hm6 ?hs6 ?hh6 ?hc6 ⟨0 + 1, ?_, c + 8, w, .own 3648 (c + 8 + 8 + 8) 0 (0 + 1), [(3648, ⟨1, 23, c + 8 + 8 + 8, 0, false, rowsA ((W.take (0 + 1)).map norm)⟩)], rfl, ?hp6⟩; (case hs6 | hh6 => ((repeat' (first | exact trivial | refine And.intro ?_ ?_)) <;> (first | exact Ev.se | (refine Ev.slot_eq rfl ?_; first | (first | exact wrap_succ (by omega) | exact congrArg (fun n => Blk.mk 1 3 _ 0 false n) hr1 | exact congrArg (fun n => Blk.mk 1 23 _ 0 false n) hr2 | rfl) | ((first | refine Ev.int_eq ?_ | refine Ev.own_eq ?_ | refine Ev.blk_eq ?_); (first | exact wrap_succ (by omega) | exact congrArg (fun n => Blk.mk 1 3 _ 0 false n) hr1 | exact congrArg (fun n => Blk.mk 1 23 _ 0 false n) hr2 | rfl))) | exact Ev.sr))); (case hc6 => exact Nat.le_refl _); (case hm6 => omega))
      exact ⟨.inr ⟨by omega, _, rfl, rfl⟩, by omega⟩
    · have hml := rowsA_len ((W.take i).map norm)
      rw [List.length_map, List.length_take] at hml
      repeat' (first | ((with_reducible refine Ev.br0 ?_); (first | refine Ev.brp ?_ | refine Ev.brn ?_); conv => whnf) | ((with_reducible refine Ev.c0 ?_); first | refine Ev.cp ?_ | refine Ev.cn ?_) | (with_reducible refine Ev.c_pos hi2 ?_) | ((refine Ev.sw ?_); conv => whnf) | refine Ev.sn ?_ | ((with_reducible refine Ev.chk_k ?_ ?_); rotate_left; exact Ev.bt; conv => whnf) | ((with_reducible (refine Ev.RI.run ?_; constructor)) <;> intro _) | ((refine Ev.sg ?_); conv => whnf) | ((with_reducible refine Ev.sided ?_ ?_); conv => whnf) | ((with_reducible refine Ev.kr (hs := []) (fun Q hQ => ?_)); (simp only [Ev.runE_cons, Ev.runE_nil]); conv => whnf) | (with_reducible refine hQ _ ?_; clear hQ Q) | ((refine Ev.sf ?_); intro F hF; conv => whnf) | (with_reducible refine hF _ ?_; clear hF F) | ((with_reducible refine Ev.go_k (fun c' => ?_)); conv => whnf) | ((with_reducible refine Ev.ca0 ?_); (first | refine Ev.ca (hO hi) ?_); conv => whnf) | ((with_reducible refine Ev.dr0 ?_); (first | refine Ev.dr 7 [] [0, 1, 2, 3, 4, 5, 6, 7, 8, 9, 10] ?_); intro Q hQ; (simp only [Ev.runE_cons, Ev.runE_nil]); conv => whnf) | ((first | refine Ev.el_map0 ?_ (fun hi => ?_) | refine Ev.el_mapN ?_ (fun hi => ?_)); rotate_left; conv => whnf) | ((with_reducible refine Ev.sd0 ?_); exact Ev.sd) | fail)
      have hw1 : IntKind.i64.wrap ((i : Int) + 1) = ((i + 1 : Nat) : Int) := by rw [wrap_id (by omega)]; simp
      have hr1 : ints ((List.range (i + 1)).map fun (i : Nat) => (i : Int)) ++ List.take 1 (List.drop 0 [[AV.v (.int .i64 (IntKind.i64.wrap ((i : Int) + 1)))]]) = ints ((List.range (i + 1 + 1)).map fun (i : Nat) => (i : Int)) := by rw [hrg (i + 1), ints_app, hw1]; rfl
      have hr2 : rowsA ((W.take i).map norm) ++ List.take 1 (List.drop 0 [[AV.lst 3 (sps (norm W[i]))]]) = rowsA ((W.take (i + 1)).map norm) := by rw [List.take_succ_eq_append_getElem hi, List.map_append, rowsA_app]; rfl
      (refine Ev.again (k - 1) _ ?hm7 ?hs7 ?hh7 ?hc7 ⟨i + 1, ?_, c + 8, w, .own 3648 (c + 8 + 8 + 8) 0 (i + 1), [(3648, ⟨1, 23, c + 8 + 8 + 8, 0, false, rowsA ((W.take (i + 1)).map norm)⟩)], rfl, ?hp7⟩; (case hs7 | hh7 => ((repeat' (first | exact trivial | refine And.intro ?_ ?_)) <;> (first | exact Ev.se | (refine Ev.slot_eq rfl ?_; first | (first | exact wrap_succ (by omega) | exact congrArg (fun n => Blk.mk 1 3 _ 0 false n) hr1 | exact congrArg (fun n => Blk.mk 1 23 _ 0 false n) hr2 | rfl) | ((first | refine Ev.int_eq ?_ | refine Ev.own_eq ?_ | refine Ev.blk_eq ?_); (first | exact wrap_succ (by omega) | exact congrArg (fun n => Blk.mk 1 3 _ 0 false n) hr1 | exact congrArg (fun n => Blk.mk 1 23 _ 0 false n) hr2 | rfl))) | exact Ev.sr))); (case hc7 => exact Nat.le_refl _); (case hm7 => omega))
      exact ⟨.inr ⟨by omega, _, rfl, rfl⟩, by omega⟩
  · have hi2 : ¬ (i : Int) < ((rowsA W).length : Int) := by omega
    rcases hsg with ⟨rfl, rfl, rfl⟩ | ⟨h0, u, rfl, rfl⟩
    · repeat' (first | ((with_reducible refine Ev.br0 ?_); (first | refine Ev.brp ?_ | refine Ev.brn ?_); conv => whnf) | ((with_reducible refine Ev.c0 ?_); first | refine Ev.cp ?_ | refine Ev.cn ?_) | (with_reducible refine Ev.c_neg hi2 ?_) | ((refine Ev.sw ?_); conv => whnf) | refine Ev.sn ?_ | ((with_reducible refine Ev.chk_k ?_ ?_); rotate_left; exact Ev.bt; conv => whnf) | ((with_reducible (refine Ev.RI.run ?_; constructor)) <;> intro _) | ((refine Ev.sg ?_); conv => whnf) | ((with_reducible refine Ev.sided ?_ ?_); conv => whnf) | ((with_reducible refine Ev.kr (hs := []) (fun Q hQ => ?_)); (simp only [Ev.runE_cons, Ev.runE_nil]); conv => whnf) | (with_reducible refine hQ _ ?_; clear hQ Q) | ((refine Ev.sf ?_); intro F hF; conv => whnf) | (with_reducible refine hF _ ?_; clear hF F) | ((with_reducible refine Ev.go_k (fun c' => ?_)); conv => whnf) | ((with_reducible refine Ev.dr0 ?_); (first | refine Ev.dr 7 [] [0, 1, 2, 3, 4, 5, 6, 7, 8, 9, 10] ?_); intro Q hQ; (simp only [Ev.runE_cons, Ev.runE_nil]); conv => whnf) | ((first | refine Ev.el_map0 ?_ (fun hi => ?_) | refine Ev.el_mapN ?_ (fun hi => ?_)); rotate_left; conv => whnf) | ((with_reducible refine Ev.sd0 ?_); exact Ev.sd) | fail)
      have : W = [] := List.eq_nil_of_length_eq_zero (by omega)
      subst this
      refine ⟨LeR.agg3 (LeR.refl _) (LeR.refl _) (LeR.nil 1), rfl⟩
    · repeat' (first | ((with_reducible refine Ev.br0 ?_); (first | refine Ev.brp ?_ | refine Ev.brn ?_); conv => whnf) | ((with_reducible refine Ev.c0 ?_); first | refine Ev.cp ?_ | refine Ev.cn ?_) | (with_reducible refine Ev.c_neg hi2 ?_) | ((refine Ev.sw ?_); conv => whnf) | refine Ev.sn ?_ | ((with_reducible refine Ev.chk_k ?_ ?_); rotate_left; exact Ev.bt; conv => whnf) | ((with_reducible (refine Ev.RI.run ?_; constructor)) <;> intro _) | ((refine Ev.sg ?_); conv => whnf) | ((with_reducible refine Ev.sided ?_ ?_); conv => whnf) | ((with_reducible refine Ev.kr (hs := []) (fun Q hQ => ?_)); (simp only [Ev.runE_cons, Ev.runE_nil]); conv => whnf) | (with_reducible refine hQ _ ?_; clear hQ Q) | ((refine Ev.sf ?_); intro F hF; conv => whnf) | (with_reducible refine hF _ ?_; clear hF F) | ((with_reducible refine Ev.go_k (fun c' => ?_)); conv => whnf) | ((with_reducible refine Ev.dr0 ?_); (first | refine Ev.dr 7 [] [0, 1, 2, 3, 4, 5, 6, 7, 8, 9, 10] ?_); intro Q hQ; (simp only [Ev.runE_cons, Ev.runE_nil]); conv => whnf) | ((first | refine Ev.el_map0 ?_ (fun hi => ?_) | refine Ev.el_mapN ?_ (fun hi => ?_)); rotate_left; conv => whnf) | ((with_reducible refine Ev.sd0 ?_); exact Ev.sd) | fail)
      have hiW : i = W.length := by omega
      subst hiW
      have e1 : List.take (W.length + 1) (List.drop 0 (ints ((List.range (W.length + 1)).map fun (i : Nat) => (i : Int)))) = ints ((List.range (W.length + 1)).map fun (i : Nat) => (i : Int)) := by rw [List.drop_zero, List.take_of_length_le (by omega)]
      have e2 : List.take W.length (List.drop 0 (rowsA ((W.take W.length).map norm))) = rowsA (W.map norm) := by rw [List.drop_zero, List.take_length, List.take_of_length_le (by simp)]
      refine ⟨?_, rfl⟩
      show LeR (AV.agg [_, .lst 1 (List.take (W.length + 1) (List.drop 0 (ints _))), .lst 1 (List.take W.length (List.drop 0 (rowsA _)))]) _
      rw [e1, e2]; exact LeR.refl _
theorem fit16_call (t : ByteArray) (l : List (List Sp)) : CallW env 23 [.v (.string t), .lst 1 (rowsA l)] (fun r hs => r = lgA (fitL' t l) ∧ hs = []) :=
  (fit16_core t l).res (fun r hs h => ⟨_, ⟨rfl, h.2⟩, h.1⟩)
end Go.Proofs.YtadlnaljicikfaaDoor.Abs

namespace Go.Proofs.YtadlnaljicikfaaDoor.Abs
open Go
set_option maxRecDepth 100000
set_option linter.unusedSimpArgs false
set_option linter.unusedVariables false
attribute [local irreducible] Ev.Unr Ev.Go' Ev.bytK Ev.runK Ev.FinL Ev.brC Ev.Side Ev.Wp Ev.Again Ev.To Ev.Fin
open Go.Lib Go.RowKit
theorem segE_of {n : Int} {x : List Sp} (h1 : opMayF x = 0) (h2 : inW x = n) (h3 : outW x ≤ 1048576) (h4 : isN x = true) : segE n x = 0 := by
  unfold segE; rw [if_neg (by simp [h1]), if_neg (by simp [h2]), if_neg (by omega), if_pos h4]
theorem chE_zero {c : Lg} (h : chE c = 0) : validD c.base.data.toList = true ∧ countD c.base.data.toList ≤ 1048576 ∧ rises c.revs = true ∧ c.revs.length = c.segs.length + 1 ∧ segsE (countD c.base.data.toList) c.segs = 0 := by
  unfold chE at h
  by_cases h1 : countD c.base.data.toList < 0
  · rw [if_pos h1] at h; cases h
  · rw [if_neg h1] at h
    by_cases h2 : 1048576 < countD c.base.data.toList
    · rw [if_pos h2] at h; cases h
    · rw [if_neg h2] at h
      by_cases h3 : rPutE c.revs ≠ 0 ∨ c.revs.length ≠ c.segs.length + 1
      · rw [if_pos h3] at h; cases h
      · rw [if_neg h3] at h
        refine ⟨?_, by omega, ?_, by omega, h⟩
        · cases hv : validD c.base.data.toList with
          | true => rfl
          | false => rw [countD_bad hv] at h1; omega
        · cases hr : rises c.revs with
          | true => rfl
          | false => exact absurd (.inl (by unfold rPutE; rw [hr]; decide)) h3
theorem chE_of {c : Lg} (h1 : validD c.base.data.toList = true) (h2 : countD c.base.data.toList ≤ 1048576) (h3 : rises c.revs = true) (h4 : c.revs.length = c.segs.length + 1) (h5 : segsE (countD c.base.data.toList) c.segs = 0) : chE c = 0 := by
  have : 0 ≤ countD c.base.data.toList := by rw [countD_pts h1]; omega
  unfold chE
  rw [if_neg (by omega), if_neg (by omega), if_neg, h5]
  rintro (h | h)
  · apply h; unfold rPutE; rw [h3]; rfl
  · exact h h4
theorem rises_of {l : List Int} (h0 : l ≠ []) (h1 : l.length ≤ 65536) (h2 : risesG (-1) l = true) : rises l = true := by
  unfold rises; rw [h2, decide_eq_true h1]
  cases l with
  | nil => exact absurd rfl h0
  | cons x l => rfl
theorem norm_seg {x : List Sp} (h : opMayF x = 0) (hl : x.length ≤ 1000000000) (ho : outW x ≤ 1048576) : segE (inW x) (norm x) = 0 := by
  obtain ⟨h3, h4⟩ := (opMay_iff x).1 h
  exact segE_of (norm_may h hl) (norm_in h hl) (by rw [norm_out h hl]; exact ho) (norm_isN x h3 (by rw [← inW_sum h3 hl]; exact h4))
theorem chn_segs : ∀ (W : List (List Sp)) (n : Int), Chn n W → segsE n (W.map norm) = 0
  | [], _, _ => rfl
  | x :: W, n, ⟨⟨y, m, e, m1, m2⟩, hin, hr⟩ => by
    have h1 : opMayF x = 0 := by rw [e]; exact fitO_may y (by omega)
    have h2 : x.length ≤ 13 := by rw [e]; exact (fit_tbs y (by omega)).1
    have h3 : outW x ≤ 1048576 := by rw [e]; have := (fit_out y (n := m) (by omega)).2; omega
    have h4 := norm_seg h1 (by omega) h3
    rw [hin] at h4
    rw [List.map_cons]
    simp only [segsE]
    rw [if_pos h4, norm_out h1 (by omega)]
    exact chn_segs W _ hr
theorem rises_range : ∀ n : Nat, n ≤ 1000 → rises ((List.range (n + 1)).map fun (i : Nat) => (i : Int)) = true := by
  have key : ∀ n : Nat, n ≤ 1001 → risesG (-1) ((List.range n).map fun (i : Nat) => (i : Int)) = true ∧ lastI (-1) ((List.range n).map fun (i : Nat) => (i : Int)) = (n : Int) - 1 := by
    intro n
    induction n with
    | zero => intro _; exact ⟨rfl, rfl⟩
    | succ n ih =>
      intro h
      obtain ⟨a, b⟩ := ih (by omega)
      have e : ((List.range (n + 1)).map fun (i : Nat) => (i : Int)) = ((List.range n).map fun (i : Nat) => (i : Int)) ++ [(n : Int)] := by rw [List.range_succ, List.map_append]; rfl
      rw [e, risesG_snoc, lastI_snoc, a, b]
      refine ⟨?_, by omega⟩
      simp only [Bool.true_and, Bool.and_eq_true, decide_eq_true_eq]; omega
  intro n hn
  refine rises_of ?_ (by simp; omega) (key (n + 1) (by omega)).1
  intro e; have := congrArg List.length e; simp at this
theorem fit_good (t : ByteArray) (l : List (List Sp)) : chE (fitL' t l) = 0 ∧ LgS (fitL' t l) ∧ (fitL' t l).base.size ≤ 4000 ∧ totb (fitL' t l).segs ≤ 10000 ∧ (fitL' t l).segs.length ≤ 20 := by
  have hs20 : (t.extract 0 (min t.size 20)).size ≤ 20 := by rw [ByteArray.size_extract]; omega
  have hb := fit_size (t.extract 0 (min t.size 20)) (by omega)
  have hv := fit_valid (t.extract 0 (min t.size 20))
  have hc := fit_count (t.extract 0 (min t.size 20))
  have hW := chO_chn l (n := countD (fitS (t.extract 0 (min t.size 20))).data.toList) (by omega)
  have hN : ∀ x ∈ chO l (countD (fitS (t.extract 0 (min t.size 20))).data.toList), (norm x).length ≤ 13 ∧ tbs (norm x) ≤ 312 := by
    intro x hx
    obtain ⟨y, m, rfl, m1, m2⟩ := chn_mem hW.1 x hx
    exact (fit_norm y (by omega)).2
  have htb : ∀ W : List (List Sp), (∀ x ∈ W, tbs (norm x) ≤ 312) → totb (W.map norm) ≤ 312 * W.length := by
    intro W
    induction W with
    | nil => intro _; simp [totb]
    | cons x W ih =>
      intro h
      have h1 := h x (by simp)
      have h2 := ih (fun y hy => h y (by simp [hy]))
      rw [List.map_cons, totb_cons, List.length_cons, Nat.mul_succ]; omega
  unfold fitL'
  generalize fitS (t.extract 0 (min t.size 20)) = b at *
  simp only
  have h4 := htb _ (fun x hx => (hN x hx).2)
  have hs := chn_segs _ _ hW.1
  refine ⟨chE_of hv (by show countD b.data.toList ≤ _; omega) (rises_range _ (by omega)) (by simp) hs, ⟨by show b.size ≤ _; omega, by simp; omega, by simp; omega, ?_⟩, hb, by have := hW.2; show totb _ ≤ _; omega, by simp; exact hW.2⟩
  intro x hx
  obtain ⟨y, hy, rfl⟩ := List.mem_map.1 hx
  exact ⟨by have := (hN y hy).1; omega, tbs_small (by have := (hN y hy).2; omega)⟩
end Go.Proofs.YtadlnaljicikfaaDoor.Abs

namespace Go.Proofs.YtadlnaljicikfaaDoor.Abs
open Go
set_option maxRecDepth 100000
set_option linter.unusedSimpArgs false
set_option linter.unusedVariables false
attribute [local irreducible] Ev.Unr Ev.Go' Ev.bytK Ev.runK Ev.FinL Ev.brC Ev.Side Ev.Wp Ev.Again Ev.To Ev.Fin
open Go.Lib Go.RowKit
end Go.Proofs.YtadlnaljicikfaaDoor.Abs

namespace Go.Proofs.YtadlnaljicikfaaDoor.Abs
open Go
set_option maxRecDepth 100000
set_option linter.unusedSimpArgs false
set_option linter.unusedVariables false
attribute [local irreducible] Ev.Unr Ev.Go' Ev.bytK Ev.runK Ev.FinL Ev.brC Ev.Side Ev.Wp Ev.Again Ev.To Ev.Fin
open Go.Lib Go.RowKit
end Go.Proofs.YtadlnaljicikfaaDoor.Abs

namespace Go.Proofs.YtadlnaljicikfaaDoor.Abs
open Go Go.Lib
set_option linter.unusedSimpArgs false
set_option linter.unusedVariables false
def segPE : List (List Sp) → Int
  | [] => 0
  | x :: l => if wPutE x = 0 then segPE l else wPutE x
def encF (c : Lg) : List UInt8 := encT c.base ++ encR c.revs ++ c.segs.flatMap encW
def fPutE (c : Lg) : Int := if chE c ≠ 0 then chE c else if sPutE c.base ≠ 0 then sPutE c.base else if segPE c.segs ≠ 0 then segPE c.segs else if 65536 < (encF c).length then 4 else 0
def fPutA (c : Lg) : AV := if fPutE c = 0 then .tup [.lst 1 (bts (encF c)), .v (.int .i64 0)] else .tup [nilA, .v (.int .i64 (fPutE c))]
theorem fPutA_bad {c : Lg} {e : Int} (h : fPutE c = e) (he : e ≠ 0) : fPutA c = .tup [nilA, .v (.int .i64 e)] := by subst h; exact if_neg he
theorem fPutA_ok {c : Lg} (h : fPutE c = 0) : fPutA c = .tup [.lst 1 (bts (encF c)), .v (.int .i64 0)] := if_pos h
theorem segPE_at : ∀ {l : List (List Sp)} {i : Nat} (hi : i < l.length), segPE (l.take i) = 0 → ∀ {e : Int}, wPutE l[i] = e → e ≠ 0 → segPE l = e
  | [], i, hi, _, e, _, _ => by simp at hi
  | x :: l, 0, hi, _, e, he, h0 => by
    simp only [List.getElem_cons_zero] at he
    simp only [segPE]; rw [if_neg (by rw [he]; exact h0), he]
  | x :: l, i + 1, hi, h, e, he, h0 => by
    rw [List.take_succ_cons] at h
    simp only [segPE] at h ⊢
    split at h
    · rename_i hx
      rw [if_pos hx]; exact segPE_at (by simpa using hi) h (by simpa using he) h0
    · rename_i hx; exact absurd h hx
theorem segPE_next : ∀ {l : List (List Sp)} {i : Nat} (hi : i < l.length), segPE (l.take i) = 0 → wPutE l[i] = 0 → segPE (l.take (i + 1)) = 0
  | [], i, hi, _, _ => by simp at hi
  | x :: l, 0, hi, _, he => by
    simp only [List.getElem_cons_zero] at he
    simp only [List.take_succ_cons, List.take_zero, segPE]; rw [if_pos he]
  | x :: l, i + 1, hi, h, he => by
    rw [List.take_succ_cons] at h ⊢
    simp only [segPE] at h ⊢
    split at h
    · rename_i hx
      rw [if_pos hx]; exact segPE_next (by simpa using hi) h (by simpa using he)
    · rename_i hx; exact absurd h hx
theorem segPE_all : ∀ {l : List (List Sp)}, segPE l = 0 → ∀ x ∈ l, wPutE x = 0
  | [], _, x, hx => by simp at hx
  | y :: l, h, x, hx => by
    simp only [segPE] at h
    split at h
    · rename_i hy
      rcases List.mem_cons.1 hx with rfl | hx
      · exact hy
      · exact segPE_all h x hx
    · rename_i hy; exact absurd h hy
theorem segPE_of : ∀ {l : List (List Sp)}, (∀ x ∈ l, wPutE x = 0) → segPE l = 0
  | [], _ => rfl
  | y :: l, h => by simp only [segPE]; rw [if_pos (h y (by simp))]; exact segPE_of fun x hx => h x (by simp [hx])
def totW (l : List (List Sp)) : Nat := (l.map fun x => tbs x + 4 * x.length + 4).sum
theorem totW_cons (x : List Sp) (l : List (List Sp)) : totW (x :: l) = tbs x + 4 * x.length + 4 + totW l := by simp [totW]
theorem totW_mem : ∀ {l : List (List Sp)} {x : List Sp}, x ∈ l → tbs x + 4 * x.length + 4 ≤ totW l
  | [], x, h => by simp at h
  | y :: l, x, h => by
    rw [totW_cons]
    rcases List.mem_cons.1 h with rfl | h
    · omega
    · have := totW_mem h; omega
theorem totW_take (l : List (List Sp)) (i : Nat) : totW (l.take i) ≤ totW l := by
  have : totW l = totW (l.take i) + totW (l.drop i) := by
    conv => lhs; rw [← List.take_append_drop i l]
    unfold totW; rw [List.map_append, List.sum_append]
  omega
theorem encW_le {x : List Sp} (h : wPutE x = 0) : (encW x).length ≤ tbs x + 4 * x.length + 4 := by
  obtain ⟨_, _, h3, h4⟩ := wPutE_ok h
  have h1 := flat_len x h4
  have h2 := (putN_len (n := x.length) (by omega)).2
  unfold encW; rw [List.length_append]; omega
theorem flatW_le : ∀ {l : List (List Sp)}, segPE l = 0 → (l.flatMap encW).length ≤ totW l
  | [], _ => by simp [totW]
  | x :: l, h => by
    have hx := segPE_all h x (by simp)
    have hl : segPE l = 0 := by simp only [segPE] at h; rwa [if_pos hx] at h
    have h1 := encW_le hx
    have h2 := flatW_le hl
    rw [List.flatMap_cons, List.length_append, totW_cons]; omega
def encFT (c : Lg) (i : Nat) : List UInt8 := encT c.base ++ encR c.revs ++ (c.segs.take i).flatMap encW
theorem encFT_succ {c : Lg} {i : Nat} (hi : i < c.segs.length) : encFT c (i + 1) = encFT c i ++ encW c.segs[i] := by
  unfold encFT; rw [List.take_succ_eq_append_getElem hi, List.flatMap_append]; simp
theorem encFT_all {c : Lg} {i : Nat} (hi : c.segs.length ≤ i) : encFT c i = encF c := by
  unfold encFT encF; rw [List.take_of_length_le hi]
theorem encT_len {t : ByteArray} (h : sPutE t = 0) : (encT t).length ≤ 65540 := by
  unfold sPutE at h
  split at h
  · split at h
    · cases h
    · have h2 := (putN_len (n := t.size) (by omega)).2
      have hdl : t.data.toList.length = t.size := by rw [Array.length_toList]; rfl
      unfold encT; rw [List.length_append, hdl]
      omega
  · cases h
theorem encR_len' {l : List Int} (h : rises l = true) : (encR l).length ≤ 300000 := by
  have h0 := h
  unfold rises at h
  simp only [Bool.and_eq_true, decide_eq_true_eq] at h
  rw [← rowTo_all (l := l) (i := l.length) (Nat.le_refl _)]
  exact rowTo_len h.1.2 (by rw [List.take_length]; exact h.2)
theorem encFT_len {c : Lg} {i : Nat} (h1 : sPutE c.base = 0) (h2 : rises c.revs = true) (h3 : segPE (c.segs.take i) = 0) : (encFT c i).length ≤ 400000 + totW c.segs := by
  have a1 := encT_len h1
  have a2 := encR_len' h2
  have a3 := flatW_le h3
  have a4 := totW_take c.segs i
  unfold encFT; rw [List.length_append, List.length_append]; omega
end Go.Proofs.YtadlnaljicikfaaDoor.Abs

namespace Go.Proofs.YtadlnaljicikfaaDoor.Abs
open Go
set_option maxRecDepth 100000
set_option linter.unusedSimpArgs false
set_option linter.unusedVariables false
attribute [local irreducible] Ev.Unr Ev.Go' Ev.bytK Ev.runK Ev.FinL Ev.brC Ev.Side Ev.Wp Ev.Again Ev.To Ev.Fin
open Go.Lib Go.RowKit
theorem comp40 : ∀ c, Tryd.f40.body = some c → comp c = (.seq (.reg 0 [I.n 0 1 (.box 27 (.tmp 0)), I.n 1 2 I.sn, I.n 2 3 (I.si 0)]) (.seq (.seq (.reg 1 [I.n 0 12 (I.ld 27 1), I.n 1 13 (I.c1 46 12 27), I.n 2 4 (I.sa 13)]) (.seq (.reg 2 [I.n 0 14 (I.mv 4), I.n 1 15 (I.bc .neq 30 14 0 30)]) (.cond (.tmp 15) (.seq (.reg 3 [I.n 0 16 (I.mv 4), I.n 1 2 I.sn, I.n 2 3 (I.sa 16)]) .ret) .skip))) (.seq (.reg 4 [I.n 0 18 (I.fa 27 1 0), I.n 1 19 (I.ld 9 18), I.n 2 20 (I.c1 47 19 9), I.n 3 17 (I.mv 20), I.n 4 21 (I.ex 17 0), I.n 5 22 (I.ex 17 1), I.n 6 5 (I.sa 21), I.n 7 6 (I.sa 22)]) (.seq (.seq (.reg 5 [I.n 0 23 (I.mv 6), I.n 1 24 (I.bc .neq 30 23 0 30)]) (.cond (.tmp 24) (.seq (.reg 6 [I.n 0 25 (I.mv 6), I.n 1 2 I.sn, I.n 2 3 (I.sa 25)]) .ret) .skip)) (.seq (.reg 7 [I.n 0 27 (I.fa 27 1 1), I.n 1 28 (I.ld 25 27), I.n 2 29 (I.c1 48 28 25), I.n 3 26 (I.mv 29), I.n 4 30 (I.ex 26 0), I.n 5 31 (I.ex 26 1), I.n 6 7 (I.sa 30), I.n 7 6 (I.sa 31)]) (.seq (.seq (.reg 8 [I.n 0 32 (I.mv 6), I.n 1 33 (I.bc .neq 30 32 0 30)]) (.cond (.tmp 33) (.seq (.reg 9 [I.n 0 34 (I.mv 6), I.n 1 2 I.sn, I.n 2 3 (I.sa 34)]) .ret) .skip)) (.seq (.reg 10 [I.n 0 35 (I.mv 5), I.n 1 36 (I.mv 7), I.n 2 37 (I.ap 35 36 56 56), I.n 3 5 (I.sa 37)]) (.seq (.seq (.reg 11 [I.n 0 38 (I.fa 27 1 2), I.n 1 39 (I.ld 22 38), I.n 2 40 (I.ln 39 22), I.n 3 41 (.move (.const (Value.int .i64 0)))]) (.block 0 (.loop (.seq (.reg 12 [I.n 0 42 (I.bo .lss 3 41 40 3)]) (.seq (.cond (.tmp 42) .skip (.exit 0)) (.seq (.block 1 (.seq (.reg 13 [I.n 0 43 (I.ia 22 39 41), I.n 1 44 (I.ld 23 43), I.n 2 9 (I.sa 44)]) (.seq (.reg 14 [I.n 0 46 (I.mv 9), I.n 1 47 (I.c1 49 46 23), I.n 2 45 (I.mv 47), I.n 3 48 (I.ex 45 0), I.n 4 49 (I.ex 45 1), I.n 5 10 (I.sa 48), I.n 6 11 (I.sa 49)]) (.seq (.seq (.reg 15 [I.n 0 50 (I.mv 11), I.n 1 51 (I.bc .neq 30 50 0 30)]) (.cond (.tmp 51) (.seq (.reg 16 [I.n 0 52 (I.mv 11), I.n 1 2 I.sn, I.n 2 3 (I.sa 52)]) .ret) .skip)) (.reg 17 [I.n 0 53 (I.mv 5), I.n 1 54 (I.mv 10), I.n 2 55 (I.ap 53 54 56 56), I.n 3 5 (I.sa 55)]))))) (.reg 18 [I.n 0 56 (I.bc .add 3 41 1 3), I.n 1 41 (I.mv 56)]))))))) (.seq (.seq (.reg 19 [I.n 0 57 (I.mv 5), I.n 1 58 (I.ln 57 56), I.n 2 59 (I.bc .gtr 3 58 65536 3)]) (.cond (.tmp 59) (.seq (.reg 20 [I.n 0 2 I.sn, I.n 1 3 (I.si 4)]) .ret) .skip)) (.seq (.reg 21 [I.n 0 60 (I.mv 5), I.n 1 61 (I.mv 5), I.n 2 62 (I.ln 61 56), I.n 3 63 (I.mv 5), I.n 4 64 (I.ln 63 56), I.n 5 65 (.slice 56 (.tmp 60) none (some (.tmp 62)) (some (.tmp 64))), I.n 6 2 (I.sa 65), I.n 7 3 (I.si 0)]) .ret)))))))))) := by
  intro c h
  have : c = Tryd.f40.body.get rfl := by rw [← Option.some_inj, ← h]; rfl
  rw [this]; rfl
theorem sput_own (t : ByteArray) (ht : t.size ≤ 1000000000) (he : sPutE t = 0) : CallW env 47 [.v (.string t)] (fun r hs => r = .tup [.own 0 0 0 (encT t).length, .v (.int .i64 0)] ∧ hs = [⟨1, 5, 0, 0, false, bts (encT t)⟩]) := by
  have hmx : 2000000003 ≤ maxLen := by decide
  have hV := pvalid_call t ht
  have h1 : validD t.data.toList = true := by
    refine Decidable.byContradiction fun h => ?_
    unfold sPutE at he; rw [if_neg h] at he; omega
  have h2 : ¬ 65536 < t.size := fun h => by
    unfold sPutE at he; rw [if_pos h1, if_pos h] at he; omega
  rw [h1] at hV
  have hln := (putN_len (n := t.size) (by omega)).2
  have hn : putN (t.size : Int).toNat = putN t.size := rfl
  have hdl : t.data.toList.length = t.size := by rw [Array.length_toList]; rfl
  refine Ev.fnO [0, 2, 3, 4, 5, 9] 0 [.tmp 2, .tmp 3] Tryd.func47 (comp47 _ rfl) ?_
  repeat' (first | ((with_reducible refine Ev.br0 ?_); (first | refine Ev.brp ?_ | refine Ev.brn ?_); conv => whnf) | ((with_reducible refine Ev.c0 ?_); first | refine Ev.cp ?_ | refine Ev.cn ?_) | ((refine Ev.sw ?_); conv => whnf) | refine Ev.sn ?_ | ((with_reducible refine Ev.chk_k ?_ ?_); rotate_left; exact Ev.bt; conv => whnf) | ((with_reducible (refine Ev.RI.run ?_; constructor)) <;> intro _) | ((refine Ev.sg ?_); conv => whnf) | ((with_reducible refine Ev.sided ?_ ?_); conv => whnf) | ((with_reducible refine Ev.kr (hs := [96]) (fun Q hQ => ?_)); (simp only [Ev.runE_cons, Ev.runE_nil]); conv => whnf) | (with_reducible refine hQ _ ?_; clear hQ Q) | ((refine Ev.sf ?_); intro F hF; conv => whnf) | (with_reducible refine hF _ ?_; clear hF F) | ((with_reducible refine Ev.go_k (fun c' => ?_)); conv => whnf) | ((with_reducible refine Ev.ca0 ?_); (first | refine Ev.call_det (nput_ok (show 0 ≤ (t.size : Int) ∧ (t.size : Int) ≤ 268435455 by omega)) rfl rfl ?_ | refine Ev.ca (hV) ?_ | refine Ev.ca (nput_ok (show 0 ≤ (t.size : Int) ∧ (t.size : Int) ≤ 268435455 by omega)) ?_); conv => whnf) | ((with_reducible refine Ev.il0 96 ?_); refine Ev.il 96 [0, 1, 4] [] Tryd.func96 (comp96 _ rfl) (fun ct' => ?_)) | ((first | refine Ev.el_map0 ?_ (fun hi => ?_) | refine Ev.el_mapN ?_ (fun hi => ?_)); rotate_left; conv => whnf) | ((with_reducible refine Ev.sd0 ?_); exact Ev.sd) | fail)
  · omega
  · refine Ev.finL [(202441264, c')] (by simp) (fun F hF => ?_)
    simp only [Ev.FinP.resK, get_cons, get_nil, Nat.reduceEqDiff, if_false, if_true, handed, rens, ren, idx, and_self, Option.map_some, resOf, Nat.reduceMul, Nat.zero_add, Nat.reduceAdd]
    refine hF _ ?_
    rw [hn, ← bts_app, bts_len, bts_len, ← List.length_append]
    exact ⟨rfl, rfl⟩
set_option maxHeartbeats 4000000 in
theorem fput_call (c : Lg) (hc : LgS c) (hb : totW c.segs ≤ 900000000) : CallW env 40 [lgA c] (fun r hs => r = fPutA c ∧ hs = []) := by
  have hM := cmay_call c hc
  have hmx : 2000000003 ≤ maxLen := by decide
  by_cases h0 : chE c = 0
  · rw [h0] at hM
    obtain ⟨h1, h2, h3, h4, h5⟩ := chE_zero h0
    have hR := prow_call c.revs hc.2.1
    rw [rPutA_ok h3] at hR
    by_cases hs : sPutE c.base = 0
    · have hS := sput_own c.base hc.1 hs
      have hrl := rowsA_len c.segs
      have hlt := encT_len hs
      have hlr := encR_len' h3
      refine Ev.fn [0, 1, 2, 3, 4, 5, 6, 7, 9, 10, 11, 15, 24, 33, 39, 40, 41, 42, 51, 59] 0 [.tmp 2, .tmp 3] Tryd.func40 (comp40 _ rfl) ?_
      repeat' (first | ((with_reducible refine Ev.br0 ?_); (first | refine Ev.brp ?_ | refine Ev.brn ?_); conv => whnf) | ((with_reducible refine Ev.c0 ?_); first | refine Ev.cp ?_ | refine Ev.cn ?_) | ((refine Ev.sw ?_); conv => whnf) | refine Ev.sn ?_ | ((with_reducible refine Ev.chk_k ?_ ?_); rotate_left; exact Ev.bt; conv => whnf) | ((with_reducible (refine Ev.RI.run ?_; constructor)) <;> intro _) | ((refine Ev.sg ?_); conv => whnf) | ((with_reducible refine Ev.sided ?_ ?_); conv => whnf) | ((with_reducible refine Ev.kr (hs := []) (fun Q hQ => ?_)); (simp only [Ev.runE_cons, Ev.runE_nil]); conv => whnf) | (with_reducible refine hQ _ ?_; clear hQ Q) | ((refine Ev.sf ?_); intro F hF; conv => whnf) | (with_reducible refine hF _ ?_; clear hF F) | ((with_reducible refine Ev.go_k (fun c' => ?_)); conv => whnf) | ((with_reducible refine Ev.ca0 ?_); (first | refine Ev.ca (hM) ?_ | refine Ev.ca (hR) ?_); conv => whnf) | ((refine Ev.call_own hS rfl (by simp) ⟨rfl, trivial⟩ ?_); conv => whnf) | ((first | refine Ev.el_map0 ?_ (fun hi => ?_) | refine Ev.el_mapN ?_ (fun hi => ?_)); rotate_left; conv => whnf) | ((with_reducible refine Ev.sd0 ?_); exact Ev.sd) | fail)
      refine Ev.loop (fun k s => ∃ i ct v : Nat, s = ⟨[(0, lgA c), (2, nilA), (3, .v (.int .i64 0)), (5, .own 2064 v 0 (encFT c i).length), (39, .lst 1 (rowsA c.segs)), (40, .v (.int .i64 (rowsA c.segs).length)), (41, .v (.int .i64 i))], [(2064, ⟨1, 5, v, 0, false, bts (encFT c i)⟩)], ct⟩ ∧ k + i = c.segs.length ∧ segPE (c.segs.take i) = 0) ?_ ?_
      · have ez : List.take (encT c.base).length (List.drop 0 (bts (encT c.base))) = bts (encT c.base) := by rw [List.drop_zero, List.take_of_length_le (by rw [bts_len]; exact Nat.le_refl _)]
        have e1 : (encT c.base).length + (bts (encR c.revs)).length = (encFT c 0).length := by unfold encFT; simp
        have e2 : bts (encT c.base) ++ bts (encR c.revs) = bts (encFT c 0) := by unfold encFT; rw [← bts_app]; simp
        (refine Ev.to _ ?hs1 ?hh1 ?hc1 ⟨c.segs.length, 0, ?_, ?_, rfl, ?hp1⟩; (case hs1 | hh1 => ((repeat' (first | exact trivial | refine And.intro ?_ ?_)) <;> (first | exact Ev.se | (refine Ev.slot_eq rfl ?_; first | (first | exact e1 | exact congrArg (fun n => Blk.mk 1 5 _ 0 false n) e2 | rfl) | ((first | refine Ev.int_eq ?_ | refine Ev.own_eq ?_ | refine Ev.blk_eq ?_); (first | exact e1 | exact congrArg (fun n => Blk.mk 1 5 _ 0 false n) e2 | rfl))) | exact Ev.sr))); (case hc1 => exact Nat.le_refl _))
        exact ⟨by omega, rfl⟩
      rintro k s1 ⟨i, ct, v, rfl, hk, hsp⟩
      have hle := encFT_len (c := c) (i := i) hs h3 hsp
      have hcl := hc.2.2.1
      by_cases hi : i < c.segs.length
      · have hi2 : (i : Int) < ((rowsA c.segs).length : Int) := by omega
        have hsm := hc.2.2.2 _ (List.getElem_mem hi)
        have htw := totW_mem (List.getElem_mem hi)
        have hW := wput_call c.segs[i] hsm.2 (by omega)
        by_cases hp : wPutE c.segs[i] = 0
        · rw [wPutA_ok hp] at hW
          have hwl := encW_le hp
          repeat' (first | ((with_reducible refine Ev.br0 ?_); (first | refine Ev.brp ?_ | refine Ev.brn ?_); conv => whnf) | ((with_reducible refine Ev.c0 ?_); first | refine Ev.cp ?_ | refine Ev.cn ?_) | (((with_reducible refine Ev.br_pos hi2 ?_); conv => whnf)) | (with_reducible refine Ev.c_pos hi2 ?_) | ((refine Ev.sw ?_); conv => whnf) | refine Ev.sn ?_ | ((with_reducible refine Ev.chk_k ?_ ?_); rotate_left; exact Ev.bt; conv => whnf) | ((with_reducible (refine Ev.RI.run ?_; constructor)) <;> intro _) | ((refine Ev.sg ?_); conv => whnf) | ((with_reducible refine Ev.sided ?_ ?_); conv => whnf) | ((with_reducible refine Ev.kr (hs := []) (fun Q hQ => ?_)); (simp only [Ev.runE_cons, Ev.runE_nil]); conv => whnf) | (with_reducible refine hQ _ ?_; clear hQ Q) | ((refine Ev.sf ?_); intro F hF; conv => whnf) | (with_reducible refine hF _ ?_; clear hF F) | ((with_reducible refine Ev.go_k (fun c' => ?_)); conv => whnf) | ((with_reducible refine Ev.ca0 ?_); (first | refine Ev.ca (hW) ?_); conv => whnf) | ((first | refine Ev.el_map0 ?_ (fun hi => ?_) | refine Ev.el_mapN ?_ (fun hi => ?_)); rotate_left; conv => whnf) | ((with_reducible refine Ev.sd0 ?_); exact Ev.sd) | fail)
          have e1 : (encFT c i).length + (bts (encW c.segs[i])).length = (encFT c (i + 1)).length := by rw [encFT_succ hi, bts_len, List.length_append]
          have e2 : bts (encFT c i) ++ bts (encW c.segs[i]) = bts (encFT c (i + 1)) := by rw [encFT_succ hi, bts_app]
          (refine Ev.again (k - 1) _ ?hm2 ?hs2 ?hh2 ?hc2 ⟨i + 1, ?_, ?_, rfl, ?hp2⟩; (case hs2 | hh2 => ((repeat' (first | exact trivial | refine And.intro ?_ ?_)) <;> (first | exact Ev.se | (refine Ev.slot_eq rfl ?_; first | (first | exact e1 | exact congrArg (fun n => Blk.mk 1 5 _ 0 false n) e2 | exact wrap_succ (by omega) | rfl) | ((first | refine Ev.int_eq ?_ | refine Ev.own_eq ?_ | refine Ev.blk_eq ?_); (first | exact e1 | exact congrArg (fun n => Blk.mk 1 5 _ 0 false n) e2 | exact wrap_succ (by omega) | rfl))) | exact Ev.sr))); (case hc2 => exact Nat.le_refl _); (case hm2 => omega))
          exact ⟨by omega, segPE_next hi hsp hp⟩
        · rw [wPutA_bad rfl hp] at hW
          repeat' (first | ((with_reducible refine Ev.br0 ?_); (first | refine Ev.brp ?_ | refine Ev.brn ?_); conv => whnf) | ((with_reducible refine Ev.c0 ?_); first | refine Ev.cp ?_ | refine Ev.cn ?_) | (((with_reducible refine Ev.br_pos hi2 ?_); conv => whnf)) | (with_reducible refine Ev.c_pos hi2 ?_) | ((refine Ev.sw ?_); conv => whnf) | refine Ev.sn ?_ | ((with_reducible refine Ev.chk_k ?_ ?_); rotate_left; exact Ev.bt; conv => whnf) | ((with_reducible (refine Ev.RI.run ?_; constructor)) <;> intro _) | ((refine Ev.sg ?_); conv => whnf) | ((with_reducible refine Ev.sided ?_ ?_); conv => whnf) | ((with_reducible refine Ev.kr (hs := []) (fun Q hQ => ?_)); (simp only [Ev.runE_cons, Ev.runE_nil]); conv => whnf) | (with_reducible refine hQ _ ?_; clear hQ Q) | ((refine Ev.sf ?_); intro F hF; conv => whnf) | (with_reducible refine hF _ ?_; clear hF F) | ((with_reducible refine Ev.go_k (fun c' => ?_)); conv => whnf) | ((with_reducible refine Ev.ca0 ?_); (first | refine Ev.ca (hW) ?_); conv => whnf) | ((first | refine Ev.el_map0 ?_ (fun hi => ?_) | refine Ev.el_mapN ?_ (fun hi => ?_)); rotate_left; conv => whnf) | ((with_reducible refine Ev.sd0 ?_); exact Ev.sd) | fail)
          · exact absurd (by assumption) hp
          · have hsg := segPE_at hi hsp rfl hp
            exact ⟨(fPutA_bad (by unfold fPutE; rw [if_neg (by simp [h0]), if_neg (by simp [hs]), if_pos (by rw [hsg]; exact hp)]; exact hsg) hp).symm, rfl⟩
      · have hi2 : ¬ (i : Int) < ((rowsA c.segs).length : Int) := by omega
        repeat' (first | ((with_reducible refine Ev.br0 ?_); (first | refine Ev.brp ?_ | refine Ev.brn ?_); conv => whnf) | ((with_reducible refine Ev.c0 ?_); first | refine Ev.cp ?_ | refine Ev.cn ?_) | (refine Ev.freeze_at 21 5 rfl rfl ?_ ?_) | (((with_reducible refine Ev.br_neg hi2 ?_); conv => whnf)) | (with_reducible refine Ev.c_neg hi2 ?_) | ((refine Ev.sw ?_); conv => whnf) | refine Ev.sn ?_ | ((with_reducible refine Ev.chk_k ?_ ?_); rotate_left; exact Ev.bt; conv => whnf) | ((with_reducible (refine Ev.RI.run ?_; constructor)) <;> intro _) | ((refine Ev.sg ?_); conv => whnf) | ((with_reducible refine Ev.sided ?_ ?_); conv => whnf) | ((with_reducible refine Ev.kr (hs := []) (fun Q hQ => ?_)); (simp only [Ev.runE_cons, Ev.runE_nil]); conv => whnf) | (with_reducible refine hQ _ ?_; clear hQ Q) | ((refine Ev.sf ?_); intro F hF; conv => whnf) | (with_reducible refine hF _ ?_; clear hF F) | ((with_reducible refine Ev.go_k (fun c' => ?_)); conv => whnf) | ((first | refine Ev.el_map0 ?_ (fun hi => ?_) | refine Ev.el_mapN ?_ (fun hi => ?_)); rotate_left; conv => whnf) | ((with_reducible refine Ev.sd0 ?_); exact Ev.sd) | fail)
        · rename_i hx
          have hall := encFT_all (c := c) (i := i) (by omega)
          rw [List.take_of_length_le (by omega)] at hsp
          rw [hall] at hx
          exact ⟨(fPutA_bad (by unfold fPutE; rw [if_neg (by simp [h0]), if_neg (by simp [hs]), if_neg (by simp [hsp]), if_pos (by omega)]) (by decide)).symm, rfl⟩
        · rename_i hx
          have hall := encFT_all (c := c) (i := i) (by omega)
          rw [List.take_of_length_le (by omega)] at hsp
          rw [hall] at hx ⊢
          refine ⟨?_, rfl⟩
          rw [fPutA_ok (by unfold fPutE; rw [if_neg (by simp [h0]), if_neg (by simp [hs]), if_neg (by simp [hsp]), if_neg (by omega)])]
          refine Ev.tup2_eq (Ev.lst_eq ?_) rfl
          have ez : List.take (encF c).length (List.drop 0 (bts (encF c))) = bts (encF c) := by rw [List.drop_zero, List.take_of_length_le (by rw [bts_len]; exact Nat.le_refl _)]
          rw [ez, List.drop_zero, List.take_of_length_le (by simp)]
    · have hS := sput_call c.base hc.1
      rw [sPutA_bad rfl hs] at hS
      refine Ev.fn [0, 1, 2, 3, 4, 5, 6, 7, 9, 10, 11, 15, 24, 33, 39, 40, 41, 42, 51, 59] 0 [.tmp 2, .tmp 3] Tryd.func40 (comp40 _ rfl) ?_
      repeat' (first | ((with_reducible refine Ev.br0 ?_); (first | refine Ev.brp ?_ | refine Ev.brn ?_); conv => whnf) | ((with_reducible refine Ev.c0 ?_); first | refine Ev.cp ?_ | refine Ev.cn ?_) | ((refine Ev.sw ?_); conv => whnf) | refine Ev.sn ?_ | ((with_reducible refine Ev.chk_k ?_ ?_); rotate_left; exact Ev.bt; conv => whnf) | ((with_reducible (refine Ev.RI.run ?_; constructor)) <;> intro _) | ((refine Ev.sg ?_); conv => whnf) | ((with_reducible refine Ev.sided ?_ ?_); conv => whnf) | ((with_reducible refine Ev.kr (hs := []) (fun Q hQ => ?_)); (simp only [Ev.runE_cons, Ev.runE_nil]); conv => whnf) | (with_reducible refine hQ _ ?_; clear hQ Q) | ((refine Ev.sf ?_); intro F hF; conv => whnf) | (with_reducible refine hF _ ?_; clear hF F) | ((with_reducible refine Ev.go_k (fun c' => ?_)); conv => whnf) | ((with_reducible refine Ev.ca0 ?_); (first | refine Ev.ca (hM) ?_ | refine Ev.ca (hS) ?_); conv => whnf) | ((first | refine Ev.el_map0 ?_ (fun hi => ?_) | refine Ev.el_mapN ?_ (fun hi => ?_)); rotate_left; conv => whnf) | ((with_reducible refine Ev.sd0 ?_); exact Ev.sd) | fail)
      · exact absurd (by assumption) hs
      · exact ⟨(fPutA_bad (by unfold fPutE; rw [if_neg (by simp [h0]), if_pos hs]) hs).symm, rfl⟩
  · have : fPutE c = chE c := by unfold fPutE; rw [if_pos h0]
    refine Ev.fn [0, 1, 2, 3, 4, 5, 6, 7, 9, 10, 11, 15, 24, 33, 39, 40, 41, 42, 51, 59] 0 [.tmp 2, .tmp 3] Tryd.func40 (comp40 _ rfl) ?_
    repeat' (first | ((with_reducible refine Ev.br0 ?_); (first | refine Ev.brp ?_ | refine Ev.brn ?_); conv => whnf) | ((with_reducible refine Ev.c0 ?_); first | refine Ev.cp ?_ | refine Ev.cn ?_) | ((refine Ev.sw ?_); conv => whnf) | refine Ev.sn ?_ | ((with_reducible refine Ev.chk_k ?_ ?_); rotate_left; exact Ev.bt; conv => whnf) | ((with_reducible (refine Ev.RI.run ?_; constructor)) <;> intro _) | ((refine Ev.sg ?_); conv => whnf) | ((with_reducible refine Ev.sided ?_ ?_); conv => whnf) | ((with_reducible refine Ev.kr (hs := []) (fun Q hQ => ?_)); (simp only [Ev.runE_cons, Ev.runE_nil]); conv => whnf) | (with_reducible refine hQ _ ?_; clear hQ Q) | ((refine Ev.sf ?_); intro F hF; conv => whnf) | (with_reducible refine hF _ ?_; clear hF F) | ((with_reducible refine Ev.go_k (fun c' => ?_)); conv => whnf) | ((with_reducible refine Ev.ca0 ?_); (first | refine Ev.ca (hM) ?_); conv => whnf) | ((first | refine Ev.el_map0 ?_ (fun hi => ?_) | refine Ev.el_mapN ?_ (fun hi => ?_)); rotate_left; conv => whnf) | ((with_reducible refine Ev.sd0 ?_); exact Ev.sd) | fail)
    · exact absurd (by assumption) h0
    · exact ⟨(fPutA_bad this h0).symm, rfl⟩
end Go.Proofs.YtadlnaljicikfaaDoor.Abs

namespace Go.Proofs.YtadlnaljicikfaaDoor.Abs
open Go Go.Lib
set_option linter.unusedSimpArgs false
set_option linter.unusedVariables false
def sgTake : Nat → List UInt8 → Except Int (List (List Sp) × List UInt8)
  | 0, b => .ok ([], b)
  | n + 1, b => match wTake b with
    | .error e => .error e
    | .ok (l, k) => match sgTake n (b.drop k.toNat) with
      | .error e => .error e
      | .ok (ls, r) => .ok (l :: ls, r)
def fTake2 (t : ByteArray) (revs : List Int) : Except Int (List (List Sp) × List UInt8) → Except Int Lg
  | .error e => .error e
  | .ok (segs, r) => if r ≠ [] then .error 9 else if chE ⟨t, revs, segs⟩ ≠ 0 then .error 8 else .ok ⟨t, revs, segs⟩
def fTake (b : List UInt8) : Except Int Lg :=
  if 65536 < b.length then .error 4 else
  match sTake b with
  | .error e => .error e
  | .ok (t, n) => match rTake (b.drop n.toNat) with
    | .error e => .error e
    | .ok (revs, k) => fTake2 t revs (sgTake (revs.length - 1) ((b.drop n.toNat).drop k.toNat))
def lg0 : Lg := ⟨⟨#[]⟩, [], []⟩
def fTakeE (b : List UInt8) : Int := match fTake b with | .error e => e | .ok _ => 0
def fTakeC (b : List UInt8) : Lg := match fTake b with | .error _ => lg0 | .ok c => c
def joinS (done : List (List Sp)) : Except Int (List (List Sp) × List UInt8) → Except Int (List (List Sp) × List UInt8)
  | .error e => .error e
  | .ok (ls, r) => .ok (done ++ ls, r)
theorem joinS_nil (x : Except Int (List (List Sp) × List UInt8)) : joinS [] x = x := by
  cases x with
  | error e => rfl
  | ok p => rfl
theorem sg_bad {n : Nat} {b : List UInt8} {done : List (List Sp)} {e : Int} (h : wTake b = .error e) : joinS done (sgTake (n + 1) b) = .error e := by
  simp only [sgTake, h]; rfl
theorem sg_step {n : Nat} {b : List UInt8} {done : List (List Sp)} {l : List Sp} {k : Int} (h : wTake b = .ok (l, k)) : joinS done (sgTake (n + 1) b) = joinS (done ++ [l]) (sgTake n (b.drop k.toNat)) := by
  simp only [sgTake, h]
  cases sgTake n (b.drop k.toNat) with
  | error e => rfl
  | ok p => simp [joinS]
theorem sg_end {b : List UInt8} {done : List (List Sp)} : joinS done (sgTake 0 b) = .ok (done, b) := by simp [sgTake, joinS]
theorem sgTake_put : ∀ (l : List (List Sp)) (rest : List UInt8), (∀ x ∈ l, wPutE x = 0) → sgTake l.length (l.flatMap encW ++ rest) = .ok (l, rest)
  | [], rest, _ => rfl
  | x :: l, rest, h => by
    rw [List.length_cons, List.flatMap_cons, List.append_assoc]
    simp only [sgTake]
    rw [wTake_put (h x (by simp))]
    simp only [Int.toNat_natCast, List.drop_left]
    rw [sgTake_put l rest (fun y hy => h y (by simp [hy]))]
theorem fPutE_zero {c : Lg} (h : fPutE c = 0) : chE c = 0 ∧ sPutE c.base = 0 ∧ (∀ x ∈ c.segs, wPutE x = 0) ∧ (encF c).length ≤ 65536 := by
  unfold fPutE at h
  by_cases h1 : chE c = 0
  · rw [if_neg (by simp [h1])] at h
    by_cases h2 : sPutE c.base = 0
    · rw [if_neg (by simp [h2])] at h
      by_cases h3 : segPE c.segs = 0
      · rw [if_neg (by simp [h3])] at h
        refine ⟨h1, h2, segPE_all h3, ?_⟩
        refine Decidable.byContradiction fun hn => ?_
        rw [if_pos (by omega)] at h; cases h
      · rw [if_pos h3] at h; exact absurd h h3
    · rw [if_pos h2] at h; exact absurd h h2
  · rw [if_pos h1] at h; exact absurd h h1
theorem fPutE_of {c : Lg} (h1 : chE c = 0) (h2 : sPutE c.base = 0) (h3 : ∀ x ∈ c.segs, wPutE x = 0) (h4 : (encF c).length ≤ 65536) : fPutE c = 0 := by
  unfold fPutE; rw [if_neg (by simp [h1]), if_neg (by simp [h2]), if_neg (by simp [segPE_of h3]), if_neg (by omega)]
theorem fTake_put {c : Lg} (h : fPutE c = 0) (rest : List UInt8) (hr : (encF c ++ rest).length ≤ 65536) : fTake (encF c ++ rest) = if rest = [] then .ok c else .error 9 := by
  obtain ⟨h1, h2, h3, h4⟩ := fPutE_zero h
  obtain ⟨c1, c2, c3, c4, c5⟩ := chE_zero h1
  unfold fTake
  rw [if_neg (by omega)]
  have e1 : encF c ++ rest = encT c.base ++ (encR c.revs ++ (c.segs.flatMap encW ++ rest)) := by unfold encF; simp [List.append_assoc]
  rw [e1, sTake_put h2]
  simp only [Int.toNat_natCast, List.drop_left]
  rw [rTake_put c3]
  simp only [Int.toNat_natCast, List.drop_left]
  rw [show c.revs.length - 1 = c.segs.length by omega, sgTake_put _ _ h3]
  simp only [fTake2]
  by_cases hn : rest = []
  · rw [if_neg (by simp [hn]), if_pos hn, if_neg]
    intro hh; exact hh h1
  · rw [if_pos hn, if_neg hn]
end Go.Proofs.YtadlnaljicikfaaDoor.Abs

namespace Go.Proofs.YtadlnaljicikfaaDoor.Abs
open Go
set_option maxRecDepth 100000
set_option linter.unusedSimpArgs false
set_option linter.unusedVariables false
attribute [local irreducible] Ev.Unr Ev.Go' Ev.bytK Ev.runK Ev.FinL Ev.brC Ev.Side Ev.Wp Ev.Again Ev.To Ev.Fin
open Go.Lib Go.RowKit
theorem comp43 : ∀ c, Tryd.f43.body = some c → comp c = (.seq (.reg 0 [I.n 0 2 (.alloc 27), I.n 1 3 (I.si 0)]) (.seq (.seq (.reg 1 [I.n 0 12 (I.mv 0), I.n 1 13 (I.ln 12 56), I.n 2 14 (I.bc .gtr 3 13 65536 3)]) (.cond (.tmp 14) (.seq (.reg 2 [I.n 0 15 (.build 27 #[]), I.u 1 (I.st 27 2 15), I.n 2 3 (I.si 4)]) .ret) .skip)) (.seq (.reg 3 [I.n 0 17 (I.mv 0), I.n 1 18 (I.c1 89 17 56), I.n 2 16 (I.mv 18), I.n 3 19 (I.ex 16 0), I.n 4 20 (I.ex 16 1), I.n 5 21 (I.ex 16 2), I.n 6 4 (I.sa 19), I.n 7 5 (I.sa 20), I.n 8 6 (I.sa 21)]) (.seq (.seq (.reg 4 [I.n 0 22 (I.mv 6), I.n 1 23 (I.bc .neq 30 22 0 30)]) (.cond (.tmp 23) (.seq (.reg 5 [I.n 0 24 (.build 27 #[]), I.n 1 25 (I.mv 6), I.u 2 (I.st 27 2 24), I.n 3 3 (I.sa 25)]) .ret) .skip)) (.seq (.reg 6 [I.n 0 26 (I.mv 0), I.n 1 27 (I.mv 5), I.n 2 28 (.slice 56 (.tmp 26) (some (.tmp 27)) none none), I.n 3 0 (I.sa 28)]) (.seq (.reg 7 [I.n 0 30 (I.mv 0), I.n 1 31 (I.c1 90 30 56), I.n 2 29 (I.mv 31), I.n 3 32 (I.ex 29 0), I.n 4 33 (I.ex 29 1), I.n 5 34 (I.ex 29 2), I.n 6 7 (I.sa 32), I.n 7 5 (I.sa 33), I.n 8 6 (I.sa 34)]) (.seq (.seq (.reg 8 [I.n 0 35 (I.mv 6), I.n 1 36 (I.bc .neq 30 35 0 30)]) (.cond (.tmp 36) (.seq (.reg 9 [I.n 0 37 (.build 27 #[]), I.n 1 38 (I.mv 6), I.u 2 (I.st 27 2 37), I.n 3 3 (I.sa 38)]) .ret) .skip)) (.seq (.reg 10 [I.n 0 39 (I.mv 0), I.n 1 40 (I.mv 5), I.n 2 41 (.slice 56 (.tmp 39) (some (.tmp 40)) none none), I.n 3 0 (I.sa 41)]) (.seq (.reg 11 [I.n 0 42 (I.mv 4), I.n 1 43 (I.mv 7), I.n 2 44 (.build 27 #[(0, .tmp 42), (1, .tmp 43)]), I.n 3 8 (.alloc 27), I.u 4 (I.st 27 8 44)]) (.seq (.seq (.reg 12 [I.n 0 45 (I.mv 7), I.n 1 46 (I.ln 45 25), I.n 2 47 (I.bc .sub 3 46 1 3), I.n 3 48 (.move (.const (Value.int .i64 0)))]) (.block 0 (.loop (.seq (.reg 13 [I.n 0 49 (I.bo .lss 3 48 47 3)]) (.seq (.cond (.tmp 49) .skip (.exit 0)) (.seq (.block 1 (.seq (.reg 14 [I.n 0 51 (I.mv 0), I.n 1 52 (I.c1 91 51 56), I.n 2 50 (I.mv 52), I.n 3 53 (I.ex 50 0), I.n 4 54 (I.ex 50 1), I.n 5 55 (I.ex 50 2), I.n 6 9 (I.sa 53), I.n 7 10 (I.sa 54), I.n 8 11 (I.sa 55)]) (.seq (.seq (.reg 15 [I.n 0 56 (I.mv 11), I.n 1 57 (I.bc .neq 30 56 0 30)]) (.cond (.tmp 57) (.seq (.reg 16 [I.n 0 58 (.build 27 #[]), I.n 1 59 (I.mv 11), I.u 2 (I.st 27 2 58), I.n 3 3 (I.sa 59)]) .ret) .skip)) (.seq (.reg 17 [I.n 0 60 (I.mv 0), I.n 1 61 (I.mv 10), I.n 2 62 (.slice 56 (.tmp 60) (some (.tmp 61)) none none), I.n 3 0 (I.sa 62)]) (.reg 18 [I.n 0 63 (I.fa 27 8 2), I.n 1 64 (I.ld 22 63), I.n 2 65 (I.mv 9), I.n 3 66 (I.b1 22 65), I.n 4 67 (I.ap 64 66 22 22), I.n 5 68 (I.fa 27 8 2), I.u 6 (I.st 22 68 67)]))))) (.reg 19 [I.n 0 69 (I.bc .add 3 48 1 3), I.n 1 48 (I.mv 69)]))))))) (.seq (.block 2 (.seq (.reg 20 [I.n 0 71 (I.mv 0), I.n 1 72 (I.ln 71 56), I.n 2 73 (I.bc .gtr 3 72 0 3), I.n 3 70 (I.sa 73)]) (.cond (.tmp 70) (.seq (.reg 21 [I.n 0 74 (.build 27 #[]), I.u 1 (I.st 27 2 74), I.n 2 3 (I.si 9)]) .ret) (.seq (.reg 22 [I.n 0 76 (I.ld 27 8), I.n 1 77 (I.c1 46 76 27), I.n 2 78 (I.bc .neq 30 77 0 30), I.n 3 75 (I.sa 78)]) (.cond (.tmp 75) (.seq (.reg 23 [I.n 0 79 (.build 27 #[]), I.u 1 (I.st 27 2 79), I.n 2 3 (I.si 8)]) .ret) .skip))))) (.seq (.reg 24 [I.n 0 80 (I.ld 27 8), I.u 1 (I.st 27 2 80), I.n 2 3 (I.si 0)]) .ret)))))))))))) := by
  intro c h
  have : c = Tryd.f43.body.get rfl := by rw [← Option.some_inj, ← h]; rfl
  rw [this]; rfl
def FTakeR (b : List UInt8) (r : AV) (hs : List Blk) : Prop := LeR r (.tup [lgA (fTakeC b), .v (.int .i64 (fTakeE b))]) ∧ hs = []
theorem ftakeR_bad {b : List UInt8} {e : Int} (h : fTake b = .error e) : FTakeR b (.tup [.agg [.v (.string ⟨#[]⟩), nilA, nilA], .v (.int .i64 e)]) [] := by
  unfold FTakeR fTakeC fTakeE; rw [h]
  exact ⟨LeR.tup2 (LeR.agg3 (LeR.refl _) (LeR.nil 1) (LeR.nil 1)) (LeR.refl _), rfl⟩
theorem ftakeR_ok {b : List UInt8} {c : Lg} {x : AV} (h : fTake b = .ok c) (hx : LeR x (lgA c)) : FTakeR b (.tup [x, .v (.int .i64 0)]) [] := by
  unfold FTakeR fTakeC fTakeE; rw [h]
  exact ⟨LeR.tup2 hx (LeR.refl _), rfl⟩
theorem stake_ok {b : List UInt8} {t : ByteArray} {k : Int} (hb : b.length ≤ 1000000000) (h : sTake b = .ok (t, k)) : CallW env 89 [.lst 1 (bts b)] (fun r hs => r = .tup [.v (.string t), .v (.int .i64 k), .v (.int .i64 0)] ∧ hs = []) := by
  have := stake_call b hb
  rw [sTakeA_ok h] at this; exact this
theorem stake_no {b : List UInt8} {e : Int} (hb : b.length ≤ 1000000000) (h : sTake b = .error e) : CallW env 89 [.lst 1 (bts b)] (fun r hs => r = .tup [.v (.string ⟨#[]⟩), .v (.int .i64 0), .v (.int .i64 e)] ∧ hs = []) := by
  have := stake_call b hb
  rw [sTakeA_bad h] at this; exact this
theorem may_lg {t : ByteArray} {revs : List Int} {segs : List (List Sp)} {x : AV} (h : LgS ⟨t, revs, segs⟩) (hx : Le x (.lst 1 (rowsA segs))) : CallW env 46 [.agg [.v (.string t), .lst 1 (ints revs), x]] (fun r hs => r = .v (.int .i64 (chE ⟨t, revs, segs⟩)) ∧ hs = []) :=
  (cmay_call ⟨t, revs, segs⟩ h).arg1 (Le.agg3 (Le.refl _) (Le.refl _) hx)
theorem taken_small {b : List UInt8} (hb : b.length ≤ 65536) {n : Nat} {t : ByteArray} {k : Int} (hs : sTake b = .ok (t, k)) : t.size ≤ 65536 := by
  obtain ⟨s1, _⟩ := sTake_inv hs
  unfold sPutE at s1
  split at s1
  · split at s1
    · cases s1
    · omega
  · cases s1
theorem rises_len {l : List Int} (h : rises l = true) : l.length ≤ 65536 ∧ 1 ≤ l.length := by
  unfold rises at h
  simp only [Bool.and_eq_true, decide_eq_true_eq, Bool.not_eq_true', List.isEmpty_eq_false_iff] at h
  exact ⟨h.1.2, List.length_pos_iff.2 h.1.1⟩
theorem put_small {x : List Sp} (h : wPutE x = 0) : x.length ≤ 65536 ∧ Small x := by
  obtain ⟨_, _, h3, h4⟩ := wPutE_ok h
  exact ⟨h3, fun s hs => by have := (h4 s hs).2.2; omega⟩
set_option maxHeartbeats 4000000 in
theorem ftake_core (b : List UInt8) : CallW env 43 [.lst 1 (bts b)] (FTakeR b) := by
  have hbl := bts_len b
  by_cases hb : 65536 < b.length
  · have h : fTake b = .error 4 := by unfold fTake; rw [if_pos hb]
    refine Ev.fn [0, 2, 3, 4, 5, 6, 7, 8, 9, 10, 11, 14, 23, 36, 47, 48, 49, 57, 70, 75] 0 [.cell 2 27, .tmp 3] Tryd.func43 (comp43 _ rfl) ?_
    repeat' (first | ((with_reducible refine Ev.br0 ?_); (first | refine Ev.brp ?_ | refine Ev.brn ?_); conv => whnf) | ((with_reducible refine Ev.c0 ?_); first | refine Ev.cp ?_ | refine Ev.cn ?_) | ((refine Ev.sw ?_); conv => whnf) | refine Ev.sn ?_ | ((with_reducible refine Ev.chk_k ?_ ?_); rotate_left; exact Ev.bt; conv => whnf) | ((with_reducible (refine Ev.RI.run ?_; constructor)) <;> intro _) | ((refine Ev.sg ?_); conv => whnf) | ((with_reducible refine Ev.sided ?_ ?_); conv => whnf) | ((with_reducible refine Ev.kr (hs := []) (fun Q hQ => ?_)); (simp only [Ev.runE_cons, Ev.runE_nil]); conv => whnf) | (with_reducible refine hQ _ ?_; clear hQ Q) | ((refine Ev.sf ?_); intro F hF; conv => whnf) | (with_reducible refine hF _ ?_; clear hF F) | ((with_reducible refine Ev.go_k (fun c' => ?_)); conv => whnf) | ((first | refine Ev.el_map0 ?_ (fun hi => ?_) | refine Ev.el_mapN ?_ (fun hi => ?_)); rotate_left; conv => whnf) | ((with_reducible refine Ev.sd0 ?_); exact Ev.sd) | fail)
    · exact ftakeR_bad h
    · exfalso; omega
  cases hs : sTake b with
  | error e =>
    have h : fTake b = .error e := by unfold fTake; rw [if_neg hb, hs]
    have hS := stake_no (by omega) hs
    have he : e ≠ 0 := by rcases sTake_bad hs with h | h <;> omega
    refine Ev.fn [0, 2, 3, 4, 5, 6, 7, 8, 9, 10, 11, 14, 23, 36, 47, 48, 49, 57, 70, 75] 0 [.cell 2 27, .tmp 3] Tryd.func43 (comp43 _ rfl) ?_
    repeat' (first | ((with_reducible refine Ev.br0 ?_); (first | refine Ev.brp ?_ | refine Ev.brn ?_); conv => whnf) | ((with_reducible refine Ev.c0 ?_); first | refine Ev.cp ?_ | refine Ev.cn ?_) | ((refine Ev.sw ?_); conv => whnf) | refine Ev.sn ?_ | ((with_reducible refine Ev.chk_k ?_ ?_); rotate_left; exact Ev.bt; conv => whnf) | ((with_reducible (refine Ev.RI.run ?_; constructor)) <;> intro _) | ((refine Ev.sg ?_); conv => whnf) | ((with_reducible refine Ev.sided ?_ ?_); conv => whnf) | ((with_reducible refine Ev.kr (hs := []) (fun Q hQ => ?_)); (simp only [Ev.runE_cons, Ev.runE_nil]); conv => whnf) | (with_reducible refine hQ _ ?_; clear hQ Q) | ((refine Ev.sf ?_); intro F hF; conv => whnf) | (with_reducible refine hF _ ?_; clear hF F) | ((with_reducible refine Ev.go_k (fun c' => ?_)); conv => whnf) | ((with_reducible refine Ev.ca0 ?_); (first | refine Ev.ca (hS) ?_); conv => whnf) | ((first | refine Ev.el_map0 ?_ (fun hi => ?_) | refine Ev.el_mapN ?_ (fun hi => ?_)); rotate_left; conv => whnf) | ((with_reducible refine Ev.sd0 ?_); exact Ev.sd) | fail)
    · exfalso; omega
    · exact absurd (by assumption) he
    · exact ftakeR_bad h
  | ok p =>
    obtain ⟨t, n⟩ := p
    have hS := stake_ok (by omega) hs
    obtain ⟨s1, s2, s3, s4, s5⟩ := sTake_inv hs
    obtain ⟨n, rfl⟩ := Int.eq_ofNat_of_zero_le (show 0 ≤ n by omega)
    have hc := cut_from b n
    have hdl : (b.drop n).length = b.length - n := List.length_drop
    cases hr : rTake (b.drop n) with
    | error e =>
      have h : fTake b = .error e := by unfold fTake; rw [if_neg hb, hs]; simp only [Int.toNat_natCast]; rw [hr]
      have hR := rtakerow_call (b.drop n) (by omega)
      rw [rTakeA_bad hr, ← hc] at hR
      have he : e ≠ 0 := by rcases rTake_bad hr with h | h <;> omega
      refine Ev.fn [0, 2, 3, 4, 5, 6, 7, 8, 9, 10, 11, 14, 23, 36, 47, 48, 49, 57, 70, 75] 0 [.cell 2 27, .tmp 3] Tryd.func43 (comp43 _ rfl) ?_
      repeat' (first | ((with_reducible refine Ev.br0 ?_); (first | refine Ev.brp ?_ | refine Ev.brn ?_); conv => whnf) | ((with_reducible refine Ev.c0 ?_); first | refine Ev.cp ?_ | refine Ev.cn ?_) | ((refine Ev.sw ?_); conv => whnf) | refine Ev.sn ?_ | ((with_reducible refine Ev.chk_k ?_ ?_); rotate_left; exact Ev.bt; conv => whnf) | ((with_reducible (refine Ev.RI.run ?_; constructor)) <;> intro _) | ((refine Ev.sg ?_); conv => whnf) | ((with_reducible refine Ev.sided ?_ ?_); conv => whnf) | ((with_reducible refine Ev.kr (hs := []) (fun Q hQ => ?_)); (simp only [Ev.runE_cons, Ev.runE_nil]); conv => whnf) | (with_reducible refine hQ _ ?_; clear hQ Q) | ((refine Ev.sf ?_); intro F hF; conv => whnf) | (with_reducible refine hF _ ?_; clear hF F) | ((with_reducible refine Ev.go_k (fun c' => ?_)); conv => whnf) | ((with_reducible refine Ev.ca0 ?_); (first | refine Ev.ca (hS) ?_ | refine Ev.ca (hR) ?_); conv => whnf) | ((first | refine Ev.el_map0 ?_ (fun hi => ?_) | refine Ev.el_mapN ?_ (fun hi => ?_)); rotate_left; conv => whnf) | ((with_reducible refine Ev.sd0 ?_); exact Ev.sd) | fail)
      · exfalso; omega
      · exact absurd (by assumption) he
      · exact ftakeR_bad h
    | ok q =>
      obtain ⟨revs, k⟩ := q
      have hR := rtakerow_call (b.drop n) (by omega)
      rw [rTakeA_ok hr, ← hc] at hR
      obtain ⟨r1, r2, r3, r4, r5⟩ := rTake_inv hr
      obtain ⟨k, rfl⟩ := Int.eq_ofNat_of_zero_le (show 0 ≤ k by omega)
      obtain ⟨v1, v2⟩ := rises_len r1
      have hil := ints_len revs
      have hF : fTake b = fTake2 t revs (sgTake (revs.length - 1) ((b.drop n).drop k)) := by
        unfold fTake; rw [if_neg hb, hs]; simp only [Int.toNat_natCast]; rw [hr]
        simp only [Int.toNat_natCast]
      obtain ⟨N, hN⟩ : ∃ N, revs.length = N + 1 := ⟨revs.length - 1, by omega⟩
      rw [hN, Nat.add_sub_cancel] at hF
      have hts := taken_small (n := n) (by omega : b.length ≤ 65536) hs
      refine Ev.fn [0, 2, 3, 4, 5, 6, 7, 8, 9, 10, 11, 14, 23, 36, 47, 48, 49, 57, 70, 75] 0 [.cell 2 27, .tmp 3] Tryd.func43 (comp43 _ rfl) ?_
      repeat' (first | ((with_reducible refine Ev.br0 ?_); (first | refine Ev.brp ?_ | refine Ev.brn ?_); conv => whnf) | ((with_reducible refine Ev.c0 ?_); first | refine Ev.cp ?_ | refine Ev.cn ?_) | ((refine Ev.sw ?_); conv => whnf) | refine Ev.sn ?_ | ((with_reducible refine Ev.chk_k ?_ ?_); rotate_left; exact Ev.bt; conv => whnf) | ((with_reducible (refine Ev.RI.run ?_; constructor)) <;> intro _) | ((refine Ev.sg ?_); conv => whnf) | ((with_reducible refine Ev.sided ?_ ?_); conv => whnf) | ((with_reducible refine Ev.kr (hs := []) (fun Q hQ => ?_)); (simp only [Ev.runE_cons, Ev.runE_nil]); conv => whnf) | (with_reducible refine hQ _ ?_; clear hQ Q) | ((refine Ev.sf ?_); intro F hF; conv => whnf) | (with_reducible refine hF _ ?_; clear hF F) | ((with_reducible refine Ev.go_k (fun c' => ?_)); conv => whnf) | ((with_reducible refine Ev.ca0 ?_); (first | refine Ev.ca (hS) ?_ | refine Ev.ca (hR) ?_); conv => whnf) | ((first | refine Ev.el_map0 ?_ (fun hi => ?_) | refine Ev.el_mapN ?_ (fun hi => ?_)); rotate_left; conv => whnf) | ((with_reducible refine Ev.sd0 ?_); exact Ev.sd) | fail)
      · exfalso; omega
      refine Ev.loop (fun m s => ∃ (i c w : Nat) (left : List UInt8) (done : List (List Sp)) (sg : AV) (hx : List (Nat × Blk)), s = ⟨[(0, .lst 1 (bts left)), (2, .ptr 0 0 0 0), (3, .v (.int .i64 0)), (8, .ptr 5656 w 0 0), (47, .v (.int .i64 N)), (48, .v (.int .i64 i))],
          (5656, ⟨3, 27, w, 0, true, [[.v (.string t), .lst 1 (ints revs), sg]]⟩) :: (0, ⟨3, 27, 0, 0, true, [[.v (.string ⟨#[]⟩), nilA, nilA]]⟩) :: hx, c⟩ ∧
          ((i = 0 ∧ sg = nilA ∧ hx = []) ∨ (0 < i ∧ ∃ u, sg = .own 9248 u 0 i ∧ hx = [(9248, ⟨1, 23, u, 0, false, rowsA done⟩)])) ∧ done.length = i ∧ m + i = N ∧ left.length ≤ 65536 ∧ (∀ x ∈ done, wPutE x = 0) ∧ sgTake N ((b.drop n).drop k) = joinS done (sgTake m left)) ?_ ?_
      · have hc2 := cut_from2 b n k
        (refine Ev.to _ ?hs1 ?hh1 ?hc1 ⟨N, 0, ?_, ?_, (b.drop n).drop k, [], nilA, [], rfl, ?hp1⟩; (case hs1 | hh1 => ((repeat' (first | exact trivial | refine And.intro ?_ ?_)) <;> (first | exact Ev.se | (refine Ev.slot_eq rfl ?_; first | (first | exact congrArg (AV.lst 1) hc2 | rfl | (simp; omega)) | ((first | refine Ev.int_eq ?_ | refine Ev.own_eq ?_ | refine Ev.blk_eq ?_); (first | exact congrArg (AV.lst 1) hc2 | rfl | (simp; omega)))) | exact Ev.sr))); (case hc1 => exact Nat.le_refl _))
        exact ⟨.inl ⟨rfl, rfl, rfl⟩, rfl, by omega, by rw [List.length_drop]; omega, fun x hx => by simp at hx, (joinS_nil _).symm⟩
      rintro m s1 ⟨i, c, w, left, done, sg, hx, rfl, hsg, hdn, hm, hll, hput, hg⟩
      have hlb := bts_len left
      have hrd := rowsA_len done
      by_cases hi : i = N
      · have hm0 : m = 0 := by omega
        subst hm0
        rw [sg_end] at hg
        rw [hg] at hF
        simp only [fTake2] at hF
        have hiN : ¬ (i : Int) < (N : Int) := by omega
        have hLS : LgS ⟨t, revs, done⟩ := by
          refine ⟨by show t.size ≤ _; omega, by show revs.length ≤ _; omega, by show done.length ≤ _; omega, fun x hx => ?_⟩
          have := put_small (hput x hx)
          exact ⟨by omega, this.2⟩
        rcases hsg with ⟨rfl, rfl, rfl⟩ | ⟨h0, u, rfl, rfl⟩
        · obtain rfl : done = [] := List.length_eq_zero_iff.1 hdn
          have hM := may_lg hLS (Le.nil 1)
          repeat' (first | ((with_reducible refine Ev.br0 ?_); (first | refine Ev.brp ?_ | refine Ev.brn ?_); conv => whnf) | ((with_reducible refine Ev.c0 ?_); first | refine Ev.cp ?_ | refine Ev.cn ?_) | (((with_reducible refine Ev.br_neg hiN ?_); conv => whnf)) | (with_reducible refine Ev.c_neg hiN ?_) | ((refine Ev.sw ?_); conv => whnf) | refine Ev.sn ?_ | ((with_reducible refine Ev.chk_k ?_ ?_); rotate_left; exact Ev.bt; conv => whnf) | ((with_reducible (refine Ev.RI.run ?_; constructor)) <;> intro _) | ((refine Ev.sg ?_); conv => whnf) | ((with_reducible refine Ev.sided ?_ ?_); conv => whnf) | ((with_reducible refine Ev.kr (hs := []) (fun Q hQ => ?_)); (simp only [Ev.runE_cons, Ev.runE_nil]); conv => whnf) | (with_reducible refine hQ _ ?_; clear hQ Q) | ((refine Ev.sf ?_); intro F hF; conv => whnf) | (with_reducible refine hF _ ?_; clear hF F) | ((with_reducible refine Ev.go_k (fun c' => ?_)); conv => whnf) | ((with_reducible refine Ev.ca0 ?_); (first | refine Ev.ca (hM) ?_); conv => whnf) | ((first | refine Ev.el_map0 ?_ (fun hi => ?_) | refine Ev.el_mapN ?_ (fun hi => ?_)); rotate_left; conv => whnf) | ((with_reducible refine Ev.sd0 ?_); exact Ev.sd) | fail)
          · rename_i h9
            exact ftakeR_bad (by rw [hF, if_pos (fun e => by rw [e, bts_len] at h9; simp at h9)])
          · rename_i h0 hc0
            exact ftakeR_ok (c := ⟨t, revs, []⟩) (by rw [hF, if_neg (by simp; exact List.length_eq_zero_iff.1 (by omega)), if_neg (by simp [hc0])]) (LeR.agg3 (LeR.refl _) (LeR.refl _) (LeR.nil 1))
          · rename_i h0 hc0
            exact ftakeR_bad (by rw [hF, if_neg (by simp; exact List.length_eq_zero_iff.1 (by omega)), if_pos hc0])
        · have htk : List.take i (List.drop 0 (rowsA done)) = rowsA done := by rw [List.drop_zero, List.take_of_length_le (by omega)]
          have hM := may_lg hLS (Le.refl _)
          rw [← htk] at hM
          repeat' (first | ((with_reducible refine Ev.br0 ?_); (first | refine Ev.brp ?_ | refine Ev.brn ?_); conv => whnf) | ((with_reducible refine Ev.c0 ?_); first | refine Ev.cp ?_ | refine Ev.cn ?_) | (((with_reducible refine Ev.br_neg hiN ?_); conv => whnf)) | (with_reducible refine Ev.c_neg hiN ?_) | ((refine Ev.sw ?_); conv => whnf) | refine Ev.sn ?_ | ((with_reducible refine Ev.chk_k ?_ ?_); rotate_left; exact Ev.bt; conv => whnf) | ((with_reducible (refine Ev.RI.run ?_; constructor)) <;> intro _) | ((refine Ev.sg ?_); conv => whnf) | ((with_reducible refine Ev.sided ?_ ?_); conv => whnf) | ((with_reducible refine Ev.kr (hs := []) (fun Q hQ => ?_)); (simp only [Ev.runE_cons, Ev.runE_nil]); conv => whnf) | (with_reducible refine hQ _ ?_; clear hQ Q) | ((refine Ev.sf ?_); intro F hF; conv => whnf) | (with_reducible refine hF _ ?_; clear hF F) | ((with_reducible refine Ev.go_k (fun c' => ?_)); conv => whnf) | ((with_reducible refine Ev.ca0 ?_); (first | refine Ev.ca (hM) ?_); conv => whnf) | ((first | refine Ev.el_map0 ?_ (fun hi => ?_) | refine Ev.el_mapN ?_ (fun hi => ?_)); rotate_left; conv => whnf) | ((with_reducible refine Ev.sd0 ?_); exact Ev.sd) | fail)
          · rename_i h9
            exact ftakeR_bad (by rw [hF, if_pos (fun e => by rw [e, bts_len] at h9; simp at h9)])
          · rename_i h00 hc0
            exact ftakeR_ok (by rw [hF, if_neg (by simp; exact List.length_eq_zero_iff.1 (by omega)), if_neg (by simp [hc0])]) (by rw [htk]; exact LeR.refl _)
          · rename_i h00 hc0
            exact ftakeR_bad (by rw [hF, if_neg (by simp; exact List.length_eq_zero_iff.1 (by omega)), if_pos hc0])
      have hiN : (i : Int) < (N : Int) := by omega
      obtain ⟨m, rfl⟩ : ∃ m', m = m' + 1 := ⟨m - 1, by omega⟩
      cases hw : wTake left with
      | error e =>
        have hW := wtake_no (by omega) hw
        have he : e ≠ 0 := by rcases wTake_bad hw with h | h <;> omega
        rw [sg_bad hw] at hg
        rw [hg] at hF
        repeat' (first | ((with_reducible refine Ev.br0 ?_); (first | refine Ev.brp ?_ | refine Ev.brn ?_); conv => whnf) | ((with_reducible refine Ev.c0 ?_); first | refine Ev.cp ?_ | refine Ev.cn ?_) | (((with_reducible refine Ev.br_pos hiN ?_); conv => whnf)) | (with_reducible refine Ev.c_pos hiN ?_) | ((refine Ev.sw ?_); conv => whnf) | refine Ev.sn ?_ | ((with_reducible refine Ev.chk_k ?_ ?_); rotate_left; exact Ev.bt; conv => whnf) | ((with_reducible (refine Ev.RI.run ?_; constructor)) <;> intro _) | ((refine Ev.sg ?_); conv => whnf) | ((with_reducible refine Ev.sided ?_ ?_); conv => whnf) | ((with_reducible refine Ev.kr (hs := []) (fun Q hQ => ?_)); (simp only [Ev.runE_cons, Ev.runE_nil]); conv => whnf) | (with_reducible refine hQ _ ?_; clear hQ Q) | ((refine Ev.sf ?_); intro F hF; conv => whnf) | (with_reducible refine hF _ ?_; clear hF F) | ((with_reducible refine Ev.go_k (fun c' => ?_)); conv => whnf) | ((with_reducible refine Ev.ca0 ?_); (first | refine Ev.ca (hW) ?_); conv => whnf) | ((first | refine Ev.el_map0 ?_ (fun hi => ?_) | refine Ev.el_mapN ?_ (fun hi => ?_)); rotate_left; conv => whnf) | ((with_reducible refine Ev.sd0 ?_); exact Ev.sd) | fail)
        · exact absurd (by assumption) he
        · exact ftakeR_bad (by rw [hF]; rfl)
      | ok p =>
        obtain ⟨x, k'⟩ := p
        have hW := wtake_ok (by omega) hw
        obtain ⟨w1, w2, w3, w4, w5⟩ := wTake_inv hw
        obtain ⟨k', rfl⟩ := Int.eq_ofNat_of_zero_le (show 0 ≤ k' by omega)
        rw [sg_step hw] at hg
        have hc3 := cut_from left k'
        rcases hsg with ⟨rfl, rfl, rfl⟩ | ⟨h0, u, rfl, rfl⟩
        · obtain rfl : done = [] := List.length_eq_zero_iff.1 hdn
          repeat' (first | ((with_reducible refine Ev.br0 ?_); (first | refine Ev.brp ?_ | refine Ev.brn ?_); conv => whnf) | ((with_reducible refine Ev.c0 ?_); first | refine Ev.cp ?_ | refine Ev.cn ?_) | (((with_reducible refine Ev.br_pos hiN ?_); conv => whnf)) | (with_reducible refine Ev.c_pos hiN ?_) | ((refine Ev.sw ?_); conv => whnf) | refine Ev.sn ?_ | ((with_reducible refine Ev.chk_k ?_ ?_); rotate_left; exact Ev.bt; conv => whnf) | ((with_reducible (refine Ev.RI.run ?_; constructor)) <;> intro _) | ((refine Ev.sg ?_); conv => whnf) | ((with_reducible refine Ev.sided ?_ ?_); conv => whnf) | ((with_reducible refine Ev.kr (hs := []) (fun Q hQ => ?_)); (simp only [Ev.runE_cons, Ev.runE_nil]); conv => whnf) | (with_reducible refine hQ _ ?_; clear hQ Q) | ((refine Ev.sf ?_); intro F hF; conv => whnf) | (with_reducible refine hF _ ?_; clear hF F) | ((with_reducible refine Ev.go_k (fun c' => ?_)); conv => whnf) | ((with_reducible refine Ev.ca0 ?_); (first | refine Ev.ca (hW) ?_); conv => whnf) | ((first | refine Ev.el_map0 ?_ (fun hi => ?_) | refine Ev.el_mapN ?_ (fun hi => ?_)); rotate_left; conv => whnf) | ((with_reducible refine Ev.sd0 ?_); exact Ev.sd) | fail)
          have hr2 : List.take 1 (List.drop 0 [[AV.lst 3 (sps x)]]) = rowsA ([] ++ [x]) := rfl
          (refine Ev.again (m) _ ?hm2 ?hs2 ?hh2 ?hc2 ⟨0 + 1, ?_, w, left.drop k', [] ++ [x], .own 9248 (c + 8) 0 (0 + 1), [(9248, ⟨1, 23, c + 8, 0, false, rowsA ([] ++ [x])⟩)], rfl, ?hp2⟩; (case hs2 | hh2 => ((repeat' (first | exact trivial | refine And.intro ?_ ?_)) <;> (first | exact Ev.se | (refine Ev.slot_eq rfl ?_; first | (first | exact congrArg (AV.lst 1) hc3 | exact wrap_succ (by omega) | exact congrArg (fun n => Blk.mk 1 23 _ 0 false n) hr2 | rfl) | ((first | refine Ev.int_eq ?_ | refine Ev.own_eq ?_ | refine Ev.blk_eq ?_); (first | exact congrArg (AV.lst 1) hc3 | exact wrap_succ (by omega) | exact congrArg (fun n => Blk.mk 1 23 _ 0 false n) hr2 | rfl))) | exact Ev.sr))); (case hc2 => exact Nat.le_refl _); (case hm2 => omega))
          exact ⟨.inr ⟨by omega, _, rfl, rfl⟩, rfl, by omega, by rw [List.length_drop]; omega, fun y hy => (by simp at hy; rw [hy]; exact w1), hg⟩
        · repeat' (first | ((with_reducible refine Ev.br0 ?_); (first | refine Ev.brp ?_ | refine Ev.brn ?_); conv => whnf) | ((with_reducible refine Ev.c0 ?_); first | refine Ev.cp ?_ | refine Ev.cn ?_) | (((with_reducible refine Ev.br_pos hiN ?_); conv => whnf)) | (with_reducible refine Ev.c_pos hiN ?_) | ((refine Ev.sw ?_); conv => whnf) | refine Ev.sn ?_ | ((with_reducible refine Ev.chk_k ?_ ?_); rotate_left; exact Ev.bt; conv => whnf) | ((with_reducible (refine Ev.RI.run ?_; constructor)) <;> intro _) | ((refine Ev.sg ?_); conv => whnf) | ((with_reducible refine Ev.sided ?_ ?_); conv => whnf) | ((with_reducible refine Ev.kr (hs := []) (fun Q hQ => ?_)); (simp only [Ev.runE_cons, Ev.runE_nil]); conv => whnf) | (with_reducible refine hQ _ ?_; clear hQ Q) | ((refine Ev.sf ?_); intro F hF; conv => whnf) | (with_reducible refine hF _ ?_; clear hF F) | ((with_reducible refine Ev.go_k (fun c' => ?_)); conv => whnf) | ((with_reducible refine Ev.ca0 ?_); (first | refine Ev.ca (hW) ?_); conv => whnf) | ((first | refine Ev.el_map0 ?_ (fun hi => ?_) | refine Ev.el_mapN ?_ (fun hi => ?_)); rotate_left; conv => whnf) | ((with_reducible refine Ev.sd0 ?_); exact Ev.sd) | fail)
          have hr2 : rowsA done ++ List.take 1 (List.drop 0 [[AV.lst 3 (sps x)]]) = rowsA (done ++ [x]) := by rw [rowsA_app]; rfl
          (refine Ev.again (m) _ ?hm3 ?hs3 ?hh3 ?hc3 ⟨i + 1, ?_, w, left.drop k', done ++ [x], .own 9248 (c + 8) 0 (i + 1), [(9248, ⟨1, 23, c + 8, 0, false, rowsA (done ++ [x])⟩)], rfl, ?hp3⟩; (case hs3 | hh3 => ((repeat' (first | exact trivial | refine And.intro ?_ ?_)) <;> (first | exact Ev.se | (refine Ev.slot_eq rfl ?_; first | (first | exact congrArg (AV.lst 1) hc3 | exact wrap_succ (by omega) | exact congrArg (fun n => Blk.mk 1 23 _ 0 false n) hr2 | rfl) | ((first | refine Ev.int_eq ?_ | refine Ev.own_eq ?_ | refine Ev.blk_eq ?_); (first | exact congrArg (AV.lst 1) hc3 | exact wrap_succ (by omega) | exact congrArg (fun n => Blk.mk 1 23 _ 0 false n) hr2 | rfl))) | exact Ev.sr))); (case hc3 => exact Nat.le_refl _); (case hm3 => omega))
          refine ⟨.inr ⟨by omega, _, rfl, rfl⟩, by simp [hdn], by omega, by rw [List.length_drop]; omega, fun y hy => ?_, hg⟩
          rcases List.mem_append.1 hy with hy | hy
          · exact hput y hy
          · simp at hy; rw [hy]; exact w1
theorem ftake_call (b : List UInt8) : CallW env 43 [.lst 1 (bts b)] (fun r hs => r = .tup [lgA (fTakeC b), .v (.int .i64 (fTakeE b))] ∧ hs = []) :=
  (ftake_core b).res (fun r hs h => ⟨_, ⟨rfl, h.2⟩, h.1⟩)
end Go.Proofs.YtadlnaljicikfaaDoor.Abs

namespace Go.Proofs.YtadlnaljicikfaaDoor.Abs
open Go
set_option maxRecDepth 100000
set_option linter.unusedSimpArgs false
set_option linter.unusedVariables false
attribute [local irreducible] Ev.Unr Ev.Go' Ev.bytK Ev.runK Ev.FinL Ev.brC Ev.Side Ev.Wp Ev.Again Ev.To Ev.Fin
open Go.Lib Go.RowKit
end Go.Proofs.YtadlnaljicikfaaDoor.Abs
