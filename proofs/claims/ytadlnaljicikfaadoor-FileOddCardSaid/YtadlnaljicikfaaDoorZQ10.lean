/- A part of the proof: a calculus over values, and contracts of functions. No condition. -/
import Derived.Test.YtadlnaljicikfaaDoorZFileOdd9
namespace Go.Proofs.YtadlnaljicikfaaDoor.Abs
open Go
set_option maxRecDepth 100000
set_option linter.unusedSimpArgs false
set_option linter.unusedVariables false
attribute [local irreducible] Ev.Unr Ev.Go' Ev.bytK Ev.runK Ev.FinL Ev.brC Ev.Side Ev.Wp Ev.Again Ev.To Ev.Fin
open Go.Lib Go.RowKit
end Go.Proofs.YtadlnaljicikfaaDoor.Abs

namespace Go.Proofs.YtadlnaljicikfaaDoor.Abs
open Go
set_option maxRecDepth 100000
set_option linter.unusedSimpArgs false
set_option linter.unusedVariables false
attribute [local irreducible] Ev.Unr Ev.Go' Ev.bytK Ev.runK Ev.FinL Ev.brC Ev.Side Ev.Wp Ev.Again Ev.To Ev.Fin
open Go.Lib Go.RowKit
theorem comp28 : ∀ c, Tryd.f28.body = some c → comp c = (.seq (.reg 0 [I.n 0 2 (.box 27 (.tmp 0)), I.n 1 3 (.box 27 (.tmp 1)), I.n 2 4 (I.sb false)]) (.seq (.seq (.reg 1 [I.n 0 6 (I.fa 27 2 0), I.n 1 7 (I.ld 9 6), I.n 2 8 (I.fa 27 3 0), I.n 3 9 (I.ld 9 8), I.n 4 10 (I.bo .neq 9 7 9 9), I.n 5 11 (I.mv 10), I.w 6 12 (I.fa 27 2 2) 11 false, I.w 7 13 (I.ld 22 12) 11 false, I.w 8 14 (I.ln 13 22) 11 false, I.w 9 15 (I.fa 27 3 2) 11 false, I.w 10 16 (I.ld 22 15) 11 false, I.w 11 17 (I.ln 16 22) 11 false, I.w 12 18 (I.bo .neq 3 14 17 3) 11 false, I.n 13 19 (I.pb 11 true 18), I.n 14 20 (I.mv 19), I.w 15 21 (I.fa 27 2 1) 20 false, I.w 16 22 (I.ld 25 21) 20 false, I.w 17 23 (I.fa 27 3 1) 20 false, I.w 18 24 (I.ld 25 23) 20 false, I.w 19 25 (I.c2 76 22 24 25 25) 20 false, I.w 20 26 (.unOp .not 4 (.tmp 25)) 20 false, I.n 21 27 (I.pb 20 true 26)]) (.cond (.tmp 27) (.seq (.reg 2 [I.n 0 4 (I.sb false)]) .ret) .skip)) (.seq (.seq (.reg 3 [I.n 0 5 (I.si 0)]) (.block 0 (.loop (.seq (.seq (.reg 4 [I.n 0 28 (I.mv 5), I.n 1 29 (I.fa 27 2 2), I.n 2 30 (I.ld 22 29), I.n 3 31 (I.ln 30 22), I.n 4 32 (I.bo .lss 3 28 31 3)]) (.cond (.tmp 32) .skip (.exit 0))) (.seq (.block 1 (.seq (.draw 6 [I.n 0 35 (I.fa 27 2 2), I.n 1 36 (I.ld 22 35), I.n 2 37 (I.mv 5), I.n 3 38 (I.ia 22 36 37), I.n 4 39 (I.ld 23 38), I.n 5 40 (I.fa 27 3 2), I.n 6 41 (I.ld 22 40), I.n 7 42 (I.mv 5), I.n 8 43 (I.ia 22 41 42), I.n 9 44 (I.ld 23 43), I.n 10 45 (I.c2 34 39 44 23 23), I.n 11 46 (.unOp .not 4 (.tmp 45))] [[], [0], [], [1, 2], [3], [], [5], [], [6, 7], [8], [4, 9], [10]]) (.cond (.tmp 46) (.seq (.reg 7 [I.n 0 4 (I.sb false)]) .ret) .skip))) (.reg 5 [I.n 0 33 (I.mv 5), I.n 1 34 (I.bc .add 3 33 1 3), I.n 2 5 (I.sa 34)])))))) (.seq (.reg 8 [I.n 0 4 (I.sb true)]) .ret)))) := by
  intro c h
  have : c = Tryd.f28.body.get rfl := by rw [← Option.some_inj, ← h]; rfl
  rw [this]; rfl
theorem comp39 : ∀ c, Tryd.f39.body = some c → comp c = (.seq (.reg 0 [I.n 0 0 (I.sb false)]) (.seq (.reg 1 [I.n 0 6 (.buildSlice 25 1 #[(0, .const (Value.int .i64 0))]), I.n 1 7 (.build 27 #[(0, .const (Value.string { data := #[97] })), (1, .tmp 6)]), I.n 2 1 (.alloc 27), I.u 3 (I.st 27 1 7)]) (.seq (.reg 2 [I.n 0 9 (I.ld 27 1), I.n 1 10 (I.c1 40 9 27), I.n 2 8 (I.mv 10), I.n 3 11 (I.ex 8 0), I.n 4 12 (I.ex 8 1), I.n 5 2 (I.sa 11), I.n 6 3 (I.sa 12)]) (.seq (.reg 3 [I.n 0 14 (.buildSlice 56 4 #[(0, .const (Value.int .u8 1)), (1, .const (Value.int .u8 97)), (2, .const (Value.int .u8 1)), (3, .const (Value.int .u8 0))]), I.n 1 15 (I.cv 56 56 14), I.n 2 16 (I.c1 43 15 56), I.n 3 13 (I.mv 16), I.n 4 17 (I.ex 13 0), I.n 5 18 (I.ex 13 1), I.n 6 4 (.alloc 27), I.u 7 (I.st 27 4 17), I.n 8 5 (I.sa 18)]) (.seq (.reg 4 [I.n 0 19 (I.mv 2), I.n 1 20 (I.cv 56 9 19), I.n 2 21 (.binOp .eql 9 (.tmp 20) (.const (Value.string { data := #[1, 97, 1, 0] })) 9), I.n 3 22 (I.mv 21), I.w 4 23 (I.mv 3) 22 true, I.w 5 24 (I.bc .eql 30 23 0 30) 22 true, I.n 6 25 (I.pc 22 24 false), I.n 7 26 (I.mv 25), I.w 8 27 (I.ld 27 4) 26 true, I.w 9 28 (I.ld 27 1) 26 true, I.w 10 29 (I.c2 28 27 28 27 27) 26 true, I.n 11 30 (I.pc 26 29 false), I.n 12 31 (I.mv 30), I.w 13 32 (I.mv 5) 31 true, I.w 14 33 (I.bc .eql 30 32 0 30) 31 true, I.n 15 34 (I.pc 31 33 false), I.n 16 0 (I.sa 34)]) .ret))))) := by
  intro c h
  have : c = Tryd.f39.body.get rfl := by rw [← Option.some_inj, ← h]; rfl
  rw [this]; rfl
def sameLg (c d : Lg) : Bool := decide (c.base = d.base ∧ c.revs = d.revs ∧ c.segs = d.segs)
theorem sameLg_self (c : Lg) : sameLg c c = true := decide_eq_true ⟨rfl, rfl, rfl⟩
set_option maxHeartbeats 1000000 in
theorem same16_call (c d : Lg) (hc : LgS c) : CallW env 28 [lgA c, lgA d] (fun r hs => r = .v (.bool (sameLg c d)) ∧ hs = []) := by
  have hR := samerow_call c.revs d.revs (by have := hc.2.1; omega)
  have h1 := rowsA_len c.segs
  have h2 := rowsA_len d.segs
  have hcl := hc.2.2.1
  refine Ev.fn [0, 1, 2, 3, 4, 5, 27, 32, 46] 0 [.tmp 4] Tryd.func28 (comp28 _ rfl) ?_
  repeat' (first | ((with_reducible refine Ev.br0 ?_); (first | refine Ev.brp ?_ | refine Ev.brn ?_); conv => whnf) | ((with_reducible refine Ev.c0 ?_); first | refine Ev.cp ?_ | refine Ev.cn ?_) | ((refine Ev.sw ?_); conv => whnf) | refine Ev.sn ?_ | ((with_reducible refine Ev.chk_k ?_ ?_); rotate_left; exact Ev.bt; conv => whnf) | ((with_reducible (refine Ev.RI.run ?_; constructor)) <;> intro _) | ((refine Ev.sg ?_); conv => whnf) | ((with_reducible refine Ev.sided ?_ ?_); conv => whnf) | ((with_reducible refine Ev.kr (hs := []) (fun Q hQ => ?_)); (simp only [Ev.runE_cons, Ev.runE_nil]); conv => whnf) | (with_reducible refine hQ _ ?_; clear hQ Q) | ((refine Ev.sf ?_); intro F hF; conv => whnf) | (with_reducible refine hF _ ?_; clear hF F) | ((with_reducible refine Ev.go_k (fun c' => ?_)); conv => whnf) | ((with_reducible refine Ev.ca0 ?_); (first | refine Ev.ca (hR) ?_); conv => whnf) | ((with_reducible refine Ev.dr0 ?_); (first | refine Ev.dr 6 [] [0, 1, 2, 3, 4, 5, 6, 7, 8, 9, 10, 11] ?_); intro Q hQ; (simp only [Ev.runE_cons, Ev.runE_nil]); conv => whnf) | ((first | refine Ev.el_map0 ?_ (fun hi => ?_) | refine Ev.el_mapN ?_ (fun hi => ?_)); rotate_left; conv => whnf) | ((with_reducible refine Ev.sd0 ?_); exact Ev.sd) | fail)
  · rename_i e1 e2 e3
    have hlen : c.segs.length = d.segs.length := by omega
    refine Ev.loop (fun k s => ∃ i ct : Nat, s = ⟨[(2, .ptr 0 0 0 0), (3, .ptr 8 8 0 0), (4, .v (.bool false)), (5, .v (.int .i64 i))], [(8, ⟨3, 27, 8, 0, true, [[.v (.string d.base), .lst 1 (ints d.revs), .lst 1 (rowsA d.segs)]]⟩), (0, ⟨3, 27, 0, 0, true, [[.v (.string c.base), .lst 1 (ints c.revs), .lst 1 (rowsA c.segs)]]⟩)], ct⟩ ∧ k + i = c.segs.length ∧ c.segs.take i = d.segs.take i) ?_ ?_
    · (refine Ev.to _ ?hs1 ?hh1 ?hc1 ⟨c.segs.length, 0, ?_, rfl, ?hp1⟩; (case hs1 | hh1 => ((repeat' (first | exact trivial | refine And.intro ?_ ?_)) <;> (first | exact Ev.se | (refine Ev.slot_eq rfl ?_; first | (first | (simp; done) | (simp; omega)) | ((first | refine Ev.int_eq ?_ | refine Ev.own_eq ?_ | refine Ev.blk_eq ?_); (first | (simp; done) | (simp; omega)))) | exact Ev.sr))); (case hc1 => exact Nat.le_refl _))
      exact ⟨by omega, rfl⟩
    rintro k s1 ⟨i, ct, rfl, hk, hf⟩
    by_cases hi : i < c.segs.length
    · have hi2 : (i : Int) < ((rowsA c.segs).length : Int) := by omega
      have hid : i < d.segs.length := by omega
      have hic := hi
      have hS := same_call c.segs[i] d.segs[i] (by have := (hc.2.2.2 _ (List.getElem_mem hi)).1; omega)
      repeat' (first | ((with_reducible refine Ev.br0 ?_); (first | refine Ev.brp ?_ | refine Ev.brn ?_); conv => whnf) | ((with_reducible refine Ev.c0 ?_); first | refine Ev.cp ?_ | refine Ev.cn ?_) | (((with_reducible refine Ev.br_pos hi2 ?_); conv => whnf)) | (with_reducible refine Ev.c_pos hi2 ?_) | ((refine Ev.sw ?_); conv => whnf) | refine Ev.sn ?_ | ((with_reducible refine Ev.chk_k ?_ ?_); rotate_left; exact Ev.bt; conv => whnf) | ((with_reducible (refine Ev.RI.run ?_; constructor)) <;> intro _) | ((refine Ev.sg ?_); conv => whnf) | ((with_reducible refine Ev.sided ?_ ?_); conv => whnf) | ((with_reducible refine Ev.kr (hs := []) (fun Q hQ => ?_)); (simp only [Ev.runE_cons, Ev.runE_nil]); conv => whnf) | (with_reducible refine hQ _ ?_; clear hQ Q) | ((refine Ev.sf ?_); intro F hF; conv => whnf) | (with_reducible refine hF _ ?_; clear hF F) | ((with_reducible refine Ev.go_k (fun c' => ?_)); conv => whnf) | ((with_reducible refine Ev.ca0 ?_); (first | refine Ev.ca (hS) ?_); conv => whnf) | ((with_reducible refine Ev.dr0 ?_); (first | refine Ev.dr 6 [] [0, 1, 2, 3, 4, 5, 6, 7, 8, 9, 10, 11] ?_); intro Q hQ; (simp only [Ev.runE_cons, Ev.runE_nil]); conv => whnf) | ((first | refine Ev.el_map0 ?_ (fun hi => ?_) | refine Ev.el_mapN ?_ (fun hi => ?_)); rotate_left; conv => whnf) | ((with_reducible refine Ev.sd0 ?_); exact Ev.sd) | fail)
      · rename_i heq
        (refine Ev.again (k - 1) _ ?hm2 ?hs2 ?hh2 ?hc2 ⟨i + 1, ?_, rfl, ?hp2⟩; (case hs2 | hh2 => ((repeat' (first | exact trivial | refine And.intro ?_ ?_)) <;> (first | exact Ev.se | (refine Ev.slot_eq rfl ?_; first | (first | (simp; done) | (simp; omega)) | ((first | refine Ev.int_eq ?_ | refine Ev.own_eq ?_ | refine Ev.blk_eq ?_); (first | (simp; done) | (simp; omega)))) | exact Ev.sr))); (case hc2 => exact Nat.le_refl _); (case hm2 => omega))
        exact ⟨by omega, by rw [List.take_succ_eq_append_getElem hic, List.take_succ_eq_append_getElem hid, hf, heq]⟩
      · rename_i hne
        exact ⟨Ev.bool_eq (decide_eq_false (fun h => hne (by simp only [h.2.2]))).symm, rfl⟩
    · have hi2 : ¬ (i : Int) < ((rowsA c.segs).length : Int) := by omega
      repeat' (first | ((with_reducible refine Ev.br0 ?_); (first | refine Ev.brp ?_ | refine Ev.brn ?_); conv => whnf) | ((with_reducible refine Ev.c0 ?_); first | refine Ev.cp ?_ | refine Ev.cn ?_) | (((with_reducible refine Ev.br_neg hi2 ?_); conv => whnf)) | (with_reducible refine Ev.c_neg hi2 ?_) | ((refine Ev.sw ?_); conv => whnf) | refine Ev.sn ?_ | ((with_reducible refine Ev.chk_k ?_ ?_); rotate_left; exact Ev.bt; conv => whnf) | ((with_reducible (refine Ev.RI.run ?_; constructor)) <;> intro _) | ((refine Ev.sg ?_); conv => whnf) | ((with_reducible refine Ev.sided ?_ ?_); conv => whnf) | ((with_reducible refine Ev.kr (hs := []) (fun Q hQ => ?_)); (simp only [Ev.runE_cons, Ev.runE_nil]); conv => whnf) | (with_reducible refine hQ _ ?_; clear hQ Q) | ((refine Ev.sf ?_); intro F hF; conv => whnf) | (with_reducible refine hF _ ?_; clear hF F) | ((with_reducible refine Ev.go_k (fun c' => ?_)); conv => whnf) | ((with_reducible refine Ev.dr0 ?_); (first | refine Ev.dr 6 [] [0, 1, 2, 3, 4, 5, 6, 7, 8, 9, 10, 11] ?_); intro Q hQ; (simp only [Ev.runE_cons, Ev.runE_nil]); conv => whnf) | ((first | refine Ev.el_map0 ?_ (fun hi => ?_) | refine Ev.el_mapN ?_ (fun hi => ?_)); rotate_left; conv => whnf) | ((with_reducible refine Ev.sd0 ?_); exact Ev.sd) | fail)
      rw [List.take_of_length_le (by omega), List.take_of_length_le (by omega)] at hf
      exact ⟨Ev.bool_eq (decide_eq_true ⟨e1, e3, hf⟩).symm, rfl⟩
  · rename_i e1 e2 e3
    exact ⟨Ev.bool_eq (decide_eq_false (fun h => e3 h.2.1)).symm, rfl⟩
  · rename_i e1 e2
    exact ⟨Ev.bool_eq (decide_eq_false (fun h => e2 (by rw [h1, h2, h.2.2]))).symm, rfl⟩
  · rename_i e1
    exact ⟨Ev.bool_eq (decide_eq_false (fun h => e1 h.1)).symm, rfl⟩
def shF : Lg := ⟨⟨#[97]⟩, [0], []⟩
theorem shF_put : fPutE shF = 0 := by decide
theorem shF_enc : encF shF = [1, 97, 1, 0] := by decide
theorem shF_take : fTake [1, 97, 1, 0] = .ok shF := by
  have := fTake_put shF_put [] (by decide)
  rw [shF_enc] at this; exact this
theorem fputA_ok {c : Lg} (hc : LgS c) (hb : totW c.segs ≤ 900000000) (h : fPutE c = 0) : CallW env 40 [lgA c] (fun r hs => r = .tup [.lst 1 (bts (encF c)), .v (.int .i64 0)] ∧ hs = []) := by
  have := fput_call c hc hb
  rw [fPutA_ok h] at this; exact this
theorem shown21_call : CallW env 39 [] (fun r hs => r = .v (.bool true) ∧ hs = []) := by
  have hS : LgS shF := ⟨by decide, by decide, by decide, fun x hx => by cases hx⟩
  have le1 : Le (.agg [.v (.string ⟨#[97]⟩), .lst 1 (ints [0]), .v (.slice none 0 0)]) (lgA shF) := Le.agg3 (Le.refl _) (Le.refl _) (Le.nil 1)
  have h1 := (fputA_ok hS (by decide) shF_put).arg1 le1
  rw [shF_enc] at h1
  have h2 := ftake_call [1, 97, 1, 0]
  have e1 : fTakeC [1, 97, 1, 0] = shF := by unfold fTakeC; rw [shF_take]
  have e2 : fTakeE [1, 97, 1, 0] = 0 := by unfold fTakeE; rw [shF_take]
  rw [e1, e2] at h2
  have h3 := (same16_call shF shF hS).arg2 (Le.refl _) le1
  rw [sameLg_self] at h3
  obtain ⟨X, hX⟩ : ∃ X : List UInt8, X = [1, 97, 1, 0] := ⟨_, rfl⟩
  rw [← hX] at h1
  have he : (⟨X.toArray⟩ : ByteArray) = ⟨#[1, 97, 1, 0]⟩ := by subst hX; rfl
  have hb : [AV.lst 1 (bts [1, 97, 1, 0])] = [AV.lst 1 [[.v (.int .u8 1)], [.v (.int .u8 97)], [.v (.int .u8 1)], [.v (.int .u8 0)]]] := by simp [bts]
  rw [hb] at h2
  have h0 : (0 : Int) = 0 := rfl
  refine Ev.fn [0, 1, 2, 3, 4, 5] 0 [.tmp 0] Tryd.func39 (comp39 _ rfl) ?_
  repeat' (first | (with_reducible refine Ev.br_pos he ?_) | (with_reducible refine Ev.br_pos h0 ?_) | ((refine Ev.sw ?_); conv => whnf) | refine Ev.sn ?_ | ((with_reducible refine Ev.chk_k ?_ ?_); rotate_left; exact Ev.bt; conv => whnf) | ((with_reducible (refine Ev.RI.run ?_; constructor)) <;> intro _) | ((refine Ev.sg ?_); conv => whnf) | ((with_reducible refine Ev.sided ?_ ?_); conv => whnf) | ((with_reducible refine Ev.kr (hs := []) (fun Q hQ => ?_)); (simp only [Ev.runE_cons, Ev.runE_nil]); conv => whnf) | (with_reducible refine hQ _ ?_; clear hQ Q) | ((refine Ev.sf ?_); intro F hF; conv => whnf) | (with_reducible refine hF _ ?_; clear hF F) | ((with_reducible refine Ev.go_k (fun c' => ?_)); conv => whnf) | ((with_reducible refine Ev.ca0 ?_); (first | refine Ev.ca (h1) ?_ | refine Ev.ca (h2) ?_ | refine Ev.ca (h3) ?_); conv => whnf) | ((first | refine Ev.el_map0 ?_ (fun hi => ?_) | refine Ev.el_mapN ?_ (fun hi => ?_)); rotate_left; conv => whnf) | ((with_reducible refine Ev.sd0 ?_); exact Ev.sd) | fail)
  all_goals exact ⟨rfl, rfl⟩
end Go.Proofs.YtadlnaljicikfaaDoor.Abs

namespace Go.Proofs.YtadlnaljicikfaaDoor.Abs
open Go
set_option maxRecDepth 100000
set_option linter.unusedSimpArgs false
set_option linter.unusedVariables false
attribute [local irreducible] Ev.Unr Ev.Go' Ev.bytK Ev.runK Ev.FinL Ev.brC Ev.Side Ev.Wp Ev.Again Ev.To Ev.Fin
open Go.Lib Go.RowKit
theorem fit_segs (t : ByteArray) (l : List (List Sp)) : ∀ x ∈ (fitL' t l).segs, wPutE x = 0 ∧ x.length ≤ 13 ∧ tbs x ≤ 312 := by
  intro x hx
  have hc := fit_count (t.extract 0 (min t.size 20))
  have hs20 : (t.extract 0 (min t.size 20)).size ≤ 20 := by rw [ByteArray.size_extract]; omega
  have hW := chO_chn l (n := countD (fitS (t.extract 0 (min t.size 20))).data.toList) (by omega)
  obtain ⟨y, hy, rfl⟩ := List.mem_map.1 (show x ∈ (chO l (countD (fitS (t.extract 0 (min t.size 20))).data.toList)).map norm from hx)
  obtain ⟨z, m, rfl, m1, m2⟩ := chn_mem hW.1 y hy
  exact fit_norm z (by omega)
theorem rowB_le : ∀ (l : List Int) (was : Int), -1 ≤ was → risesG was l = true → (rowB was l).length ≤ 4 * l.length
  | [], was, _, _ => by simp [rowB]
  | n :: l, was, hw, h => by
    simp only [risesG, Bool.and_eq_true, decide_eq_true_eq] at h
    have h1 := rowB_le l n (by omega) (by simp_all)
    have h2 := (putN_len (n := (n - was - 1).toNat) (by omega)).2
    simp only [rowB, List.length_append, List.length_cons]; omega
theorem encR_small {l : List Int} (h : rises l = true) : (encR l).length ≤ 4 * l.length + 4 := by
  obtain ⟨v1, v2⟩ := rises_len h
  unfold rises at h
  simp only [Bool.and_eq_true, decide_eq_true_eq] at h
  have h1 := rowB_le l (-1) (by omega) h.2
  have h2 := (putN_len (n := l.length) (by omega)).2
  unfold encR; rw [List.length_append]; omega
theorem encT_small {t : ByteArray} (h : t.size ≤ 65536) : (encT t).length ≤ t.size + 4 := by
  have h2 := (putN_len (n := t.size) (by omega)).2
  have hdl : t.data.toList.length = t.size := by rw [Array.length_toList]; rfl
  unfold encT; rw [List.length_append, hdl]; omega
theorem totW_bound {l : List (List Sp)} {b : Nat} (h : ∀ x ∈ l, tbs x + 4 * x.length + 4 ≤ b) : totW l ≤ b * l.length := by
  induction l with
  | nil => simp [totW]
  | cons x l ih =>
    have := ih (fun y hy => h y (by simp [hy]))
    have := h x (by simp)
    rw [totW_cons, List.length_cons, Nat.mul_succ]; omega
theorem fit_put (t : ByteArray) (l : List (List Sp)) : fPutE (fitL' t l) = 0 ∧ totW (fitL' t l).segs ≤ 8000 ∧ sPutE (fitL' t l).base = 0 ∧ (encF (fitL' t l)).length ≤ 20000 := by
  have hs := fit_segs t l
  obtain ⟨f1, f2, f3, f4, f5⟩ := fit_good t l
  generalize fitL' t l = c at *
  obtain ⟨c1, c2, c3, c4, c5⟩ := chE_zero f1
  have hb := totW_bound (b := 368) (fun x hx => by have := hs x hx; omega : ∀ x ∈ c.segs, tbs x + 4 * x.length + 4 ≤ 368)
  have hsp : sPutE c.base = 0 := by unfold sPutE; rw [if_pos c1, if_neg (by omega)]
  have h1 := encT_small (t := c.base) (by omega)
  have h2 := encR_small c3
  have h3 := flatW_le (segPE_of fun x hx => (hs x hx).1)
  have h4 : (encF c).length ≤ 20000 := by
    unfold encF; rw [List.length_append, List.length_append]; omega
  exact ⟨fPutE_of f1 hsp (fun x hx => (hs x hx).1) (by omega), by omega, hsp, h4⟩
end Go.Proofs.YtadlnaljicikfaaDoor.Abs

namespace Go.Proofs.YtadlnaljicikfaaDoor.Abs
open Go
set_option maxRecDepth 100000
set_option linter.unusedSimpArgs false
set_option linter.unusedVariables false
attribute [local irreducible] Ev.Unr Ev.Go' Ev.bytK Ev.runK Ev.FinL Ev.brC Ev.Side Ev.Wp Ev.Again Ev.To Ev.Fin
open Go.Lib Go.RowKit
theorem comp10 : ∀ c, Tryd.f10.body = some c → comp c = (.seq (.reg 0 [I.n 0 5 (.box 71 (.tmp 2)), I.n 1 6 (I.sb false)]) (.seq (.reg 1 [I.n 0 25 (I.c0 39), I.n 1 7 (I.sa 25)]) (.seq (.reg 2 [I.n 0 26 (I.mv 0), I.n 1 27 (I.mv 1), I.n 2 28 (I.c2 23 26 27 9 22), I.n 3 8 (.alloc 27), I.u 4 (I.st 27 8 28)]) (.seq (.reg 3 [I.n 0 29 (I.fa 27 8 0), I.n 1 30 (I.ld 9 29), I.n 2 31 (I.c1 32 30 9), I.n 3 9 (I.sa 31)]) (.seq (.reg 4 [I.n 0 33 (I.fa 27 8 0), I.n 1 34 (I.ld 9 33), I.n 2 35 (I.c1 47 34 9), I.n 3 32 (I.mv 35), I.n 4 36 (I.ex 32 0), I.n 5 37 (I.ex 32 1), I.n 6 10 (I.sa 36), I.n 7 11 (I.sa 37)]) (.seq (.reg 5 [I.n 0 39 (.buildSlice 25 2 #[(0, .const (Value.int .i64 0)), (1, .const (Value.int .i64 1))]), I.n 1 40 (I.c1 48 39 25), I.n 2 38 (I.mv 40), I.n 3 41 (I.ex 38 0), I.n 4 42 (I.ex 38 1), I.n 5 12 (I.sa 41), I.n 6 13 (I.sa 42)]) (.seq (.reg 6 [I.n 0 43 (I.ic 71 5 0), I.n 1 44 (I.ld 5 43), I.n 2 45 (I.cv 5 3 44), I.n 3 46 (I.bc .rem 3 45 100 3), I.n 4 47 (.binOp .add 3 (.const (Value.int .i64 1)) (.tmp 46) 3), I.n 5 14 (I.sa 47)]) (.seq (.reg 7 [I.n 0 48 (I.mv 9), I.n 1 49 (I.mv 14), I.n 2 50 (I.bo .add 3 48 49 3), I.n 3 51 (.build 35 #[(0, .const (Value.int .i64 1)), (1, .tmp 50)]), I.n 4 52 (I.b1 23 51), I.n 5 15 (I.sa 52)]) (.seq (.seq (.reg 8 [I.n 0 53 (I.ic 71 5 1), I.n 1 54 (I.ld 5 53), I.n 2 55 (.binOp .and 5 (.tmp 54) (.const (Value.int .u8 1)) 5), I.n 3 56 (.binOp .eql 5 (.tmp 55) (.const (Value.int .u8 1)) 5), I.n 4 57 (I.mv 56), I.w 5 58 (I.mv 9) 57 true, I.w 6 59 (I.bc .gtr 3 58 0 3) 57 true, I.n 7 60 (I.pc 57 59 false)]) (.cond (.tmp 60) (.reg 9 [I.n 0 61 (I.ic 71 5 0), I.n 1 62 (I.ld 5 61), I.n 2 63 (I.cv 5 3 62), I.n 3 64 (I.mv 9), I.n 4 65 (I.bo .rem 3 63 64 3), I.n 5 66 (.binOp .add 3 (.const (Value.int .i64 1)) (.tmp 65) 3), I.n 6 67 (.build 35 #[(0, .const (Value.int .i64 3)), (1, .tmp 66)]), I.n 7 68 (I.b1 23 67), I.n 8 15 (I.sa 68)]) .skip)) (.seq (.reg 10 [I.n 0 70 (I.mv 15), I.n 1 71 (I.c1 49 70 23), I.n 2 69 (I.mv 71), I.n 3 72 (I.ex 69 0), I.n 4 73 (I.ex 69 1), I.n 5 16 (I.sa 72), I.n 6 17 (I.sa 73)]) (.seq (.reg 11 [I.n 0 74 (I.mv 15), I.n 1 75 (I.ic 23 74 0), I.n 2 76 (I.fa 35 75 1), I.n 3 77 (I.ld 3 76), I.n 4 78 (I.mv 9), I.n 5 79 (I.bo .eql 3 77 78 3), I.n 6 18 (I.sa 79)]) (.seq (.reg 12 [I.n 0 81 (.buildSlice 56 0 #[]), I.n 1 82 (I.mv 10), I.n 2 83 (I.ap 81 82 56 56), I.n 3 84 (I.mv 12), I.n 4 85 (I.ap 83 84 56 56), I.n 5 86 (I.mv 16), I.n 6 87 (I.ap 85 86 56 56), I.n 7 88 (I.c1 43 87 56), I.n 8 80 (I.mv 88), I.n 9 89 (I.ex 80 0), I.n 10 90 (I.ex 80 1), I.n 11 19 (.alloc 27), I.u 12 (I.st 27 19 89), I.n 13 20 (I.sa 90)]) (.seq (.reg 13 [I.n 0 92 (.buildSlice 56 0 #[]), I.n 1 93 (I.mv 10), I.n 2 94 (I.ap 92 93 56 56), I.n 3 95 (I.mv 12), I.n 4 96 (I.ap 94 95 56 56), I.n 5 97 (I.c1 43 96 56), I.n 6 91 (I.mv 97), I.n 7 98 (I.ex 91 0), I.n 8 99 (I.ex 91 1), I.n 9 21 (.alloc 27), I.u 10 (I.st 27 21 98), I.n 11 22 (I.sa 99)]) (.seq (.reg 14 [I.n 0 101 (.buildSlice 56 0 #[]), I.n 1 102 (I.mv 10), I.n 2 103 (I.ap 101 102 56 56), I.n 3 104 (.buildSlice 56 1 #[(0, .const (Value.int .u8 0))]), I.n 4 105 (I.ap 103 104 56 56), I.n 5 106 (I.c1 43 105 56), I.n 6 100 (I.mv 106), I.n 7 107 (I.ex 100 0), I.n 8 108 (I.ex 100 1), I.n 9 23 (.alloc 27), I.u 10 (I.st 27 23 107), I.n 11 24 (I.sa 108)]) (.seq (.reg 15 [I.n 0 109 (I.mv 7), I.n 1 110 (I.mv 109), I.w 2 111 (I.mv 11) 110 true, I.w 3 112 (I.bc .eql 30 111 0 30) 110 true, I.n 4 113 (I.pc 110 112 false), I.n 5 114 (I.mv 113), I.w 6 115 (I.mv 13) 114 true, I.w 7 116 (I.bc .eql 30 115 0 30) 114 true, I.n 8 117 (I.pc 114 116 false), I.n 9 118 (I.mv 117), I.w 10 119 (I.mv 17) 118 true, I.w 11 120 (I.bc .eql 30 119 0 30) 118 true, I.n 12 121 (I.pc 118 120 false), I.n 13 122 (I.mv 121), I.w 14 123 (I.mv 20) 122 true, I.w 15 124 (I.bc .eql 30 123 0 30) 122 true, I.w 16 125 (I.mv 18) 122 true, I.w 17 126 (I.bo .eql 4 124 125 4) 122 true, I.n 18 127 (I.pc 122 126 false), I.n 19 128 (I.mv 127), I.w 20 129 (I.mv 18) 128 true, I.w 21 130 (I.mv 129) 128 true, I.w 22 131 (I.mv 20) 130 false, I.w 23 132 (I.bc .eql 30 131 8 30) 130 false, I.w 24 133 (I.mv 132) 130 false, I.w 25 134 (I.fa 27 19 1) 133 true, I.w 26 135 (I.ld 25 134) 133 true, I.w 27 136 (I.ln 135 25) 133 true, I.w 28 137 (I.bc .eql 3 136 0 3) 133 true, I.w 29 138 (I.pc 133 137 false) 130 false, I.w 30 139 (I.pb 130 true 138) 128 true, I.n 31 140 (I.pc 128 139 false), I.n 32 141 (I.mv 140), I.w 33 142 (I.mv 22) 141 true, I.w 34 143 (I.bc .eql 30 142 7 30) 141 true, I.n 35 144 (I.pc 141 143 false), I.n 36 145 (I.mv 144), I.w 37 146 (I.mv 24) 145 true, I.w 38 147 (I.bc .eql 30 146 8 30) 145 true, I.n 39 148 (I.pc 145 147 false), I.n 40 6 (I.sa 148)]) .ret))))))))))))))) := by
  intro c h
  have : c = Tryd.f10.body.get rfl := by rw [← Option.some_inj, ← h]; rfl
  rw [this]; rfl
theorem fTake_parts {t : ByteArray} {revs : List Int} {segs : List (List Sp)} (h1 : sPutE t = 0) (h2 : rises revs = true) (h3 : ∀ x ∈ segs, wPutE x = 0) (h4 : revs.length = segs.length + 1) (hr : (encT t ++ encR revs ++ segs.flatMap encW).length ≤ 65536) :
    fTake (encT t ++ encR revs ++ segs.flatMap encW) = if chE ⟨t, revs, segs⟩ ≠ 0 then .error 8 else .ok ⟨t, revs, segs⟩ := by
  unfold fTake
  rw [if_neg (by omega)]
  have e1 : encT t ++ encR revs ++ segs.flatMap encW = encT t ++ (encR revs ++ (segs.flatMap encW ++ [])) := by simp [List.append_assoc]
  rw [e1, sTake_put h1]
  simp only [Int.toNat_natCast, List.drop_left]
  rw [rTake_put h2]
  simp only [Int.toNat_natCast, List.drop_left]
  rw [show revs.length - 1 = segs.length by omega, sgTake_put _ _ h3]
  simp only [fTake2]
  rw [if_neg (by simp)]
theorem fTake_two {t : ByteArray} (h1 : sPutE t = 0) (hr : t.size ≤ 60000) : fTake (encT t ++ encR [0, 1]) = .error 7 := by
  have hl := encT_small (t := t) (by omega)
  have h2 : rises [0, 1] = true := by decide
  have hl2 := encR_small h2
  unfold fTake
  rw [if_neg (by rw [List.length_append]; simp at hl2; omega), show encT t ++ encR [0, 1] = encT t ++ (encR [0, 1] ++ []) by simp, sTake_put h1]
  simp only [Int.toNat_natCast, List.drop_left]
  rw [rTake_put h2]
  simp only [Int.toNat_natCast, List.drop_left]
  have hw : wTake [] = .error 7 := by rfl
  have : sgTake ([0, 1] : List Int).length.pred [] = .error 7 := by simp only [List.length_cons, List.length_nil, Nat.pred, sgTake, hw]
  show fTake2 t [0, 1] (sgTake 1 []) = _
  simp only [sgTake, hw, fTake2]
theorem fTake_nil {t : ByteArray} (h1 : sPutE t = 0) (hr : t.size ≤ 60000) : fTake (encT t ++ [0]) = .error 8 := by
  have hl := encT_small (t := t) (by omega)
  unfold fTake
  rw [if_neg (by rw [List.length_append]; simp; omega), sTake_put h1]
  simp only [Int.toNat_natCast, List.drop_left]
  have hw : rTake [0] = .error 8 := by rfl
  rw [hw]
theorem one_may {k D : Int} (hk : k = 1 ∨ k = 3) (hD : 1 ≤ D ∧ D ≤ 1000) : opMayF [⟨k, D, ⟨#[]⟩⟩] = 0 ∧ inW [⟨k, D, ⟨#[]⟩⟩] = D ∧ 0 ≤ outW [⟨k, D, ⟨#[]⟩⟩] ∧ outW [⟨k, D, ⟨#[]⟩⟩] ≤ 1000 ∧ isN [⟨k, D, ⟨#[]⟩⟩] = true := by
  have hs : SpOK ⟨k, D, ⟨#[]⟩⟩ := SpOK.keep hk (by simp only; omega) rfl
  have e1 : inS ⟨k, D, ⟨#[]⟩⟩ = D := by unfold inS inF; simp only; rw [if_pos hk]
  have e2 : 0 ≤ outS ⟨k, D, ⟨#[]⟩⟩ ∧ outS ⟨k, D, ⟨#[]⟩⟩ ≤ D := by
    unfold outS outF; simp only
    rcases hk with rfl | rfl
    · simp; omega
    · simp; omega
  have hi : inW [⟨k, D, ⟨#[]⟩⟩] = D := by rw [inW_eq, sumI_cons, sumI_nil, e1, wrap_id (by omega)]; omega
  have ho : outW [⟨k, D, ⟨#[]⟩⟩] = outS ⟨k, D, ⟨#[]⟩⟩ := by rw [outW_eq, sumI_cons, sumI_nil, wrap_id (by omega)]; omega
  refine ⟨(opMay_iff _).2 ⟨fun s h => by simp at h; rw [h]; exact hs, by omega⟩, hi, by omega, by omega, ?_⟩
  simp only [isN, isNG, emptyS]
  have : decide (D = 0) = false := decide_eq_false (by omega)
  simp [this]
theorem onesp_put {k D : Int} (hk : k = 1 ∨ k = 3) (hD : 1 ≤ D ∧ D ≤ 1000) : wPutE [⟨k, D, ⟨#[]⟩⟩] = 0 := by
  obtain ⟨a, b, c, d, e⟩ := one_may hk hD
  exact wPutE_of a e (by simp) (fun s h => by simp at h; rw [h]; exact Nat.zero_le _)
theorem one_seg {k D : Int} {n : Int} (hk : k = 1 ∨ k = 3) (hD : 1 ≤ D ∧ D ≤ 1000) : segE n [⟨k, D, ⟨#[]⟩⟩] = if D = n then 0 else 5 := by
  obtain ⟨a, b, c, d, e⟩ := one_may hk hD
  unfold segE
  rw [if_neg (by simp [a]), b]
  by_cases h : D = n
  · rw [if_neg (by simp [h]), if_neg (by omega), if_pos e, if_pos h]
  · rw [if_pos h, if_neg h]
theorem chE_one {t : ByteArray} {n : Nat} (h1 : validD t.data.toList = true) (hn : countD t.data.toList = (n : Int)) (h2 : n ≤ 1000) (x : List Sp) : chE ⟨t, [0, 1], [x]⟩ = segE n x := by
  unfold chE
  simp only
  rw [hn, if_neg (by omega), if_neg (by omega), if_neg (by rintro (h | h); exact h (by decide); exact h rfl)]
  simp only [segsE]
  split
  · rename_i h; exact h.symm
  · rfl
theorem odd_take {t : ByteArray} {n : Nat} {k D : Int} (h1 : validD t.data.toList = true) (hn : countD t.data.toList = (n : Int)) (h2 : n ≤ 1000) (hs : t.size ≤ 4000) (hk : k = 1 ∨ k = 3) (hD : 1 ≤ D ∧ D ≤ 1000) :
    fTakeE (encT t ++ encR [0, 1] ++ encW [⟨k, D, ⟨#[]⟩⟩]) = (if D = n then 0 else 8) ∧ (D ≠ n → fTakeC (encT t ++ encR [0, 1] ++ encW [⟨k, D, ⟨#[]⟩⟩]) = lg0) := by
  have hw := onesp_put hk hD
  have hsp : sPutE t = 0 := by unfold sPutE; rw [if_pos h1, if_neg (by omega)]
  have l1 := encT_small (t := t) (by omega)
  have hrs : rises [0, 1] = true := by decide
  have l2 := encR_small hrs
  have l3 := encW_le hw
  have l4 : tbs [⟨k, D, ⟨#[]⟩⟩] = 0 := rfl
  have e : encW [⟨k, D, ⟨#[]⟩⟩] = ([[⟨k, D, ⟨#[]⟩⟩]] : List (List Sp)).flatMap encW := by simp
  have h := fTake_parts (t := t) (revs := [0, 1]) (segs := [[⟨k, D, ⟨#[]⟩⟩]]) hsp hrs (fun x hx => by simp at hx; rw [hx]; exact hw) rfl (by
    rw [← e, List.length_append, List.length_append]; simp at l2 l3; omega)
  rw [← e, chE_one h1 hn h2, one_seg hk hD] at h
  unfold fTakeE fTakeC
  rw [h]
  by_cases hd : D = n
  · rw [if_neg (by simp [hd])]; exact ⟨by simp [hd], fun x => absurd hd x⟩
  · rw [if_pos (by simp [hd])]; exact ⟨by simp [hd], fun _ => rfl⟩
theorem own3 (A B C : List UInt8) : List.take (0 + (bts A).length + (bts B).length + (bts C).length) (List.drop 0 ([] ++ bts A ++ bts B ++ bts C)) = bts (A ++ B ++ C) := by
  rw [List.drop_zero, List.nil_append, ← bts_app, ← bts_app, List.take_of_length_le]
  simp only [bts_len, List.length_append]; omega
theorem own2 (A B : List UInt8) : List.take (0 + (bts A).length + (bts B).length) (List.drop 0 ([] ++ bts A ++ bts B)) = bts (A ++ B) := by
  rw [List.drop_zero, List.nil_append, ← bts_app, List.take_of_length_le]
  simp only [bts_len, List.length_append]; omega
set_option maxHeartbeats 4000000 in
theorem fileOdd_call (t : ByteArray) (l : List (List Sp)) (x0 x1 : Int) (h0 : 0 ≤ x0 ∧ x0 < 256) (h1 : 0 ≤ x1 ∧ x1 < 256) : CallW env 10 [.v (.string t), .lst 1 (rowsA l), .agg [.v (.int .u8 x0), .v (.int .u8 x1)]] (fun r hs => r = .v (.bool true) ∧ hs = []) := by
  have hF := fit16_call t l
  obtain ⟨p1, p2, p3, p4⟩ := fit_put t l
  obtain ⟨f1, f2, f3, f4, f5⟩ := fit_good t l
  have hcount : countD (fitL' t l).base.data.toList ≤ 20 := by
    have hc := fit_count (t.extract 0 (min t.size 20))
    have hs20 : (t.extract 0 (min t.size 20)).size ≤ 20 := by rw [ByteArray.size_extract]; omega
    show countD (fitS (t.extract 0 (min t.size 20))).data.toList ≤ 20; omega
  generalize fitL' t l = c at *
  obtain ⟨c1, c2, c3, c4, c5⟩ := chE_zero f1
  have hC := pcount_call c.base f2.1
  obtain ⟨n, hn⟩ : ∃ n : Nat, countD c.base.data.toList = (n : Int) := ⟨_, countD_pts c1⟩
  rw [hn] at hC hcount
  have hS := sput_call c.base f2.1
  rw [sPutA_ok p3] at hS
  have hrs : rises [0, 1] = true := by decide
  have hR := prow_call [0, 1] (by simp)
  rw [rPutA_ok hrs] at hR
  have hmx : 2000000003 ≤ maxLen := by decide
  have l1 := encT_small (t := c.base) (by omega)
  have l2 := encR_small hrs
  have l2' : (encR [0, 1]).length ≤ 12 := by simpa using l2
  have l0 : [AV.lst 1 (ints [0, 1])] = [AV.lst 1 (List.take 2 (List.drop 0 [[AV.v (.int .i64 0)], [AV.v (.int .i64 1)]]))] := rfl
  rw [l0] at hR
  have hT2 := ftake_call (encT c.base ++ encR [0, 1])
  have hT3 := ftake_call (encT c.base ++ [0])
  rw [show fTakeE (encT c.base ++ encR [0, 1]) = 7 by unfold fTakeE; rw [fTake_two p3 (by omega)], ← own2] at hT2
  rw [show fTakeE (encT c.base ++ [0]) = 8 by unfold fTakeE; rw [fTake_nil p3 (by omega)], ← own2] at hT3
  obtain ⟨D, hD⟩ : ∃ D, IntKind.i64.wrap ((n : Int) + IntKind.i64.wrap (1 + (IntKind.i64.wrap x0).tmod 100)) = D := ⟨_, rfl⟩
  have hDn : (n : Int) < D ∧ D ≤ 1000 := by
    rw [← hD, wrap_id (a := x0) (by omega), Int.tmod_eq_emod_of_nonneg h0.1, wrap_id (a := 1 + x0 % 100) (by omega), wrap_id (by omega)]; omega
  by_cases hb : bitsOf .and .u8 x1 1 = 1 ∧ 0 < (n : Int)
  · obtain ⟨hb1, hb2⟩ := hb
    obtain ⟨G, hG⟩ : ∃ G, IntKind.i64.wrap (1 + (IntKind.i64.wrap x0).tmod (n : Int)) = G := ⟨_, rfl⟩
    have hGn : 1 ≤ G ∧ G ≤ (n : Int) := by
      have m1 := Int.emod_nonneg x0 (b := (n : Int)) (by omega)
      have m2 := Int.emod_lt_of_pos x0 (b := (n : Int)) (by omega)
      rw [← hG, wrap_id (a := x0) (by omega), Int.tmod_eq_emod_of_nonneg h0.1, wrap_id (by omega)]; omega
    have hW := wput_ok (l := [⟨3, G, ⟨#[]⟩⟩]) (fun s h => by simp at h; rw [h]; exact Nat.zero_le _) (by show 0 + 4 * 1 ≤ _; omega) (onesp_put (.inr rfl) (by omega))
    have l3 : (encW [⟨3, G, ⟨#[]⟩⟩]).length ≤ 20 := by have := encW_le (onesp_put (k := 3) (D := G) (.inr rfl) (by omega)); exact Nat.le_trans this (by show 0 + 4 * 1 + 4 ≤ 20; omega)
    obtain ⟨o1, o2⟩ := odd_take (k := 3) (D := G) c1 hn (by omega) f3 (.inr rfl) (by omega)
    have hT := ftake_call (encT c.base ++ encR [0, 1] ++ encW [⟨3, G, ⟨#[]⟩⟩])
    rw [o1, ← own3] at hT
    subst hG
    by_cases hf : IntKind.i64.wrap (1 + (IntKind.i64.wrap x0).tmod (n : Int)) = n
    · rw [if_pos hf] at hT
      refine Ev.fn [0, 1, 2, 5, 6, 7, 8, 9, 10, 11, 12, 13, 14, 15, 16, 17, 18, 19, 20, 22, 24, 60] 0 [.tmp 6] Tryd.func10 (comp10 _ rfl) ?_
      repeat' (first | ((with_reducible refine Ev.br0 ?_); (first | refine Ev.brp ?_ | refine Ev.brn ?_); conv => whnf) | ((with_reducible refine Ev.c0 ?_); first | refine Ev.cp ?_ | refine Ev.cn ?_) | (((with_reducible refine Ev.br_pos hf ?_); conv => whnf)) | (with_reducible refine Ev.c_pos hf ?_) | (((with_reducible refine Ev.br_pos hb1 ?_); conv => whnf)) | (with_reducible refine Ev.c_pos hb1 ?_) | (((with_reducible refine Ev.br_pos hb2 ?_); conv => whnf)) | (with_reducible refine Ev.c_pos hb2 ?_) | ((refine Ev.sw ?_); conv => whnf) | refine Ev.sn ?_ | ((with_reducible refine Ev.chk_k ?_ ?_); rotate_left; exact Ev.bt; conv => whnf) | ((with_reducible (refine Ev.RI.run ?_; constructor)) <;> intro _) | ((refine Ev.sg ?_); conv => whnf) | ((with_reducible refine Ev.sided ?_ ?_); conv => whnf) | ((with_reducible refine Ev.kr (hs := []) (fun Q hQ => ?_)); (simp only [Ev.runE_cons, Ev.runE_nil]); conv => whnf) | (with_reducible refine hQ _ ?_; clear hQ Q) | ((refine Ev.sf ?_); intro F hF; conv => whnf) | (with_reducible refine hF _ ?_; clear hF F) | ((with_reducible refine Ev.go_k (fun c' => ?_)); conv => whnf) | ((with_reducible refine Ev.ca0 ?_); (first | refine Ev.ca (shown21_call) ?_ | refine Ev.ca (hF) ?_ | refine Ev.ca (hC) ?_ | refine Ev.ca (hS) ?_ | refine Ev.ca (hR) ?_ | refine Ev.ca (hW) ?_ | refine Ev.ca (hT) ?_ | refine Ev.ca (hT2) ?_ | refine Ev.ca (hT3) ?_); conv => whnf) | ((first | refine Ev.el_map0 ?_ (fun hi => ?_) | refine Ev.el_mapN ?_ (fun hi => ?_)); rotate_left; conv => whnf) | ((with_reducible refine Ev.sd0 ?_); exact Ev.sd) | fail)
      all_goals first | exact ⟨rfl, rfl⟩ | (exfalso; rename_i hd'; simp [hf] at hd'; done) 
    · rw [if_neg hf, o2 hf] at hT
      refine Ev.fn [0, 1, 2, 5, 6, 7, 8, 9, 10, 11, 12, 13, 14, 15, 16, 17, 18, 19, 20, 22, 24, 60] 0 [.tmp 6] Tryd.func10 (comp10 _ rfl) ?_
      repeat' (first | ((with_reducible refine Ev.br0 ?_); (first | refine Ev.brp ?_ | refine Ev.brn ?_); conv => whnf) | ((with_reducible refine Ev.c0 ?_); first | refine Ev.cp ?_ | refine Ev.cn ?_) | (((with_reducible refine Ev.br_neg hf ?_); conv => whnf)) | (with_reducible refine Ev.c_neg hf ?_) | (((with_reducible refine Ev.br_pos hb1 ?_); conv => whnf)) | (with_reducible refine Ev.c_pos hb1 ?_) | (((with_reducible refine Ev.br_pos hb2 ?_); conv => whnf)) | (with_reducible refine Ev.c_pos hb2 ?_) | ((refine Ev.sw ?_); conv => whnf) | refine Ev.sn ?_ | ((with_reducible refine Ev.chk_k ?_ ?_); rotate_left; exact Ev.bt; conv => whnf) | ((with_reducible (refine Ev.RI.run ?_; constructor)) <;> intro _) | ((refine Ev.sg ?_); conv => whnf) | ((with_reducible refine Ev.sided ?_ ?_); conv => whnf) | ((with_reducible refine Ev.kr (hs := []) (fun Q hQ => ?_)); (simp only [Ev.runE_cons, Ev.runE_nil]); conv => whnf) | (with_reducible refine hQ _ ?_; clear hQ Q) | ((refine Ev.sf ?_); intro F hF; conv => whnf) | (with_reducible refine hF _ ?_; clear hF F) | ((with_reducible refine Ev.go_k (fun c' => ?_)); conv => whnf) | ((with_reducible refine Ev.ca0 ?_); (first | refine Ev.ca (shown21_call) ?_ | refine Ev.ca (hF) ?_ | refine Ev.ca (hC) ?_ | refine Ev.ca (hS) ?_ | refine Ev.ca (hR) ?_ | refine Ev.ca (hW) ?_ | refine Ev.ca (hT) ?_ | refine Ev.ca (hT2) ?_ | refine Ev.ca (hT3) ?_); conv => whnf) | ((first | refine Ev.el_map0 ?_ (fun hi => ?_) | refine Ev.el_mapN ?_ (fun hi => ?_)); rotate_left; conv => whnf) | ((with_reducible refine Ev.sd0 ?_); exact Ev.sd) | fail)
      all_goals first | exact ⟨rfl, rfl⟩ | (exfalso; rename_i hd'; simp [hf] at hd'; done) 
  · have hf : ¬ D = (n : Int) := by omega
    have hW := wput_ok (l := [⟨1, D, ⟨#[]⟩⟩]) (fun s h => by simp at h; rw [h]; exact Nat.zero_le _) (by show 0 + 4 * 1 ≤ _; omega) (onesp_put (.inl rfl) (by omega))
    have l3 : (encW [⟨1, D, ⟨#[]⟩⟩]).length ≤ 20 := by have := encW_le (onesp_put (k := 1) (D := D) (.inl rfl) (by omega)); exact Nat.le_trans this (by show 0 + 4 * 1 + 4 ≤ 20; omega)
    obtain ⟨o1, o2⟩ := odd_take (k := 1) (D := D) c1 hn (by omega) f3 (.inl rfl) (by omega)
    have hT := ftake_call (encT c.base ++ encR [0, 1] ++ encW [⟨1, D, ⟨#[]⟩⟩])
    rw [o1, if_neg hf, o2 hf, ← own3] at hT
    refine Ev.fn [0, 1, 2, 5, 6, 7, 8, 9, 10, 11, 12, 13, 14, 15, 16, 17, 18, 19, 20, 22, 24, 60] 0 [.tmp 6] Tryd.func10 (comp10 _ rfl) ?_
    repeat' (first | ((with_reducible refine Ev.br0 ?_); (first | refine Ev.brp ?_ | refine Ev.brn ?_); conv => whnf) | ((with_reducible refine Ev.c0 ?_); first | refine Ev.cp ?_ | refine Ev.cn ?_) | (conv in IntKind.i64.wrap ((n : Int) + IntKind.i64.wrap (1 + (IntKind.i64.wrap x0).tmod 100)) => rw [hD]) | (((with_reducible refine Ev.br_neg hf ?_); conv => whnf)) | (with_reducible refine Ev.c_neg hf ?_) | ((refine Ev.sw ?_); conv => whnf) | refine Ev.sn ?_ | ((with_reducible refine Ev.chk_k ?_ ?_); rotate_left; exact Ev.bt; conv => whnf) | ((with_reducible (refine Ev.RI.run ?_; constructor)) <;> intro _) | ((refine Ev.sg ?_); conv => whnf) | ((with_reducible refine Ev.sided ?_ ?_); conv => whnf) | ((with_reducible refine Ev.kr (hs := []) (fun Q hQ => ?_)); (simp only [Ev.runE_cons, Ev.runE_nil]); conv => whnf) | (with_reducible refine hQ _ ?_; clear hQ Q) | ((refine Ev.sf ?_); intro F hF; conv => whnf) | (with_reducible refine hF _ ?_; clear hF F) | ((with_reducible refine Ev.go_k (fun c' => ?_)); conv => whnf) | ((with_reducible refine Ev.ca0 ?_); (first | refine Ev.ca (shown21_call) ?_ | refine Ev.ca (hF) ?_ | refine Ev.ca (hC) ?_ | refine Ev.ca (hS) ?_ | refine Ev.ca (hR) ?_ | refine Ev.ca (hW) ?_ | refine Ev.ca (hT) ?_ | refine Ev.ca (hT2) ?_ | refine Ev.ca (hT3) ?_); conv => whnf) | ((first | refine Ev.el_map0 ?_ (fun hi => ?_) | refine Ev.el_mapN ?_ (fun hi => ?_)); rotate_left; conv => whnf) | ((with_reducible refine Ev.sd0 ?_); exact Ev.sd) | fail)
    all_goals first | exact ⟨rfl, rfl⟩ | (exfalso; rename_i hd'; simp [hf] at hd'; done) | exact absurd ⟨by assumption, by assumption⟩ hb
end Go.Proofs.YtadlnaljicikfaaDoor.Abs
