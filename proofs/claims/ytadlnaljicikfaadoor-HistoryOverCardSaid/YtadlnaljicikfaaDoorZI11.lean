/- A part of the proof: a calculus over values, and contracts of functions. No condition. -/
import Derived.Test.YtadlnaljicikfaaDoorZI10
set_option linter.unusedVariables false
set_option linter.unusedSimpArgs false
namespace Go.Proofs.YtadlnaljicikfaaDoor.Abs
open Go
set_option maxRecDepth 100000
attribute [local irreducible] Ev.Unr Ev.Go' Ev.bytK Ev.runK Ev.FinL Ev.brC Ev.Side Ev.Wp Ev.Again Ev.To Ev.Fin
open Go.Lib Go.RowKit
theorem comp166 : ∀ c, Tryd.f166.body = some c → comp c = (.seq (.reg 0 [I.n 0 4 (I.si 0), I.n 1 5 (I.si 0)]) (.seq (.seq (.reg 1 [I.n 0 7 (I.mv 1), I.n 1 8 (I.c1 72 7 23), I.n 2 6 (I.sa 8)]) (.block 0 (.seq (.reg 2 [I.n 0 10 (I.mv 6), I.n 1 11 (I.bc .neq 30 10 0 30), I.n 2 9 (I.sa 11)]) (.cond (.tmp 9) (.seq (.reg 3 [I.n 0 12 (I.mv 6), I.n 1 4 (I.si 0), I.n 2 5 (I.sa 12)]) .ret) (.seq (.reg 4 [I.n 0 14 (I.mv 1), I.n 1 15 (I.c1 74 14 23), I.n 2 16 (I.mv 0), I.n 3 17 (I.bo .neq 3 15 16 3), I.n 4 13 (I.sa 17)]) (.cond (.tmp 13) (.seq (.reg 5 [I.n 0 4 (I.si 0), I.n 1 5 (I.si 5)]) .ret) .skip)))))) (.seq (.reg 6 [I.n 0 18 (I.mv 1), I.n 1 19 (I.c1 73 18 23), I.n 2 4 (I.sa 19), I.n 3 5 (I.si 0)]) .ret))) := by
  intro c h
  have : c = Tryd.f166.body.get rfl := by rw [← Option.some_inj, ← h]; rfl
  rw [this]; rfl
theorem comp165 : ∀ c, Tryd.f165.body = some c → comp c = (.seq (.reg 0 [I.n 0 6 (I.si 0), I.n 1 7 (I.si 0)]) (.seq (.seq (.reg 1 [I.n 0 13 (I.mv 1), I.n 1 14 (I.ln 13 22), I.n 2 15 (.move (.const (Value.int .i64 0)))]) (.block 0 (.loop (.seq (.reg 2 [I.n 0 16 (I.bo .lss 3 15 14 3)]) (.seq (.cond (.tmp 16) .skip (.exit 0)) (.seq (.block 1 (.seq (.reg 3 [I.n 0 17 (I.ia 22 13 15), I.n 1 18 (I.ld 23 17), I.n 2 9 (I.sa 18)]) (.seq (.reg 4 [I.n 0 20 (I.mv 2), I.n 1 21 (I.mv 0), I.n 2 22 (I.mv 9), I.n 3 23 (.call { callee := .value (.tmp 20), args := #[.tmp 21, .tmp 22], argTypes := #[3, 23] }), I.n 4 19 (I.mv 23), I.n 5 24 (I.ex 19 0), I.n 6 25 (I.ex 19 1), I.n 7 10 (I.sa 24), I.n 8 11 (I.sa 25)]) (.seq (.seq (.reg 5 [I.n 0 26 (I.mv 11), I.n 1 27 (I.bc .neq 30 26 0 30)]) (.cond (.tmp 27) (.seq (.reg 6 [I.n 0 12 (I.si 0)]) (.seq (.reg 7 [I.n 0 28 (I.mv 12), I.n 1 29 (I.mv 11), I.n 2 6 (I.sa 28), I.n 3 7 (I.sa 29)]) .ret)) .skip)) (.reg 8 [I.n 0 30 (I.mv 10), I.n 1 0 (I.sa 30)]))))) (.reg 9 [I.n 0 31 (I.bc .add 3 15 1 3), I.n 1 15 (I.mv 31)]))))))) (.seq (.reg 10 [I.n 0 32 (I.mv 0), I.n 1 6 (I.sa 32), I.n 2 7 (I.si 0)]) .ret))) := by
  intro c h
  have : c = Tryd.f165.body.get rfl := by rw [← Option.some_inj, ← h]; rfl
  rw [this]; rfl
theorem comp157 : ∀ c, Tryd.f157.body = some c → comp c = (.seq (.reg 0 [I.n 0 4 (I.si 0), I.n 1 5 (I.si 0)]) (.seq (.seq (.reg 1 [I.n 0 9 (I.mv 0), I.n 1 10 (I.c1 111 9 3), I.n 2 8 (I.mv 10), I.n 3 11 (I.ex 8 0), I.n 4 12 (I.ex 8 1), I.n 5 6 (I.sa 11), I.n 6 7 (I.sa 12)]) (.seq (.reg 2 [I.n 0 13 (I.mv 7), I.n 1 14 (I.bc .neq 30 13 0 30)]) (.cond (.tmp 14) (.seq (.reg 3 [I.n 0 15 (I.mv 7), I.n 1 4 (I.si 0), I.n 2 5 (I.sa 15)]) .ret) .skip))) (.seq (.reg 4 [I.n 0 16 (I.mv 0), I.n 1 17 (I.mv 1), I.n 2 18 (.call { callee := .value (.func 165), args := #[.tmp 16, .tmp 17, .func 166], argTypes := #[3, 22, 184] }), I.n 3 19 (I.ex 18 0), I.n 4 20 (I.ex 18 1), I.n 5 4 (I.sa 19), I.n 6 5 (I.sa 20)]) .ret))) := by
  intro c h
  have : c = Tryd.f157.body.get rfl := by rw [← Option.some_inj, ← h]; rfl
  rw [this]; rfl
def nextA (n : Int) (x : List Sp) : AV := .tup [.v (.int .i64 (sizeG n [x]).1), .v (.int .i64 (sizeG n [x]).2)]
theorem next_call (n : Int) (x : List Sp) (hl : x.length ≤ 1000000000) (hs : Small x) : CallW env 166 [.v (.int .i64 n), .lst 3 (sps x)] (fun r hs => r = nextA n x ∧ hs = []) := by
  have hM := opMay_call x hl hs
  have hI := opIn_call x hl
  have hO := opOut_call x hl hs
  unfold nextA
  simp only [sizeG]
  by_cases h1 : opMayF x = 0
  · rw [h1] at hM
    rw [if_pos h1]
    by_cases h2 : sumW (fun s => inF s.k s.n) x = n
    · rw [if_pos (show inW x = n from h2)]
      refine Ev.fn [0, 1, 4, 5, 6, 9, 13] 0 [.tmp 4, .tmp 5] Tryd.func166 (comp166 _ rfl) ?_
      repeat' (first | ((with_reducible refine Ev.br0 ?_); (first | refine Ev.brp ?_ | refine Ev.brn ?_); conv => whnf) | ((with_reducible refine Ev.c0 ?_); first | refine Ev.cp ?_ | refine Ev.cn ?_) | (with_reducible refine Ev.c_pos h2 ?_) | (with_reducible refine Ev.br_pos h2 ?_) | ((refine Ev.sw ?_); conv => whnf) | refine Ev.sn ?_ | ((with_reducible refine Ev.chk_k ?_ ?_); rotate_left; exact Ev.bt; conv => whnf) | ((with_reducible (refine Ev.RI.run ?_; constructor)) <;> intro _) | ((refine Ev.sg ?_); conv => whnf) | ((with_reducible refine Ev.sided ?_ ?_); conv => whnf) | ((with_reducible refine Ev.kr (hs := []) (fun Q hQ => ?_)); (simp only [Ev.runE_cons, Ev.runE_nil]); conv => whnf) | (with_reducible refine hQ _ ?_; clear hQ Q) | ((refine Ev.sf ?_); intro F hF; conv => whnf) | (with_reducible refine hF _ ?_; clear hF F) | ((with_reducible refine Ev.go_k (fun c' => ?_)); conv => whnf) | ((with_reducible refine Ev.ca0 ?_); (first | refine Ev.ca (hM) ?_ | refine Ev.ca (hI) ?_ | refine Ev.ca (hO) ?_); conv => whnf) | ((first | refine Ev.el_map0 ?_ (fun hi => ?_) | refine Ev.el_mapN ?_ (fun hi => ?_)); rotate_left; conv => whnf) | ((with_reducible refine Ev.sd0 ?_); exact Ev.sd) | fail)
      exact ⟨rfl, rfl⟩
    · rw [if_neg (show ¬ inW x = n from h2)]
      refine Ev.fn [0, 1, 4, 5, 6, 9, 13] 0 [.tmp 4, .tmp 5] Tryd.func166 (comp166 _ rfl) ?_
      repeat' (first | ((with_reducible refine Ev.br0 ?_); (first | refine Ev.brp ?_ | refine Ev.brn ?_); conv => whnf) | ((with_reducible refine Ev.c0 ?_); first | refine Ev.cp ?_ | refine Ev.cn ?_) | (with_reducible refine Ev.c_neg h2 ?_) | (with_reducible refine Ev.br_neg h2 ?_) | ((refine Ev.sw ?_); conv => whnf) | refine Ev.sn ?_ | ((with_reducible refine Ev.chk_k ?_ ?_); rotate_left; exact Ev.bt; conv => whnf) | ((with_reducible (refine Ev.RI.run ?_; constructor)) <;> intro _) | ((refine Ev.sg ?_); conv => whnf) | ((with_reducible refine Ev.sided ?_ ?_); conv => whnf) | ((with_reducible refine Ev.kr (hs := []) (fun Q hQ => ?_)); (simp only [Ev.runE_cons, Ev.runE_nil]); conv => whnf) | (with_reducible refine hQ _ ?_; clear hQ Q) | ((refine Ev.sf ?_); intro F hF; conv => whnf) | (with_reducible refine hF _ ?_; clear hF F) | ((with_reducible refine Ev.go_k (fun c' => ?_)); conv => whnf) | ((with_reducible refine Ev.ca0 ?_); (first | refine Ev.ca (hM) ?_ | refine Ev.ca (hI) ?_ | refine Ev.ca (hO) ?_); conv => whnf) | ((first | refine Ev.el_map0 ?_ (fun hi => ?_) | refine Ev.el_mapN ?_ (fun hi => ?_)); rotate_left; conv => whnf) | ((with_reducible refine Ev.sd0 ?_); exact Ev.sd) | fail)
      exact ⟨rfl, rfl⟩
  · rw [if_neg h1]
    refine Ev.fn [0, 1, 4, 5, 6, 9, 13] 0 [.tmp 4, .tmp 5] Tryd.func166 (comp166 _ rfl) ?_
    repeat' (first | (with_reducible refine Ev.c_neg h1 ?_) | (with_reducible refine Ev.br_neg h1 ?_) | ((with_reducible refine Ev.br0 ?_); (first | refine Ev.brp ?_ | refine Ev.brn ?_); conv => whnf) | ((with_reducible refine Ev.c0 ?_); first | refine Ev.cp ?_ | refine Ev.cn ?_) | ((refine Ev.sw ?_); conv => whnf) | refine Ev.sn ?_ | ((with_reducible refine Ev.chk_k ?_ ?_); rotate_left; exact Ev.bt; conv => whnf) | ((with_reducible (refine Ev.RI.run ?_; constructor)) <;> intro _) | ((refine Ev.sg ?_); conv => whnf) | ((with_reducible refine Ev.sided ?_ ?_); conv => whnf) | ((with_reducible refine Ev.kr (hs := []) (fun Q hQ => ?_)); (simp only [Ev.runE_cons, Ev.runE_nil]); conv => whnf) | (with_reducible refine hQ _ ?_; clear hQ Q) | ((refine Ev.sf ?_); intro F hF; conv => whnf) | (with_reducible refine hF _ ?_; clear hF F) | ((with_reducible refine Ev.go_k (fun c' => ?_)); conv => whnf) | ((with_reducible refine Ev.ca0 ?_); (first | refine Ev.ca (hM) ?_ | refine Ev.ca (hI) ?_ | refine Ev.ca (hO) ?_); conv => whnf) | ((first | refine Ev.el_map0 ?_ (fun hi => ?_) | refine Ev.el_mapN ?_ (fun hi => ?_)); rotate_left; conv => whnf) | ((with_reducible refine Ev.sd0 ?_); exact Ev.sd) | fail)
    exact ⟨rfl, rfl⟩
theorem sizeG_cons (n : Int) (x : List Sp) (L : List (List Sp)) : sizeG n (x :: L) = if (sizeG n [x]).2 = 0 then sizeG (sizeG n [x]).1 L else (0, (sizeG n [x]).2) := by
  by_cases h1 : opMayF x = 0
  · by_cases h2 : inW x = n
    · simp [sizeG, h1, h2]
    · simp [sizeG, h1, h2]
  · simp [sizeG, h1]
theorem foldI_call (L : List (List Sp)) (n : Int) (hL : L.length ≤ 10000000) (hb : ∀ x ∈ L, x.length ≤ 1000000000 ∧ Small x) :
    CallW env 165 [.v (.int .i64 n), .lst 1 (rowsA L), .clo (.func 166) [] []] (fun r hs => r = sizeA n L ∧ hs = []) := by
  have hrl := rowsA_len L
  refine Ev.fn [0, 1, 2, 6, 7, 9, 10, 11, 12, 13, 14, 15, 16, 27] 0 [.tmp 6, .tmp 7] Tryd.func165 (comp165 _ rfl) ?_
  repeat' (first | ((refine Ev.sw ?_); conv => whnf) | refine Ev.sn ?_ | ((with_reducible refine Ev.chk_k ?_ ?_); rotate_left; exact Ev.bt; conv => whnf) | ((with_reducible (refine Ev.RI.run ?_; constructor)) <;> intro _) | ((refine Ev.sg ?_); conv => whnf) | ((with_reducible refine Ev.sided ?_ ?_); conv => whnf) | ((with_reducible refine Ev.kr (hs := []) (fun Q hQ => ?_)); (simp only [Ev.runE_cons, Ev.runE_nil]); conv => whnf) | (with_reducible refine hQ _ ?_; clear hQ Q) | ((refine Ev.sf ?_); intro F hF; conv => whnf) | (with_reducible refine hF _ ?_; clear hF F) | ((with_reducible refine Ev.go_k (fun c' => ?_)); conv => whnf) | ((first | refine Ev.el_map0 ?_ (fun hi => ?_) | refine Ev.el_mapN ?_ (fun hi => ?_)); rotate_left; conv => whnf) | ((with_reducible refine Ev.sd0 ?_); exact Ev.sd) | fail)
  refine Ev.loop (fun k s => ∃ (i c : Nat) (m : Int), s = ⟨[(0, .v (.int .i64 m)), (2, .clo (.func 166) [] []), (13, .lst 1 (rowsA L)), (14, .v (.int .i64 L.length)), (15, .v (.int .i64 i))], [], c⟩ ∧ k + i = L.length ∧ sizeG m (L.drop i) = sizeG n L) ?_ ?_
  · (refine Ev.to _ ?hs1 ?hh1 ?hc1 ⟨L.length, 0, ?_, n, rfl, ?hp1⟩; (case hs1 | hh1 => ((repeat' (first | exact trivial | refine And.intro ?_ ?_)) <;> (first | exact Ev.se | (refine Ev.slot_eq rfl ?_; first | (first | rfl | (simp; done)) | ((first | refine Ev.int_eq ?_ | refine Ev.own_eq ?_ | refine Ev.blk_eq ?_); (first | rfl | (simp; done)))) | exact Ev.sr))); (case hc1 => exact Nat.le_refl _))
    exact ⟨by omega, rfl⟩
  rintro k s1 ⟨i, c, m, rfl, hk, hf⟩
  by_cases hi : i < L.length
  · have hii : (i : Int) < (L.length : Int) := by omega
    obtain ⟨k', rfl⟩ : ∃ k', k = k' + 1 := ⟨k - 1, by omega⟩
    rw [List.drop_eq_getElem_cons hi, sizeG_cons] at hf
    obtain ⟨b1, b2⟩ := hb L[i] (List.getElem_mem hi)
    have hC := next_call m L[i] b1 b2
    unfold nextA at hC
    generalize sizeG m [L[i]] = G at *
    by_cases he : G.2 = 0
    · rw [he] at hC
      rw [if_pos he] at hf
      repeat' (first | ((with_reducible refine Ev.br0 ?_); (first | refine Ev.brp ?_ | refine Ev.brn ?_); conv => whnf) | ((with_reducible refine Ev.c0 ?_); first | refine Ev.cp ?_ | refine Ev.cn ?_) | (with_reducible refine Ev.c_pos hii ?_) | (with_reducible refine Ev.br_pos hii ?_) | ((refine Ev.sw ?_); conv => whnf) | refine Ev.sn ?_ | ((with_reducible refine Ev.chk_k ?_ ?_); rotate_left; exact Ev.bt; conv => whnf) | ((with_reducible (refine Ev.RI.run ?_; constructor)) <;> intro _) | ((refine Ev.sg ?_); conv => whnf) | ((with_reducible refine Ev.sided ?_ ?_); conv => whnf) | ((with_reducible refine Ev.kr (hs := []) (fun Q hQ => ?_)); (simp only [Ev.runE_cons, Ev.runE_nil]); conv => whnf) | (with_reducible refine hQ _ ?_; clear hQ Q) | ((refine Ev.sf ?_); intro F hF; conv => whnf) | (with_reducible refine hF _ ?_; clear hF F) | ((with_reducible refine Ev.go_k (fun c' => ?_)); conv => whnf) | ((with_reducible refine Ev.ca0 ?_); (first | refine Ev.ca (hC) ?_); conv => whnf) | ((first | refine Ev.el_map0 ?_ (fun hi => ?_) | refine Ev.el_mapN ?_ (fun hi => ?_)); rotate_left; conv => whnf) | ((with_reducible refine Ev.sd0 ?_); exact Ev.sd) | fail)
      (refine Ev.again (k') _ ?hm2 ?hs2 ?hh2 ?hc2 ⟨i + 1, ?_, G.1, rfl, ?hp2⟩; (case hs2 | hh2 => ((repeat' (first | exact trivial | refine And.intro ?_ ?_)) <;> (first | exact Ev.se | (refine Ev.slot_eq rfl ?_; first | (first | exact wrap_succ (by omega) | (simp; done) | rfl) | ((first | refine Ev.int_eq ?_ | refine Ev.own_eq ?_ | refine Ev.blk_eq ?_); (first | exact wrap_succ (by omega) | (simp; done) | rfl))) | exact Ev.sr))); (case hc2 => exact Nat.le_refl _); (case hm2 => omega))
      exact ⟨by omega, hf⟩
    · rw [if_neg he] at hf
      repeat' (first | (with_reducible refine Ev.c_neg he ?_) | (with_reducible refine Ev.br_neg he ?_) | (with_reducible refine Ev.c_pos hii ?_) | (with_reducible refine Ev.br_pos hii ?_) | ((with_reducible refine Ev.br0 ?_); (first | refine Ev.brp ?_ | refine Ev.brn ?_); conv => whnf) | ((with_reducible refine Ev.c0 ?_); first | refine Ev.cp ?_ | refine Ev.cn ?_) | ((refine Ev.sw ?_); conv => whnf) | refine Ev.sn ?_ | ((with_reducible refine Ev.chk_k ?_ ?_); rotate_left; exact Ev.bt; conv => whnf) | ((with_reducible (refine Ev.RI.run ?_; constructor)) <;> intro _) | ((refine Ev.sg ?_); conv => whnf) | ((with_reducible refine Ev.sided ?_ ?_); conv => whnf) | ((with_reducible refine Ev.kr (hs := []) (fun Q hQ => ?_)); (simp only [Ev.runE_cons, Ev.runE_nil]); conv => whnf) | (with_reducible refine hQ _ ?_; clear hQ Q) | ((refine Ev.sf ?_); intro F hF; conv => whnf) | (with_reducible refine hF _ ?_; clear hF F) | ((with_reducible refine Ev.go_k (fun c' => ?_)); conv => whnf) | ((with_reducible refine Ev.ca0 ?_); (first | refine Ev.ca (hC) ?_); conv => whnf) | ((first | refine Ev.el_map0 ?_ (fun hi => ?_) | refine Ev.el_mapN ?_ (fun hi => ?_)); rotate_left; conv => whnf) | ((with_reducible refine Ev.sd0 ?_); exact Ev.sd) | fail)
      exact ⟨by unfold sizeA; rw [← hf]; rfl, rfl⟩
  · have hii : ¬ (i : Int) < (L.length : Int) := by omega
    rw [List.drop_of_length_le (by omega)] at hf
    repeat' (first | (with_reducible refine Ev.c_neg hii ?_) | (with_reducible refine Ev.br_neg hii ?_) | ((with_reducible refine Ev.br0 ?_); (first | refine Ev.brp ?_ | refine Ev.brn ?_); conv => whnf) | ((with_reducible refine Ev.c0 ?_); first | refine Ev.cp ?_ | refine Ev.cn ?_) | ((refine Ev.sw ?_); conv => whnf) | refine Ev.sn ?_ | ((with_reducible refine Ev.chk_k ?_ ?_); rotate_left; exact Ev.bt; conv => whnf) | ((with_reducible (refine Ev.RI.run ?_; constructor)) <;> intro _) | ((refine Ev.sg ?_); conv => whnf) | ((with_reducible refine Ev.sided ?_ ?_); conv => whnf) | ((with_reducible refine Ev.kr (hs := []) (fun Q hQ => ?_)); (simp only [Ev.runE_cons, Ev.runE_nil]); conv => whnf) | (with_reducible refine hQ _ ?_; clear hQ Q) | ((refine Ev.sf ?_); intro F hF; conv => whnf) | (with_reducible refine hF _ ?_; clear hF F) | ((with_reducible refine Ev.go_k (fun c' => ?_)); conv => whnf) | ((first | refine Ev.el_map0 ?_ (fun hi => ?_) | refine Ev.el_mapN ?_ (fun hi => ?_)); rotate_left; conv => whnf) | ((with_reducible refine Ev.sd0 ?_); exact Ev.sd) | fail)
    exact ⟨by unfold sizeA; rw [← hf]; rfl, rfl⟩
theorem fsizes_call (n : Int) (hn : 0 ≤ n ∧ n ≤ 1048576) (L : List (List Sp)) (hb : ∀ x ∈ L, x.length ≤ 1000000000 ∧ Small x) (hL : L.length ≤ 10000000) :
    CallW env 157 [.v (.int .i64 n), .lst 1 (rowsA L)] (fun r hs => r = sizeA n L ∧ hs = []) := by
  have hK := keepL_call n hn
  have hF := foldI_call L n hL hb
  unfold sizeA at hF ⊢
  refine Ev.fn [0, 1, 4, 5, 7, 14] 0 [.tmp 4, .tmp 5] Tryd.func157 (comp157 _ rfl) ?_
  repeat' (first | ((with_reducible refine Ev.br0 ?_); (first | refine Ev.brp ?_ | refine Ev.brn ?_); conv => whnf) | ((with_reducible refine Ev.c0 ?_); first | refine Ev.cp ?_ | refine Ev.cn ?_) | ((refine Ev.sw ?_); conv => whnf) | refine Ev.sn ?_ | ((with_reducible refine Ev.chk_k ?_ ?_); rotate_left; exact Ev.bt; conv => whnf) | ((with_reducible (refine Ev.RI.run ?_; constructor)) <;> intro _) | ((refine Ev.sg ?_); conv => whnf) | ((with_reducible refine Ev.sided ?_ ?_); conv => whnf) | ((with_reducible refine Ev.kr (hs := []) (fun Q hQ => ?_)); (simp only [Ev.runE_cons, Ev.runE_nil]); conv => whnf) | (with_reducible refine hQ _ ?_; clear hQ Q) | ((refine Ev.sf ?_); intro F hF; conv => whnf) | (with_reducible refine hF _ ?_; clear hF F) | ((with_reducible refine Ev.go_k (fun c' => ?_)); conv => whnf) | ((with_reducible refine Ev.ca0 ?_); (first | refine Ev.ca (hK) ?_ | refine Ev.ca (hF) ?_); conv => whnf) | ((first | refine Ev.el_map0 ?_ (fun hi => ?_) | refine Ev.el_mapN ?_ (fun hi => ?_)); rotate_left; conv => whnf) | ((with_reducible refine Ev.sd0 ?_); exact Ev.sd) | fail)
  exact ⟨rfl, rfl⟩
theorem comp116 : ∀ c, Tryd.f116.body = some c → comp c = (.seq (.reg 0 [I.n 0 4 (I.si 0)]) (.seq (.seq (.reg 1 [I.n 0 8 (I.mv 0), I.n 1 9 (I.c1 72 8 23), I.n 2 5 (I.sa 9)]) (.seq (.reg 2 [I.n 0 10 (I.mv 5), I.n 1 11 (I.bc .neq 30 10 0 30)]) (.cond (.tmp 11) (.seq (.reg 3 [I.n 0 12 (I.mv 5), I.n 1 4 (I.sa 12)]) .ret) .skip))) (.seq (.reg 4 [I.n 0 14 (I.mv 0), I.n 1 15 (I.c1 74 14 23), I.n 2 16 (I.mv 1), I.n 3 17 (I.c2 157 15 16 3 22), I.n 4 13 (I.mv 17), I.n 5 18 (I.ex 13 0), I.n 6 19 (I.ex 13 1), I.n 7 6 (I.sa 18), I.n 8 7 (I.sa 19)]) (.seq (.reg 5 [I.n 0 20 (I.mv 7), I.n 1 4 (I.sa 20)]) .ret)))) := by
  intro c h
  have : c = Tryd.f116.body.get rfl := by rw [← Option.some_inj, ← h]; rfl
  rw [this]; rfl
def tmE (a : List Sp) (L : List (List Sp)) : Int := if opMayF a = 0 then (sizeG (inW a) L).2 else opMayF a
theorem tmay_call (a : List Sp) (L : List (List Sp)) (la : a.length ≤ 1000000000) (sa : Small a) (hb : ∀ x ∈ L, x.length ≤ 1000000000 ∧ Small x) (hL : L.length ≤ 10000000) :
    CallW env 116 [.lst 3 (sps a), .lst 1 (rowsA L)] (fun r hs => r = .v (.int .i64 (tmE a L)) ∧ hs = []) := by
  have hM := opMay_call a la sa
  unfold tmE
  by_cases h1 : opMayF a = 0
  · rw [if_pos h1]
    rw [h1] at hM
    obtain ⟨o1, o2⟩ := OpS.of h1 la
    have hI := opIn_call a la
    have hn : 0 ≤ inW a ∧ inW a ≤ 1048576 := by
      have := sumI_bound inS 1048576 a (fun s hs => (o1.all s hs).inS)
      have := o1.bnd
      omega
    have hZ := fsizes_call (inW a) hn L hb hL
    unfold sizeA at hZ
    refine Ev.fn [0, 1, 4, 5, 7, 11] 0 [.tmp 4] Tryd.func116 (comp116 _ rfl) ?_
    repeat' (first | ((with_reducible refine Ev.br0 ?_); (first | refine Ev.brp ?_ | refine Ev.brn ?_); conv => whnf) | ((with_reducible refine Ev.c0 ?_); first | refine Ev.cp ?_ | refine Ev.cn ?_) | ((refine Ev.sw ?_); conv => whnf) | refine Ev.sn ?_ | ((with_reducible refine Ev.chk_k ?_ ?_); rotate_left; exact Ev.bt; conv => whnf) | ((with_reducible (refine Ev.RI.run ?_; constructor)) <;> intro _) | ((refine Ev.sg ?_); conv => whnf) | ((with_reducible refine Ev.sided ?_ ?_); conv => whnf) | ((with_reducible refine Ev.kr (hs := []) (fun Q hQ => ?_)); (simp only [Ev.runE_cons, Ev.runE_nil]); conv => whnf) | (with_reducible refine hQ _ ?_; clear hQ Q) | ((refine Ev.sf ?_); intro F hF; conv => whnf) | (with_reducible refine hF _ ?_; clear hF F) | ((with_reducible refine Ev.go_k (fun c' => ?_)); conv => whnf) | ((with_reducible refine Ev.ca0 ?_); (first | refine Ev.ca (hM) ?_ | refine Ev.ca (hI) ?_ | refine Ev.ca (hZ) ?_); conv => whnf) | ((first | refine Ev.el_map0 ?_ (fun hi => ?_) | refine Ev.el_mapN ?_ (fun hi => ?_)); rotate_left; conv => whnf) | ((with_reducible refine Ev.sd0 ?_); exact Ev.sd) | fail)
    exact ⟨rfl, rfl⟩
  · rw [if_neg h1]
    refine Ev.fn [0, 1, 4, 5, 7, 11] 0 [.tmp 4] Tryd.func116 (comp116 _ rfl) ?_
    repeat' (first | (with_reducible refine Ev.c_neg h1 ?_) | (with_reducible refine Ev.br_neg h1 ?_) | ((with_reducible refine Ev.br0 ?_); (first | refine Ev.brp ?_ | refine Ev.brn ?_); conv => whnf) | ((with_reducible refine Ev.c0 ?_); first | refine Ev.cp ?_ | refine Ev.cn ?_) | ((refine Ev.sw ?_); conv => whnf) | refine Ev.sn ?_ | ((with_reducible refine Ev.chk_k ?_ ?_); rotate_left; exact Ev.bt; conv => whnf) | ((with_reducible (refine Ev.RI.run ?_; constructor)) <;> intro _) | ((refine Ev.sg ?_); conv => whnf) | ((with_reducible refine Ev.sided ?_ ?_); conv => whnf) | ((with_reducible refine Ev.kr (hs := []) (fun Q hQ => ?_)); (simp only [Ev.runE_cons, Ev.runE_nil]); conv => whnf) | (with_reducible refine hQ _ ?_; clear hQ Q) | ((refine Ev.sf ?_); intro F hF; conv => whnf) | (with_reducible refine hF _ ?_; clear hF F) | ((with_reducible refine Ev.go_k (fun c' => ?_)); conv => whnf) | ((with_reducible refine Ev.ca0 ?_); (first | refine Ev.ca (hM) ?_); conv => whnf) | ((first | refine Ev.el_map0 ?_ (fun hi => ?_) | refine Ev.el_mapN ?_ (fun hi => ?_)); rotate_left; conv => whnf) | ((with_reducible refine Ev.sd0 ?_); exact Ev.sd) | fail)
    exact ⟨rfl, rfl⟩
theorem comp68 : ∀ c, Tryd.f68.body = some c → comp c = (.seq (.reg 0 [I.n 0 4 I.sn, I.n 1 5 (I.si 0)]) (.seq (.seq (.reg 1 [I.n 0 11 (I.mv 0), I.n 1 12 (I.mv 1), I.n 2 13 (I.c2 116 11 12 23 22), I.n 3 6 (I.sa 13)]) (.seq (.reg 2 [I.n 0 14 (I.mv 6), I.n 1 15 (I.bc .neq 30 14 0 30)]) (.cond (.tmp 15) (.seq (.reg 3 [I.n 0 16 (I.mv 6), I.n 1 4 I.sn, I.n 2 5 (I.sa 16)]) .ret) .skip))) (.seq (.reg 4 [I.n 0 17 (I.mv 0), I.n 1 18 (I.c1 35 17 23), I.n 2 7 (I.sa 18)]) (.seq (.seq (.reg 5 [I.n 0 19 (I.mv 1), I.n 1 20 (I.ln 19 22), I.n 2 21 (.move (.const (Value.int .i64 0)))]) (.block 0 (.loop (.seq (.reg 6 [I.n 0 22 (I.bo .lss 3 21 20 3)]) (.seq (.cond (.tmp 22) .skip (.exit 0)) (.seq (.block 1 (.seq (.reg 7 [I.n 0 23 (I.mv 21), I.n 1 8 (I.sa 23)]) (.seq (.reg 8 [I.n 0 24 (I.mv 1), I.n 1 25 (I.mv 8), I.n 2 26 (I.mv 8), I.n 3 27 (I.bc .add 3 26 1 3), I.n 4 28 (I.mv 8), I.n 5 29 (I.bc .add 3 28 1 3), I.n 6 30 (.slice 22 (.tmp 24) (some (.tmp 25)) (some (.tmp 27)) (some (.tmp 29))), I.n 7 31 (I.ln 30 22), I.n 8 32 (.move (.const (Value.int .i64 0)))]) (.block 2 (.loop (.seq (.reg 9 [I.n 0 33 (I.bo .lss 3 32 31 3)]) (.seq (.cond (.tmp 33) .skip (.exit 2)) (.seq (.block 3 (.seq (.reg 10 [I.n 0 34 (I.ia 22 30 32), I.n 1 35 (I.ld 23 34), I.n 2 10 (I.sa 35)]) (.reg 11 [I.n 0 37 (I.mv 7), I.n 1 38 (I.mv 10), I.n 2 39 (I.c2 36 37 38 23 23), I.n 3 36 (I.mv 39), I.n 4 40 (I.ex 36 0), I.n 5 41 (I.ex 36 1), I.n 6 7 (I.sa 40)]))) (.reg 12 [I.n 0 42 (I.bc .add 3 32 1 3), I.n 1 32 (I.mv 42)]))))))))) (.reg 13 [I.n 0 43 (I.bc .add 3 21 1 3), I.n 1 21 (I.mv 43)]))))))) (.seq (.reg 14 [I.n 0 44 (I.mv 7), I.n 1 4 (I.sa 44), I.n 2 5 (I.si 0)]) .ret))))) := by
  intro c h
  have : c = Tryd.f68.body.get rfl := by rw [← Option.some_inj, ← h]; rfl
  rw [this]; rfl
def thrO : List Sp → List (List Sp) → List Sp
  | x, [] => x
  | x, s :: L => thrO (ovrO x s) L
def thrA (a : List Sp) (L : List (List Sp)) : AV := .tup [if tmE a L = 0 then .lst 3 (sps (thrO (norm a) L)) else nilA, .v (.int .i64 (tmE a L))]
theorem size_ok {n : Int} {s : List Sp} {L : List (List Sp)} (h : (sizeG n (s :: L)).2 = 0) : opMayF s = 0 ∧ inW s = n ∧ (sizeG (outW s) L).2 = 0 := by
  simp only [sizeG] at h
  by_cases h1 : opMayF s = 0
  · rw [if_pos h1] at h
    by_cases h2 : inW s = n
    · rw [if_pos h2] at h; exact ⟨h1, h2, h⟩
    · rw [if_neg h2] at h; simp at h
  · rw [if_neg h1] at h; exact absurd h h1
theorem ovrO_may {a b : List Sp} (h : ovrE a b = 0) (la : a.length ≤ 10000000) (lb : b.length ≤ 10000000) (hb : sumI outS b ≤ 1048576) :
    opMayF (ovrO a b) = 0 ∧ inW (ovrO a b) = outW b ∧ (ovrO a b).length ≤ a.length + b.length ∧ tbs (ovrO a b) ≤ tbs a := by
  obtain ⟨h1, h2, h3⟩ := ovrE_ok h
  have oa := (OpS.of h1 (by omega)).1
  have ob := (OpS.of h2 (by omega)).1
  have hco := ovrO_all oa ob (ovr_in h1 h2 la lb h3) hb
  have g4 := hco.2.2.2.2.2.2.2.2
  obtain ⟨g1, g2, g3, _⟩ := hco
  obtain ⟨m1, m2⟩ := g1.ops.may (by omega)
  have eb := outW_eq b
  have fb : 0 ≤ sumI outS b := by have := mks_size ob.all; omega
  rw [wrap_id (by omega)] at eb
  exact ⟨m1, by omega, g4⟩
structure TI (a : List Sp) (L : List (List Sp)) (i : Nat) (x : List Sp) : Prop where
  may : opMayF x = 0
  fit : (sizeG (inW x) (L.drop i)).2 = 0
  eq : thrO x (L.drop i) = thrO (norm a) L
  len : x.length + lenS (L.drop i) ≤ 9999999
  tb : tbs x ≤ 100000000
theorem TI.next {a : List Sp} {L : List (List Sp)} {i : Nat} {x : List Sp} (h : TI a L i x) (hi : i < L.length) (ho : ∀ s ∈ L, opMayF s = 0 → sumI outS s ≤ 1048576) : ovrE x L[i] = 0 ∧ L[i].length ≤ 9999999 ∧ TI a L (i + 1) (ovrO x L[i]) := by
  have hf := h.fit
  have he := h.eq
  have hl := h.len
  have hm := h.may
  rw [List.drop_eq_getElem_cons hi] at hf he hl
  obtain ⟨l1, l2⟩ := lenS_cons L[i] (L.drop (i + 1))
  rw [l1] at hl
  obtain ⟨f1, f2, f3⟩ := size_ok hf
  have e0 : ovrE x L[i] = 0 := by unfold ovrE; rw [if_neg (by simpa using hm), if_neg (by simpa using f1), if_neg (by simpa using f2.symm)]
  obtain ⟨m1, m2, m3, m4⟩ := ovrO_may e0 (by omega) (by omega) (ho _ (List.getElem_mem hi) f1)
  exact ⟨e0, by omega, m1, by rw [m2]; exact f3, he, by omega, by have := h.tb; omega⟩
theorem TI.first {a : List Sp} {L : List (List Sp)} (h : tmE a L = 0) (hl : a.length + lenS L ≤ 9999999) (hb : tbs a ≤ 100000000) : TI a L 0 (norm a) := by
  unfold tmE at h
  by_cases h1 : opMayF a = 0
  · rw [if_pos h1] at h
    obtain ⟨o1, o2⟩ := OpS.of h1 (by omega)
    obtain ⟨n1, _, _, n4, _, n6, n7, _⟩ := o1.norm
    obtain ⟨m1, m2⟩ := n1.may (by omega)
    exact ⟨m1, by rw [m2, n4, ← o2]; exact h, rfl, by rw [List.drop_zero]; omega, by omega⟩
  · rw [if_neg h1] at h; exact absurd h h1
theorem lenS_mem {x : List Sp} {L : List (List Sp)} (h : x ∈ L) : x.length ≤ lenS L := by
  induction L with
  | nil => simp at h
  | cons y L ih =>
    rw [(lenS_cons y L).1]
    rcases List.mem_cons.1 h with rfl | h
    · omega
    · have := ih h; omega
theorem el_one {es : List (List AV)} {x : List AV} {F : List AV → Prop} (h : es = [x]) (k : F x) : Ev.elK es (Int.toNat 0) F := by
  subst h; exact k
theorem thr_call (a : List Sp) (L : List (List Sp)) (hl : a.length + lenS L ≤ 9999999) (ha : tbs a ≤ 100000000) (hb : ∀ x ∈ L, tbs x ≤ 100000000) (hL : L.length ≤ 10000000) (ho : ∀ s ∈ L, opMayF s = 0 → sumI outS s ≤ 1048576) :
    CallW env 68 [.lst 3 (sps a), .lst 1 (rowsA L)] (fun r hs => r = thrA a L ∧ hs = []) := by
  have hrl := rowsA_len L
  have hxl : ∀ x ∈ L, x.length ≤ 1000000000 ∧ Small x := fun x hx => ⟨by have := lenS_mem hx; omega, tbs_small (by have := hb x hx; omega)⟩
  have hM := tmay_call a L (by omega) (tbs_small (by omega)) hxl hL
  unfold thrA
  by_cases h0 : tmE a L = 0
  · rw [if_pos h0, h0]
    rw [h0] at hM
    have hN := nof_call a (by omega) (by omega)
    refine Ev.fn [0, 1, 4, 5, 6, 7, 8, 10, 15, 20, 21, 22, 30, 31, 32, 33] 0 [.tmp 4, .tmp 5] Tryd.func68 (comp68 _ rfl) ?_
    repeat' (first | ((with_reducible refine Ev.br0 ?_); (first | refine Ev.brp ?_ | refine Ev.brn ?_); conv => whnf) | ((with_reducible refine Ev.c0 ?_); first | refine Ev.cp ?_ | refine Ev.cn ?_) | ((refine Ev.sw ?_); conv => whnf) | refine Ev.sn ?_ | ((with_reducible refine Ev.chk_k ?_ ?_); rotate_left; exact Ev.bt; conv => whnf) | ((with_reducible (refine Ev.RI.run ?_; constructor)) <;> intro _) | ((refine Ev.sg ?_); conv => whnf) | ((with_reducible refine Ev.sided ?_ ?_); conv => whnf) | ((with_reducible refine Ev.kr (hs := []) (fun Q hQ => ?_)); (simp only [Ev.runE_cons, Ev.runE_nil]); conv => whnf) | (with_reducible refine hQ _ ?_; clear hQ Q) | ((refine Ev.sf ?_); intro F hF; conv => whnf) | (with_reducible refine hF _ ?_; clear hF F) | ((with_reducible refine Ev.go_k (fun c' => ?_)); conv => whnf) | ((with_reducible refine Ev.ca0 ?_); (first | refine Ev.ca (hM) ?_ | refine Ev.ca (hN) ?_); conv => whnf) | ((first | refine Ev.el_map0 ?_ (fun hi => ?_) | refine Ev.el_mapN ?_ (fun hi => ?_)); rotate_left; conv => whnf) | ((with_reducible refine Ev.sd0 ?_); exact Ev.sd) | fail)
    refine Ev.loop (fun k s => ∃ (i c : Nat) (x : List Sp), s = ⟨[(1, .lst 1 (rowsA L)), (7, .lst 3 (sps x)), (20, .v (.int .i64 L.length)), (21, .v (.int .i64 i))], [], c⟩ ∧ k + i = L.length ∧ TI a L i x) ?_ ?_
    · (refine Ev.to _ ?hs1 ?hh1 ?hc1 ⟨L.length, 0, ?_, norm a, rfl, ?hp1⟩; (case hs1 | hh1 => ((repeat' (first | exact trivial | refine And.intro ?_ ?_)) <;> (first | exact Ev.se | (refine Ev.slot_eq rfl ?_; first | (first | rfl | (simp; done)) | ((first | refine Ev.int_eq ?_ | refine Ev.own_eq ?_ | refine Ev.blk_eq ?_); (first | rfl | (simp; done)))) | exact Ev.sr))); (case hc1 => exact Nat.le_refl _))
      exact ⟨by omega, TI.first h0 hl ha⟩
    rintro k s1 ⟨i, c, x, rfl, hk, hT⟩
    by_cases hi : i < L.length
    · have hii : (i : Int) < (L.length : Int) := by omega
      obtain ⟨k', rfl⟩ : ∃ k', k = k' + 1 := ⟨k - 1, by omega⟩
      have hw : IntKind.i64.wrap ((i : Int) + 1) = ((i + 1 : Nat) : Int) := by rw [wrap_id (by omega)]; omega
      obtain ⟨e0, l0, hN'⟩ := hT.next hi ho
      have hcut : List.take ((IntKind.i64.wrap ((i : Int) + 1)).toNat - (i : Int).toNat) (List.drop (i : Int).toNat (rowsA L)) = [[AV.lst 3 (sps L[i])]] := by
        rw [hw, Int.toNat_natCast, Int.toNat_natCast, show i + 1 - i = 1 by omega, List.drop_eq_getElem_cons (by rw [hrl]; exact hi)]
        simp [rowsA]
      have hp1 : (0 : Int) < ((List.take ((IntKind.i64.wrap ((i : Int) + 1)).toNat - (i : Int).toNat) (List.drop (i : Int).toNat (rowsA L))).length : Int) := by rw [hcut]; first | (show (0 : Int) < 1; omega) | (show ¬ IntKind.i64.wrap (0 + 1) < (1 : Int); decide)
      have hp2 : ¬ IntKind.i64.wrap (0 + 1) < ((List.take ((IntKind.i64.wrap ((i : Int) + 1)).toNat - (i : Int).toNat) (List.drop (i : Int).toNat (rowsA L))).length : Int) := by rw [hcut]; first | (show (0 : Int) < 1; omega) | (show ¬ IntKind.i64.wrap (0 + 1) < (1 : Int); decide)
      have hmem := List.getElem_mem hi
      have hC := ovr_call x L[i] (by have := hT.len; omega) (by omega) hT.tb (hb _ hmem) (tbs_small (by have := hT.tb; omega)) (tbs_small (by have := hb _ hmem; omega)) (ho _ hmem)
      rw [ovrA_ok e0] at hC
      repeat' (first | ((with_reducible refine Ev.br0 ?_); (first | refine Ev.brp ?_ | refine Ev.brn ?_); conv => whnf) | ((with_reducible refine Ev.c0 ?_); first | refine Ev.cp ?_ | refine Ev.cn ?_) | (with_reducible refine Ev.c_pos hii ?_) | (with_reducible refine Ev.br_pos hii ?_) | (with_reducible refine Ev.c_pos hp1 ?_) | (with_reducible refine Ev.br_pos hp1 ?_) | (with_reducible refine Ev.c_neg hp2 ?_) | (with_reducible refine Ev.br_neg hp2 ?_) | ((refine Ev.sw ?_); conv => whnf) | refine Ev.sn ?_ | ((with_reducible refine Ev.chk_k ?_ ?_); rotate_left; exact Ev.bt; conv => whnf) | ((with_reducible (refine Ev.RI.run ?_; constructor)) <;> intro _) | ((refine Ev.sg ?_); conv => whnf) | ((with_reducible refine Ev.sided ?_ ?_); conv => whnf) | ((with_reducible refine Ev.kr (hs := []) (fun Q hQ => ?_)); (simp only [Ev.runE_cons, Ev.runE_nil]); conv => whnf) | (with_reducible refine hQ _ ?_; clear hQ Q) | ((refine Ev.sf ?_); intro F hF; conv => whnf) | (with_reducible refine hF _ ?_; clear hF F) | ((with_reducible refine Ev.go_k (fun c' => ?_)); conv => whnf) | (with_reducible refine Ev.unroll 2 ?_) | ((refine el_one hcut ?_); conv => whnf) | ((with_reducible refine Ev.ca0 ?_); (first | refine Ev.ca (hC) ?_); conv => whnf) | ((first | refine Ev.el_map0 ?_ (fun hi => ?_) | refine Ev.el_mapN ?_ (fun hi => ?_)); rotate_left; conv => whnf) | ((with_reducible refine Ev.sd0 ?_); exact Ev.sd) | fail)
      (refine Ev.again (k') _ ?hm2 ?hs2 ?hh2 ?hc2 ⟨i + 1, ?_, ovrO x L[i], rfl, ?hp2⟩; (case hs2 | hh2 => ((repeat' (first | exact trivial | refine And.intro ?_ ?_)) <;> (first | exact Ev.se | (refine Ev.slot_eq rfl ?_; first | (first | exact hw | (simp; done) | rfl) | ((first | refine Ev.int_eq ?_ | refine Ev.own_eq ?_ | refine Ev.blk_eq ?_); (first | exact hw | (simp; done) | rfl))) | exact Ev.sr))); (case hc2 => exact Nat.le_refl _); (case hm2 => omega))
      exact ⟨by omega, hN'⟩
    · have hii : ¬ (i : Int) < (L.length : Int) := by omega
      have he := hT.eq
      rw [List.drop_of_length_le (by omega)] at he
      repeat' (first | (with_reducible refine Ev.c_neg hii ?_) | (with_reducible refine Ev.br_neg hii ?_) | ((with_reducible refine Ev.br0 ?_); (first | refine Ev.brp ?_ | refine Ev.brn ?_); conv => whnf) | ((with_reducible refine Ev.c0 ?_); first | refine Ev.cp ?_ | refine Ev.cn ?_) | ((refine Ev.sw ?_); conv => whnf) | refine Ev.sn ?_ | ((with_reducible refine Ev.chk_k ?_ ?_); rotate_left; exact Ev.bt; conv => whnf) | ((with_reducible (refine Ev.RI.run ?_; constructor)) <;> intro _) | ((refine Ev.sg ?_); conv => whnf) | ((with_reducible refine Ev.sided ?_ ?_); conv => whnf) | ((with_reducible refine Ev.kr (hs := []) (fun Q hQ => ?_)); (simp only [Ev.runE_cons, Ev.runE_nil]); conv => whnf) | (with_reducible refine hQ _ ?_; clear hQ Q) | ((refine Ev.sf ?_); intro F hF; conv => whnf) | (with_reducible refine hF _ ?_; clear hF F) | ((with_reducible refine Ev.go_k (fun c' => ?_)); conv => whnf) | ((first | refine Ev.el_map0 ?_ (fun hi => ?_) | refine Ev.el_mapN ?_ (fun hi => ?_)); rotate_left; conv => whnf) | ((with_reducible refine Ev.sd0 ?_); exact Ev.sd) | fail)
      exact ⟨by rw [← he]; rfl, rfl⟩
  · rw [if_neg h0]
    refine Ev.fn [0, 1, 4, 5, 6, 7, 8, 10, 15, 20, 21, 22, 30, 31, 32, 33] 0 [.tmp 4, .tmp 5] Tryd.func68 (comp68 _ rfl) ?_
    repeat' (first | (with_reducible refine Ev.c_neg h0 ?_) | (with_reducible refine Ev.br_neg h0 ?_) | ((with_reducible refine Ev.br0 ?_); (first | refine Ev.brp ?_ | refine Ev.brn ?_); conv => whnf) | ((with_reducible refine Ev.c0 ?_); first | refine Ev.cp ?_ | refine Ev.cn ?_) | ((refine Ev.sw ?_); conv => whnf) | refine Ev.sn ?_ | ((with_reducible refine Ev.chk_k ?_ ?_); rotate_left; exact Ev.bt; conv => whnf) | ((with_reducible (refine Ev.RI.run ?_; constructor)) <;> intro _) | ((refine Ev.sg ?_); conv => whnf) | ((with_reducible refine Ev.sided ?_ ?_); conv => whnf) | ((with_reducible refine Ev.kr (hs := []) (fun Q hQ => ?_)); (simp only [Ev.runE_cons, Ev.runE_nil]); conv => whnf) | (with_reducible refine hQ _ ?_; clear hQ Q) | ((refine Ev.sf ?_); intro F hF; conv => whnf) | (with_reducible refine hF _ ?_; clear hF F) | ((with_reducible refine Ev.go_k (fun c' => ?_)); conv => whnf) | ((with_reducible refine Ev.ca0 ?_); (first | refine Ev.ca (hM) ?_); conv => whnf) | ((first | refine Ev.el_map0 ?_ (fun hi => ?_) | refine Ev.el_mapN ?_ (fun hi => ?_)); rotate_left; conv => whnf) | ((with_reducible refine Ev.sd0 ?_); exact Ev.sd) | fail)
    exact ⟨rfl, rfl⟩
end Go.Proofs.YtadlnaljicikfaaDoor.Abs
namespace Go.Proofs.YtadlnaljicikfaaDoor.Abs
open Go Go.Lib
mutual
/-- A value, its rows under other names. -/
def rnA (ρ : Nat → Nat) : AV → AV
  | .agg cs => .agg (rnAs ρ cs)
  | .tup cs => .tup (rnAs ρ cs)
  | .clo f a b => .clo f (rnAs ρ a) (rnAs ρ b)
  | .own r v off len => .own (ρ r) v off len
  | .ptr r v i o => .ptr (ρ r) v i o
  | x => x
def rnAs (ρ : Nat → Nat) : List AV → List AV
  | [] => []
  | c :: cs => rnA ρ c :: rnAs ρ cs
end
theorem rnAs_map (ρ : Nat → Nat) : ∀ cs, rnAs ρ cs = cs.map (rnA ρ)
  | [] => rfl
  | c :: cs => by simp only [rnAs, List.map_cons, rnAs_map ρ cs]
def rnH (ρ : Nat → Nat) : List (Nat × Blk) → List (Nat × Blk)
  | [] => []
  | (r, ⟨sz, ty, ver, frz, box, es⟩) :: l => (ρ r, ⟨sz, ty, ver, frz, box, if box then es.map (rnAs ρ) else es⟩) :: rnH ρ l
theorem PRel.rn {M : Mem} {ρ : Nat → Nat} {x : AV} {v : Value} (h : PRel M x v) : PRel M (rnA ρ x) v := by
  induction h with
  | v x => exact .v x
  | agg hn h1 _ ih =>
    simp only [rnA, rnAs_map]
    refine .agg (by rw [List.length_map]; exact hn) (by first | exact h1 | (rw [List.length_map]; exact h1)) (fun i c v hc hv => ?_)
    rw [List.getElem?_map, Option.map_eq_some_iff] at hc
    obtain ⟨d, hd, rfl⟩ := hc
    exact ih i d v hd hv
  | tup hn _ ih =>
    simp only [rnA, rnAs_map]
    refine .tup (by rw [List.length_map]; exact hn) (fun i c v hc hv => ?_)
    rw [List.getElem?_map, Option.map_eq_some_iff] at hc
    obtain ⟨d, hd, rfl⟩ := hc
    exact ih i d v hd hv
  | lst u hn hc hz hA hM h _ => exact .lst u hn hc hz hA hM h
  | rptr u hM h _ => exact .rptr u hM h
  | clo hn hm _ _ ih ih' =>
    simp only [rnA, rnAs_map]
    refine .clo (by rw [List.length_map]; exact hn) (by rw [List.length_map]; exact hm) (fun i c v hc hv => ?_) (fun i c v hc hv => ?_)
    · rw [List.getElem?_map, Option.map_eq_some_iff] at hc
      obtain ⟨d, hd, rfl⟩ := hc
      exact ih i d v hd hv
    · rw [List.getElem?_map, Option.map_eq_some_iff] at hc
      obtain ⟨d, hd, rfl⟩ := hc
      exact ih' i d v hd hv
theorem Rel.rn {M : Mem} {J : Locs} {ρ : Nat → Nat} {x : AV} {v : Value} (h : Rel M J x v) : Rel M J (rnA ρ x) v := by
  induction h with
  | pure h => exact .pure h.rn
  | agg hn h1 _ ih =>
    simp only [rnA, rnAs_map]
    refine .agg (by rw [List.length_map]; exact hn) (by first | exact h1 | (rw [List.length_map]; exact h1)) (fun i c v hc hv => ?_)
    rw [List.getElem?_map, Option.map_eq_some_iff] at hc
    obtain ⟨d, hd, rfl⟩ := hc
    exact ih i d v hd hv
  | tup hn _ ih =>
    simp only [rnA, rnAs_map]
    refine .tup (by rw [List.length_map]; exact hn) (fun i c v hc hv => ?_)
    rw [List.getElem?_map, Option.map_eq_some_iff] at hc
    obtain ⟨d, hd, rfl⟩ := hc
    exact ih i d v hd hv
  | clo hn hm _ _ ih ih' =>
    simp only [rnA, rnAs_map]
    refine .clo (by rw [List.length_map]; exact hn) (by rw [List.length_map]; exact hm) (fun i c v hc hv => ?_) (fun i c v hc hv => ?_)
    · rw [List.getElem?_map, Option.map_eq_some_iff] at hc
      obtain ⟨d, hd, rfl⟩ := hc
      exact ih i d v hd hv
    · rw [List.getElem?_map, Option.map_eq_some_iff] at hc
      obtain ⟨d, hd, rfl⟩ := hc
      exact ih' i d v hd hv
  | own hL hl hN hA hc => exact .own hL hl hN hA hc
  | ptr hL hN => exact .ptr hL hN
theorem rnH_get {ρ : Nat → Nat} : ∀ {hp : List (Nat × Blk)} {r : Nat} {k : Blk}, get (rnH ρ hp) r = some k →
    ∃ r0 k0, r = ρ r0 ∧ get hp r0 = some k0 ∧ k = ⟨k0.sz, k0.ty, k0.ver, k0.frz, k0.box, if k0.box then k0.es.map (rnAs ρ) else k0.es⟩
  | [], r, k, h => by simp [rnH, get_nil] at h
  | (a, ⟨sz, ty, ver, frz, box, es⟩) :: hp, r, k, h => by
    simp only [rnH] at h
    rw [get_cons] at h
    split at h
    · rename_i e
      obtain rfl := Option.some.inj h
      exact ⟨a, _, e, by rw [get_cons, if_pos rfl], rfl⟩
    · rename_i e
      obtain ⟨r0, k0, h1, h2, h3⟩ := rnH_get h
      refine ⟨r0, k0, h1, ?_, h3⟩
      rw [get_cons, if_neg (by rintro rfl; exact e h1)]; exact h2
theorem Inv.rn {E : Env} {M0 : Bas} {w0 : World} {c : Nat} {M : Mem} {J : Locs} {W : World} (ρ : Nat → Nat) {hp : List (Nat × Blk)} (inv : Inv E M0 w0 c M J ⟨[], hp, 0⟩ #[] W) : Inv E M0 w0 c M J ⟨[], rnH ρ hp, 0⟩ #[] W := by
  refine ⟨inv.below, inv.mem, inv.newM, inv.oldM, inv.glob, fun t x h => by simp [get_nil] at h, ?_, ?_, ?_, inv.vers, inv.oldJ, inv.far⟩
  · intro r k hk
    obtain ⟨r0, k0, rfl, h1, rfl⟩ := rnH_get hk
    obtain ⟨L, C, a1, a2, a3⟩ := inv.heap r0 k0 h1
    refine ⟨L, C, a1, a2, a3.blk, a3.none, a3.size, ?_, ?_, a3.sz, ?_, ?_, a3.cap⟩
    · have : (if k0.box then k0.es.map (rnAs ρ) else k0.es).length = k0.es.length := by split <;> simp
      show (if k0.box then k0.es.map (rnAs ρ) else k0.es).length ≤ _
      rw [this]; exact a3.fits
    · have : (if k0.box then k0.es.map (rnAs ρ) else k0.es).length = k0.es.length := by split <;> simp
      show _ ≤ (if k0.box then k0.es.map (rnAs ρ) else k0.es).length
      rw [this]; exact a3.frz
    · intro i e he
      have he : (if k0.box then k0.es.map (rnAs ρ) else k0.es)[i]? = some e := he
      split at he
      · rw [List.getElem?_map, Option.map_eq_some_iff] at he
        obtain ⟨d, hd, rfl⟩ := he
        rw [rnAs_map, List.length_map]; exact a3.len i d hd
      · exact a3.len i e he
    · intro i e j c he hc
      have he : (if k0.box then k0.es.map (rnAs ρ) else k0.es)[i]? = some e := he
      split at he
      · rename_i hb
        rw [List.getElem?_map, Option.map_eq_some_iff] at he
        obtain ⟨d, hd, rfl⟩ := he
        rw [rnAs_map, List.getElem?_map, Option.map_eq_some_iff] at hc
        obtain ⟨x, hx, rfl⟩ := hc
        obtain ⟨u, u1, u2, u3⟩ := a3.cell i d j x hd hx
        refine ⟨u, u1, u2, ?_⟩
        show CellRel M J k0.box _ u
        rw [hb]
        exact u3.rel.rn
      · exact a3.cell i e j c he hc
  · intro r r' k k' L L' hk hk' hL hL' hN hN' hr
    obtain ⟨r0, k0, rfl, h1, rfl⟩ := rnH_get hk
    obtain ⟨r1, k1, rfl, h2, rfl⟩ := rnH_get hk'
    exact inv.apart r0 r1 k0 k1 L L' h1 h2 hL hL' hN hN' (fun e => hr (by rw [e]))
  · intro r k L o u hk hL hN hu
    obtain ⟨r0, k0, rfl, h1, rfl⟩ := rnH_get hk
    exact inv.owns r0 k0 L o u h1 hL hN hu
theorem hcall_rn {E : Env} {N : Nat} {f : FuncId} {args args' : List AV} {hp hp' : List (Nat × Blk)} {R : AV → List (Nat × Blk) → Prop} (ρ1 ρ2 : Nat → Nat) (hc : HCallW E N f args hp R) (ha : rnAs ρ1 args' = args) (hh : rnH ρ1 hp' = hp) :
    HCallW E N f args' hp' fun r hp1 => ∃ r0 h0, R r0 h0 ∧ r = rnA ρ2 r0 ∧ hp1 = rnH ρ2 h0 := by
  subst ha; subst hh
  intro M0 w0 c M J w vs inv hn hr
  obtain ⟨a, b⟩ := hc M0 w0 c M J w vs (inv.rn ρ1) (by rw [rnAs_map, List.length_map]; exact hn) (fun i x v hx hv => by
    rw [rnAs_map, List.getElem?_map, Option.map_eq_some_iff] at hx
    obtain ⟨d, hd, rfl⟩ := hx
    exact (hr i d v hd hv).rn)
  refine ⟨a, b.mono ?_⟩
  rintro e w' ⟨v, r, hp1, c', M', J', x1, x2, x3, x4, x5, x6⟩
  exact ⟨v, _, _, c', M', J', x1, ⟨r, hp1, x2, rfl, rfl⟩, x3.rn ρ2, x4.rn, x5, x6⟩
theorem hcall_named {E : Env} {N nm : Nat} {f : FuncId} {args args' : List AV} {hp hp' hp0 : List (Nat × Blk)} {ct : Nat} {K : AV → List (Nat × Blk) → Nat → Prop} {R : AV → List (Nat × Blk) → Prop} (ρ1 ρ2 : Nat → Nat) (F : List (Nat × Blk))
    (hc : HCallW E N f args hp R) (ha : rnAs ρ1 args' = args) (hh : rnH ρ1 hp' = hp) (hs : subs hp0 hp') (hF : subs hp0 F) (hd : ∀ r, get hp' r ≠ none → get F r = none)
    (h : ∀ r h1, R r h1 → (∀ q, get (rnH ρ2 h1) q ≠ none → get F q = none) ∧ ∀ c', ct + 8 ≤ c' → K (rnA ρ2 r) (rnH ρ2 h1 ++ F) c') : Ev.HCallX E nm f args' hp0 ct K := by
  refine Ev.hcall_frame F (hcall_rn ρ1 ρ2 hc ha hh) rfl hs hF hd ?_
  rintro r hp1 ⟨r0, h0, h1, rfl, rfl⟩
  exact h r0 h0 h1
end Go.Proofs.YtadlnaljicikfaaDoor.Abs
namespace Go.Proofs.YtadlnaljicikfaaDoor.Abs
open Go
set_option maxRecDepth 100000
attribute [local irreducible] Ev.Unr Ev.Go' Ev.bytK Ev.runK Ev.FinL Ev.brC Ev.Side Ev.Wp Ev.Again Ev.To Ev.Fin
open Go.Lib Go.RowKit
def p0_FnZd : Ev.Pl := (.one 0 false (.one 2 false (.one 3 false (.one 4 false (.one 5 false (.one 7 false (.one 8 false (.one 9 false (.two 1 (.two 6 (.one 10 false (.one 11 false (.one 12 false (.one 13 false (.one 14 false .fin))))) 10 (.one 6 false (.one 11 false (.one 12 false (.one 13 false (.one 14 false .fin)))))) 6 (.one 1 false (.one 10 false (.one 11 false (.one 12 false (.one 13 false (.one 14 false .fin)))))))))))))))
def p1_FnZd : Ev.Tr := (.one 0 false (.one 1 false (.one 2 false (.one 3 false (.one 4 false (.one 5 false (.one 6 false (.one 7 false (.one 11 false (.one 12 false (.one 13 false (.one 14 false (.one 16 false (.any (.alt 8 (.any (.alt 9 (.any (.alt 10 (.one 15 false (.one 17 false (.one 18 false (.one 19 false (.one 20 false (.one 21 false (.one 22 false (.one 23 false (.one 24 false (.one 25 false (.one 26 false .fin))))))))))) (.alt 15 (.any (.alt 10 (.one 17 false (.one 18 false (.one 19 false (.one 20 false (.one 21 false (.one 22 false (.one 23 false (.one 24 false (.one 25 false (.one 26 false .fin)))))))))) (.alt 17 (.one 10 false (.one 18 false (.one 19 false (.one 20 false (.one 21 false (.one 22 false (.one 23 false (.one 24 false (.one 25 false (.one 26 false .fin)))))))))) .stop))) (.alt 17 (.any (.alt 10 (.one 15 false (.one 18 false (.one 19 false (.one 20 false (.one 21 false (.one 22 false (.one 23 false (.one 24 false (.one 25 false (.one 26 false .fin)))))))))) (.alt 15 (.one 10 false (.one 18 false (.one 19 false (.one 20 false (.one 21 false (.one 22 false (.one 23 false (.one 24 false (.one 25 false (.one 26 false .fin)))))))))) .stop))) .stop)))) (.alt 15 (.any (.alt 9 (.any (.alt 10 (.one 17 false (.one 18 false (.one 19 false (.one 20 false (.one 21 false (.one 22 false (.one 23 false (.one 24 false (.one 25 false (.one 26 false .fin)))))))))) (.alt 17 (.one 10 false (.one 18 false (.one 19 false (.one 20 false (.one 21 false (.one 22 false (.one 23 false (.one 24 false (.one 25 false (.one 26 false .fin)))))))))) .stop))) (.alt 17 (.one 9 false (.one 10 false (.one 18 false (.one 19 false (.one 20 false (.one 21 false (.one 22 false (.one 23 false (.one 24 false (.one 25 false (.one 26 false .fin))))))))))) .stop))) (.alt 17 (.any (.alt 9 (.any (.alt 10 (.one 15 false (.one 18 false (.one 19 false (.one 20 false (.one 21 false (.one 22 false (.one 23 false (.one 24 false (.one 25 false (.one 26 false .fin)))))))))) (.alt 15 (.one 10 false (.one 18 false (.one 19 false (.one 20 false (.one 21 false (.one 22 false (.one 23 false (.one 24 false (.one 25 false (.one 26 false .fin)))))))))) .stop))) (.alt 15 (.one 9 false (.one 10 false (.one 18 false (.one 19 false (.one 20 false (.one 21 false (.one 22 false (.one 23 false (.one 24 false (.one 25 false (.one 26 false .fin))))))))))) .stop))) .stop)))) (.alt 15 (.any (.alt 8 (.any (.alt 9 (.any (.alt 10 (.one 17 false (.one 18 false (.one 19 false (.one 20 false (.one 21 false (.one 22 false (.one 23 false (.one 24 false (.one 25 false (.one 26 false .fin)))))))))) (.alt 17 (.one 10 false (.one 18 false (.one 19 false (.one 20 false (.one 21 false (.one 22 false (.one 23 false (.one 24 false (.one 25 false (.one 26 false .fin)))))))))) .stop))) (.alt 17 (.one 9 false (.one 10 false (.one 18 false (.one 19 false (.one 20 false (.one 21 false (.one 22 false (.one 23 false (.one 24 false (.one 25 false (.one 26 false .fin))))))))))) .stop))) (.alt 17 (.one 8 false (.one 9 false (.one 10 false (.one 18 false (.one 19 false (.one 20 false (.one 21 false (.one 22 false (.one 23 false (.one 24 false (.one 25 false (.one 26 false .fin)))))))))))) .stop))) (.alt 17 (.any (.alt 8 (.any (.alt 9 (.any (.alt 10 (.one 15 false (.one 18 false (.one 19 false (.one 20 false (.one 21 false (.one 22 false (.one 23 false (.one 24 false (.one 25 false (.one 26 false .fin)))))))))) (.alt 15 (.one 10 false (.one 18 false (.one 19 false (.one 20 false (.one 21 false (.one 22 false (.one 23 false (.one 24 false (.one 25 false (.one 26 false .fin)))))))))) .stop))) (.alt 15 (.one 9 false (.one 10 false (.one 18 false (.one 19 false (.one 20 false (.one 21 false (.one 22 false (.one 23 false (.one 24 false (.one 25 false (.one 26 false .fin))))))))))) .stop))) (.alt 15 (.one 8 false (.one 9 false (.one 10 false (.one 18 false (.one 19 false (.one 20 false (.one 21 false (.one 22 false (.one 23 false (.one 24 false (.one 25 false (.one 26 false .fin)))))))))))) .stop))) .stop)))))))))))))))))
theorem comp24 : ∀ c, Tryd.f24.body = some c → comp c = (.seq (.reg 0 [I.n 0 2 (.assign (.const (Value.pointer none))), I.n 1 3 (I.si 0)]) (.seq (.reg 1 [I.n 0 5 (I.mv 0), I.n 1 6 (I.c1 32 5 9), I.n 2 4 (I.sa 6)]) (.block 0 (.seq (.reg 3 [I.n 0 14 (I.mv 4), I.n 1 15 (I.bc .lss 3 14 0 3), I.n 2 13 (I.sa 15)]) (.cond (.tmp 13) (.seq (.reg 4 [I.n 0 2 (.assign (.const (Value.pointer none))), I.n 1 3 (I.si 3)]) .ret) (.seq (.reg 5 [I.n 0 17 (I.mv 4), I.n 1 18 (I.bc .gtr 3 17 1048576 3), I.n 2 16 (I.sa 18)]) (.cond (.tmp 16) (.seq (.reg 6 [I.n 0 2 (.assign (.const (Value.pointer none))), I.n 1 3 (I.si 4)]) .ret) (.seq (.reg 2 [I.n 0 7 (I.mv 4), I.n 1 8 (I.b1 25 7), I.n 2 9 (.build 42 #[(1, .tmp 8)]), I.n 3 10 (I.mv 0), I.n 4 11 (.build 44 #[(0, .tmp 9), (1, .tmp 10)]), I.n 5 12 (.box 44 (.tmp 11)), I.n 6 2 (I.sa 12), I.n 7 3 (I.si 0)]) .ret)))))))) := by
  intro c h
  have : c = Tryd.f24.body.get rfl := by rw [← Option.some_inj, ← h]; rfl
  rw [this]; rfl
theorem comp29 : ∀ c, Tryd.f29.body = some c → comp c = (.seq (.reg 0 [I.n 0 2 (I.si 0)]) (.seq (.reg 1 [I.n 0 3 (I.mv 0), I.n 1 4 (I.nc 3), I.n 2 5 (I.fa 42 4 0), I.n 3 6 (I.ld 22 5), I.n 4 7 (I.ln 6 22), I.n 5 2 (I.sa 7)]) .ret)) := by
  intro c h
  have : c = Tryd.f29.body.get rfl := by rw [← Option.some_inj, ← h]; rfl
  rw [this]; rfl
theorem comp77 : ∀ c, Tryd.f77.body = some c → comp c = (.seq (.reg 0 [I.n 0 4 (I.sb false)]) (.seq (.reg 1 [I.n 0 5 (I.mv 1), I.n 1 6 (I.bc .geq 3 5 0 3), I.n 2 7 (I.mv 6), I.w 3 8 (I.mv 1) 7 true, I.w 4 9 (I.mv 0) 7 true, I.w 5 10 (I.c1 29 9 108) 7 true, I.w 6 11 (I.bo .leq 3 8 10 3) 7 true, I.n 7 12 (I.pc 7 11 false), I.n 8 4 (I.sa 12)]) .ret)) := by
  intro c h
  have : c = Tryd.f77.body.get rfl := by rw [← Option.some_inj, ← h]; rfl
  rw [this]; rfl
theorem comp25 : ∀ c, Tryd.f25.body = some c → comp c = (.seq (.reg 0 [I.n 0 4 (I.si 0)]) (.seq (.seq (.reg 1 [I.n 0 7 (I.mv 1), I.n 1 8 (I.c1 72 7 23), I.n 2 5 (I.sa 8)]) (.seq (.reg 2 [I.n 0 9 (I.mv 5), I.n 1 10 (I.bc .neq 30 9 0 30)]) (.cond (.tmp 10) (.seq (.reg 3 [I.n 0 11 (I.mv 5), I.n 1 4 (I.sa 11)]) .ret) .skip))) (.seq (.reg 4 [I.n 0 12 (I.mv 1), I.n 1 13 (I.c1 73 12 23), I.n 2 6 (I.sa 13)]) (.seq (.block 0 (.seq (.draw 5 [I.n 0 15 (I.mv 1), I.n 1 16 (I.c1 74 15 23), I.n 2 17 (I.mv 0), I.n 3 18 (I.nc 17), I.n 4 19 (I.fa 44 18 0), I.n 5 20 (I.fa 42 19 1), I.n 6 21 (I.ld 25 20), I.n 7 22 (I.mv 0), I.n 8 23 (I.nc 22), I.n 9 24 (I.fa 44 23 0), I.n 10 25 (I.c1 29 24 42), I.n 11 26 (I.ia 25 21 25), I.n 12 27 (I.ld 3 26), I.n 13 28 (I.bo .neq 3 16 27 3), I.n 14 14 (I.sa 28)] [[], [0], [], [2], [3], [4], [5], [], [7], [8], [9, 1], [6, 10], [11], [1, 12], [13, 10]]) (.cond (.tmp 14) (.seq (.reg 6 [I.n 0 4 (I.si 5)]) .ret) (.seq (.reg 7 [I.n 0 30 (I.mv 6), I.n 1 31 (I.bc .gtr 3 30 1048576 3), I.n 2 29 (I.sa 31)]) (.cond (.tmp 29) (.seq (.reg 8 [I.n 0 4 (I.si 4)]) .ret) .skip))))) (.seq (.draw 9 [I.n 0 32 (I.mv 0), I.n 1 33 (I.mv 0), I.n 2 34 (I.mv 0), I.n 3 35 (I.nc 34), I.n 4 36 (I.fa 44 35 0), I.n 5 37 (I.fa 42 36 0), I.n 6 38 (I.ld 22 37), I.n 7 39 (I.mv 1), I.n 8 40 (I.c1 35 39 23), I.n 9 41 (I.b1 22 40), I.n 10 42 (I.ap 38 41 22 22), I.n 11 43 (I.mv 0), I.n 12 44 (I.nc 43), I.n 13 45 (I.fa 44 44 0), I.n 14 46 (I.fa 42 45 1), I.n 15 47 (I.ld 25 46), I.n 16 48 (I.mv 6), I.n 17 49 (I.b1 25 48), I.n 18 50 (I.ap 47 49 25 25), I.n 19 51 (I.nc 32), I.n 20 52 (I.fa 44 51 0), I.n 21 53 (I.fa 42 52 0), I.u 22 (I.st 22 53 42), I.n 23 54 (I.nc 33), I.n 24 55 (I.fa 44 54 0), I.n 25 56 (I.fa 42 55 1), I.u 26 (I.st 25 56 50)] [[], [], [], [2], [3], [4], [5], [], [7], [8], [6, 9, 8], [], [11], [12], [13], [14], [], [16], [15, 17, 10], [0, 0, 2, 3, 4, 5, 6, 7, 8, 9, 10, 15, 18], [19, 0, 2, 3, 4, 5, 6, 7, 8, 9, 10, 15, 18], [20, 0, 2, 3, 4, 5, 6, 7, 8, 9, 10, 15, 18], [21, 10, 18, 0, 2, 3, 4, 5, 6, 7, 8, 9, 10, 15, 18], [1, 0, 1, 2, 3, 4, 5, 6, 7, 8, 9, 10, 11, 12, 13, 14, 15, 16, 17, 18, 19, 20, 21, 22], [23, 0, 1, 2, 3, 4, 5, 6, 7, 8, 9, 10, 11, 12, 13, 14, 15, 16, 17, 18, 19, 20, 21, 22], [24, 0, 1, 2, 3, 4, 5, 6, 7, 8, 9, 10, 11, 12, 13, 14, 15, 16, 17, 18, 19, 20, 21, 22], [25, 18, 22, 0, 1, 2, 3, 4, 5, 6, 7, 8, 9, 10, 11, 12, 13, 14, 15, 16, 17, 18, 19, 20, 21, 22]]) (.seq (.reg 10 [I.n 0 4 (I.si 0)]) .ret)))))) := by
  intro c h
  have : c = Tryd.f25.body.get rfl := by rw [← Option.some_inj, ← h]; rfl
  rw [this]; rfl
abbrev cntB (t : ByteArray) : Int := countD t.data.toList
def newE (t : ByteArray) : Int := if cntB t < 0 then 3 else if 1048576 < cntB t then 4 else 0
theorem hnew_ok (t : ByteArray) (ht : t.size ≤ 1000000000) (h : newE t = 0) :
    CallW env 24 [.v (.string t)] (fun r hs => r = .tup [.ptr 0 0 0 0, .v (.int .i64 0)] ∧ hs = [⟨3, 44, 0, 0, true, [[nilA, .own 1 1 0 1, .v (.string t)]]⟩, ⟨1, 3, 1, 0, false, [[.v (.int .i64 (cntB t))]]⟩]) := by
  have hC := pcount_call t ht
  unfold newE at h
  have h0 : ¬ countD t.data.toList < 0 := fun h0 => by rw [if_pos h0] at h; cases h
  have h1 : ¬ 1048576 < countD t.data.toList := fun h1 => by rw [if_neg h0, if_pos h1] at h; cases h
  refine Ev.fnO [0, 2, 3, 4, 13, 16] 0 [.tmp 2, .tmp 3] Tryd.func24 (comp24 _ rfl) ?_
  repeat' (first | (with_reducible refine Ev.c_neg h0 ?_) | (with_reducible refine Ev.br_neg h0 ?_) | (with_reducible refine Ev.c_neg h1 ?_) | (with_reducible refine Ev.br_neg h1 ?_) | ((with_reducible refine Ev.br0 ?_); (first | refine Ev.brp ?_ | refine Ev.brn ?_); conv => whnf) | ((with_reducible refine Ev.c0 ?_); first | refine Ev.cp ?_ | refine Ev.cn ?_) | ((refine Ev.sw ?_); conv => whnf) | refine Ev.sn ?_ | ((with_reducible refine Ev.chk_k ?_ ?_); rotate_left; exact Ev.bt; conv => whnf) | ((with_reducible (refine Ev.RI.run ?_; constructor)) <;> intro _) | ((refine Ev.sg ?_); conv => whnf) | ((with_reducible refine Ev.sided ?_ ?_); conv => whnf) | ((with_reducible refine Ev.kr (hs := []) (fun Q hQ => ?_)); (simp only [Ev.runE_cons, Ev.runE_nil]); conv => whnf) | (with_reducible refine hQ _ ?_; clear hQ Q) | ((refine Ev.sf ?_); intro F hF; conv => whnf) | (with_reducible refine hF _ ?_; clear hF F) | ((with_reducible refine Ev.go_k (fun c' => ?_)); conv => whnf) | ((with_reducible refine Ev.ca0 ?_); (first | refine Ev.ca (hC) ?_); conv => whnf) | ((first | refine Ev.el_map0 ?_ (fun hi => ?_) | refine Ev.el_mapN ?_ (fun hi => ?_)); rotate_left; conv => whnf) | ((with_reducible refine Ev.sd0 ?_); exact Ev.sd) | fail)
  refine Ev.finL [(1064, 8), (1032, 0)] (by simp) (fun F hF => ?_)
  conv => whnf
  refine hF _ ?_
  exact ⟨rfl, rfl⟩
abbrev hisG (B L S vb vl fl vs fs : Nat) (Ls : List (List Sp)) (Ns : List Int) (t : ByteArray) : List (Nat × Blk) :=
  [(B, ⟨3, 44, vb, 0, true, [[.own L vl 0 Ls.length, .own S vs 0 Ns.length, .v (.string t)]]⟩), (L, ⟨1, 23, vl, fl, false, rowsA Ls⟩), (S, ⟨1, 3, vs, fs, false, ints Ns⟩)]
def happE (w : List Sp) (n : Int) : Int := if opMayF w ≠ 0 then opMayF w else if inW w ≠ n then 5 else if 1048576 < outW w then 4 else 0
theorem rowsA_add (Ls : List (List Sp)) (x : List Sp) : rowsA Ls ++ List.take 1 (List.drop 0 [[AV.lst 3 (sps x)]]) = rowsA (Ls ++ [x]) := by simp [rowsA]
theorem ints_add (Ns : List Int) (n : Int) : ints Ns ++ List.take 1 (List.drop 0 [[AV.v (.int .i64 n)]]) = ints (Ns ++ [n]) := by simp [ints]
set_option maxHeartbeats 4000000 in
theorem happ_ok (vb vl fl vs fs : Nat) (Ls : List (List Sp)) (Ns : List Int) (t : ByteArray) (w : List Sp) (hw : w.length ≤ 100000000) (hb : tbs w ≤ 1000000000) (hN : Ns.length = Ls.length + 1) (hL : Ls.length ≤ 1000000)
    (he : happE w (Ns.getLast (by intro e; rw [e] at hN; simp at hN)) = 0) :
    HCallW env 65536 25 [.ptr 7000 vb 0 0, .lst 3 (sps w)] (hisG 7000 7001 7002 vb vl fl vs fs Ls Ns t)
      (fun r h => r = .v (.int .i64 0) ∧ ∃ vl' vs' : Nat, subs h (hisG 7000 7001 7002 vb vl' fl vs' fs (Ls ++ [norm w]) (Ns ++ [outW w]) t)) := by
  have hsm := tbs_small hb
  have hM := opMay_call w (by omega) hsm
  have hO := opOut_call w (by omega) hsm
  have hI := opIn_call w (by omega)
  have hF := nof_call w hw hb
  have hrl := rowsA_len Ls
  have hil := ints_len Ns
  unfold happE at he
  have m0 : opMayF w = 0 := Decidable.byContradiction fun h => by rw [if_pos h] at he; exact h he
  rw [if_neg (by simpa using m0)] at he
  have m1 : inW w = Ns.getLast _ := Decidable.byContradiction fun h => by rw [if_pos h] at he; cases he
  rw [if_neg (by simpa using m1)] at he
  have m2 : ¬ 1048576 < outW w := fun h => by rw [if_pos h] at he; cases he
  have m2 : ¬ 1048576 < sumW (fun s => outF s.k s.n s.t) w := m2
  rw [m0] at hM
  rw [List.getLast_eq_getElem] at m1
  have m1' : sumW (fun s => inF s.k s.n) w = Ns[Ns.length - 1] := m1
  have m1' : ∀ h : Ls.length < Ns.length, sumW (fun s => inF s.k s.n) w = Ns[Ls.length]'h := fun h => by
    rw [m1']; congr 1; omega
  refine Ev.fnH [0, 1, 4, 5, 6, 10, 14, 29] 65536 [.tmp 4] Tryd.func25 (comp25 _ rfl) (fun ct => ?_)
  repeat' (first | (with_reducible refine Ev.join (a := .block 0 _) (fun s => ∃ c : Nat, s = ⟨[(0, .ptr 7000 vb 0 0), (1, .lst 3 (sps w)), (6, .v (.int .i64 (outW w)))], hisG 7000 7001 7002 vb vl fl vs fs Ls Ns t, c⟩ ∧ True) ?_ ?_) | (with_reducible refine Ev.c_neg m2 ?_) | (with_reducible refine Ev.br_neg m2 ?_) | (with_reducible refine Ev.c_pos (m1' _) ?_) | (with_reducible refine Ev.br_pos (m1' _) ?_) | ((with_reducible refine Ev.br0 ?_); (first | refine Ev.brp ?_ | refine Ev.brn ?_); conv => whnf) | ((with_reducible refine Ev.c0 ?_); first | refine Ev.cp ?_ | refine Ev.cn ?_) | ((refine Ev.sw ?_); conv => whnf) | refine Ev.sn ?_ | ((with_reducible refine Ev.chk_k ?_ ?_); rotate_left; exact Ev.bt; conv => whnf) | ((with_reducible (refine Ev.RI.run ?_; constructor)) <;> intro _) | ((refine Ev.sg ?_); conv => whnf) | ((with_reducible refine Ev.sided ?_ ?_); conv => whnf) | ((with_reducible refine Ev.kr (hs := [29]) (fun Q hQ => ?_)); (simp only [Ev.runE_cons, Ev.runE_nil]); conv => whnf) | (with_reducible refine hQ _ ?_; clear hQ Q) | ((refine Ev.sf ?_); intro F hF; conv => whnf) | (with_reducible refine hF _ ?_; clear hF F) | ((with_reducible refine Ev.go_k (fun c' => ?_)); conv => whnf) | ((with_reducible refine Ev.il0 29 ?_); refine Ev.il 29 [0, 2] [.tmp 2] Tryd.func29 (comp29 _ rfl) (fun ct' => ?_)) | ((with_reducible refine Ev.ca0 ?_); (first | refine Ev.ca (hM) ?_ | refine Ev.ca (hO) ?_ | refine Ev.ca (hI) ?_ | refine Ev.ca (hF) ?_); conv => whnf) | ((with_reducible refine Ev.dr0 ?_); (first | refine Ev.drt 5 [29] p0_FnZd ?_); intro Q hQ; (simp only [Ev.runT_fin, Ev.runT_oneF, Ev.runT_oneT, Ev.runT_two]); conv => whnf) | ((with_reducible refine Ev.dr0 ?_); (first | refine Ev.dru 9 [29] [[], [], [], [2], [2, 3], [2, 3, 4], [2, 3, 4, 5], [], [7], [7, 8], [2, 3, 4, 5, 6, 7, 8, 9], [], [11], [11, 12], [11, 12, 13], [11, 12, 13, 14], [], [16], [2, 3, 4, 5, 6, 7, 8, 9, 10, 11, 12, 13, 14, 15, 16, 17], [0, 2, 3, 4, 5, 6, 7, 8, 9, 10, 11, 12, 13, 14, 15, 16, 17, 18], [0, 2, 3, 4, 5, 6, 7, 8, 9, 10, 11, 12, 13, 14, 15, 16, 17, 18, 19], [0, 2, 3, 4, 5, 6, 7, 8, 9, 10, 11, 12, 13, 14, 15, 16, 17, 18, 19, 20], [0, 2, 3, 4, 5, 6, 7, 8, 9, 10, 11, 12, 13, 14, 15, 16, 17, 18, 19, 20, 21], [0, 1, 2, 3, 4, 5, 6, 7, 8, 9, 10, 11, 12, 13, 14, 15, 16, 17, 18, 19, 20, 21, 22], [0, 1, 2, 3, 4, 5, 6, 7, 8, 9, 10, 11, 12, 13, 14, 15, 16, 17, 18, 19, 20, 21, 22, 23], [0, 1, 2, 3, 4, 5, 6, 7, 8, 9, 10, 11, 12, 13, 14, 15, 16, 17, 18, 19, 20, 21, 22, 23, 24], [0, 1, 2, 3, 4, 5, 6, 7, 8, 9, 10, 11, 12, 13, 14, 15, 16, 17, 18, 19, 20, 21, 22, 23, 24, 25]] p1_FnZd ?_); intro Q hQ; (simp only [Ev.runU_fin, Ev.runU_stop, Ev.runU_oneF, Ev.runU_oneT, Ev.runU_any, Ev.runU_alt]); conv => whnf) | ((with_reducible refine Ev.both ?_ ?_) <;> (conv => whnf)) | exact True.intro | ((first | refine Ev.el_map0 ?_ (fun hi => ?_) | refine Ev.el_mapN ?_ (fun hi => ?_)); rotate_left; conv => whnf) | ((with_reducible refine Ev.sd0 ?_); exact Ev.sd) | fail)
  · (refine Ev.to _ ?hs1 ?hh1 ?hc1 ⟨c', rfl, ?hp1⟩; (case hs1 | hh1 => ((repeat' (first | exact trivial | refine And.intro ?_ ?_)) <;> (first | exact Ev.se | (refine Ev.slot_eq rfl ?_; first | (rfl) | ((first | refine Ev.int_eq ?_ | refine Ev.own_eq ?_ | refine Ev.blk_eq ?_); (rfl))) | exact Ev.sr))); (case hc1 => exact Nat.le_refl _))
    trivial
  · (refine Ev.to _ ?hs2 ?hh2 ?hc2 ⟨c', rfl, ?hp2⟩; (case hs2 | hh2 => ((repeat' (first | exact trivial | refine And.intro ?_ ?_)) <;> (first | exact Ev.se | (refine Ev.slot_eq rfl ?_; first | (rfl) | ((first | refine Ev.int_eq ?_ | refine Ev.own_eq ?_ | refine Ev.blk_eq ?_); (rfl))) | exact Ev.sr))); (case hc2 => exact Nat.le_refl _))
    trivial
  · (refine Ev.to _ ?hs3 ?hh3 ?hc3 ⟨c', rfl, ?hp3⟩; (case hs3 | hh3 => ((repeat' (first | exact trivial | refine And.intro ?_ ?_)) <;> (first | exact Ev.se | (refine Ev.slot_eq rfl ?_; first | (rfl) | ((first | refine Ev.int_eq ?_ | refine Ev.own_eq ?_ | refine Ev.blk_eq ?_); (rfl))) | exact Ev.sr))); (case hc3 => exact Nat.le_refl _))
    trivial
  rintro _ ⟨c, rfl, _⟩
  repeat' (first | ((with_reducible refine Ev.br0 ?_); (first | refine Ev.brp ?_ | refine Ev.brn ?_); conv => whnf) | ((with_reducible refine Ev.c0 ?_); first | refine Ev.cp ?_ | refine Ev.cn ?_) | ((refine Ev.sw ?_); conv => whnf) | refine Ev.sn ?_ | ((with_reducible refine Ev.chk_k ?_ ?_); rotate_left; exact Ev.bt; conv => whnf) | ((with_reducible (refine Ev.RI.run ?_; constructor)) <;> intro _) | ((refine Ev.sg ?_); conv => whnf) | ((with_reducible refine Ev.sided ?_ ?_); conv => whnf) | ((with_reducible refine Ev.kr (hs := [29]) (fun Q hQ => ?_)); (simp only [Ev.runE_cons, Ev.runE_nil]); conv => whnf) | (with_reducible refine hQ _ ?_; clear hQ Q) | ((refine Ev.sf ?_); intro F hF; conv => whnf) | (with_reducible refine hF _ ?_; clear hF F) | ((with_reducible refine Ev.go_k (fun c' => ?_)); conv => whnf) | ((with_reducible refine Ev.il0 29 ?_); refine Ev.il 29 [0, 2] [.tmp 2] Tryd.func29 (comp29 _ rfl) (fun ct' => ?_)) | ((with_reducible refine Ev.ca0 ?_); (first | refine Ev.ca (hF) ?_); conv => whnf) | ((with_reducible refine Ev.dr0 ?_); (first | refine Ev.drt 5 [29] p0_FnZd ?_); intro Q hQ; (simp only [Ev.runT_fin, Ev.runT_oneF, Ev.runT_oneT, Ev.runT_two]); conv => whnf) | ((with_reducible refine Ev.dr0 ?_); (first | refine Ev.dru 9 [29] [[], [], [], [2], [2, 3], [2, 3, 4], [2, 3, 4, 5], [], [7], [7, 8], [2, 3, 4, 5, 6, 7, 8, 9], [], [11], [11, 12], [11, 12, 13], [11, 12, 13, 14], [], [16], [2, 3, 4, 5, 6, 7, 8, 9, 10, 11, 12, 13, 14, 15, 16, 17], [0, 2, 3, 4, 5, 6, 7, 8, 9, 10, 11, 12, 13, 14, 15, 16, 17, 18], [0, 2, 3, 4, 5, 6, 7, 8, 9, 10, 11, 12, 13, 14, 15, 16, 17, 18, 19], [0, 2, 3, 4, 5, 6, 7, 8, 9, 10, 11, 12, 13, 14, 15, 16, 17, 18, 19, 20], [0, 2, 3, 4, 5, 6, 7, 8, 9, 10, 11, 12, 13, 14, 15, 16, 17, 18, 19, 20, 21], [0, 1, 2, 3, 4, 5, 6, 7, 8, 9, 10, 11, 12, 13, 14, 15, 16, 17, 18, 19, 20, 21, 22], [0, 1, 2, 3, 4, 5, 6, 7, 8, 9, 10, 11, 12, 13, 14, 15, 16, 17, 18, 19, 20, 21, 22, 23], [0, 1, 2, 3, 4, 5, 6, 7, 8, 9, 10, 11, 12, 13, 14, 15, 16, 17, 18, 19, 20, 21, 22, 23, 24], [0, 1, 2, 3, 4, 5, 6, 7, 8, 9, 10, 11, 12, 13, 14, 15, 16, 17, 18, 19, 20, 21, 22, 23, 24, 25]] p1_FnZd ?_); intro Q hQ; (simp only [Ev.runU_fin, Ev.runU_stop, Ev.runU_oneF, Ev.runU_oneT, Ev.runU_any, Ev.runU_alt]); conv => whnf) | ((with_reducible refine Ev.both ?_ ?_) <;> (conv => whnf)) | exact True.intro | ((first | refine Ev.el_map0 ?_ (fun hi => ?_) | refine Ev.el_mapN ?_ (fun hi => ?_)); rotate_left; conv => whnf) | ((with_reducible refine Ev.sd0 ?_); exact Ev.sd) | fail)
  all_goals
    refine ⟨rfl, ?_⟩
    apply Exists.intro
    apply Exists.intro
    refine ⟨Ev.slot_eq rfl ?_, Ev.slot_eq rfl ?_, Ev.slot_eq rfl ?_, trivial⟩
    · rw [List.length_append, List.length_append]; rfl
    · rw [rowsA_add]
    · rw [ints_add]
theorem happ_call (vb vl fl vs fs : Nat) (Ls : List (List Sp)) (Ns : List Int) (t : ByteArray) (w : List Sp) (hw : w.length ≤ 100000000) (hb : tbs w ≤ 1000000000) (hN : Ns.length = Ls.length + 1) (hL : Ls.length ≤ 1000000) :
    HCallW env 65536 25 [.ptr 7000 vb 0 0, .lst 3 (sps w)] (hisG 7000 7001 7002 vb vl fl vs fs Ls Ns t)
      (fun r h => r = .v (.int .i64 (happE w (Ns.getLast (by intro e; rw [e] at hN; simp at hN)))) ∧ ∃ vl' vs' : Nat, h = hisG 7000 7001 7002 vb vl' fl vs' fs (Ls ++ if happE w (Ns.getLast (by intro e; rw [e] at hN; simp at hN)) = 0 then [norm w] else []) (Ns ++ if happE w (Ns.getLast (by intro e; rw [e] at hN; simp at hN)) = 0 then [outW w] else []) t) := by
  by_cases he : happE w (Ns.getLast (by intro e; rw [e] at hN; simp at hN)) = 0
  · refine hcall_sub (happ_ok vb vl fl vs fs Ls Ns t w hw hb hN hL he) ?_
    rintro r hp1 ⟨rfl, vl', vs', h⟩
    rw [he, if_pos rfl, if_pos rfl]
    exact ⟨_, ⟨rfl, vl', vs', rfl⟩, h⟩
  · rw [if_neg he, if_neg he, List.append_nil, List.append_nil]
    have hsm := tbs_small hb
    have hM := opMay_call w (by omega) hsm
    have hO := opOut_call w (by omega) hsm
    have hI := opIn_call w (by omega)
    have hrl := rowsA_len Ls
    have hil := ints_len Ns
    unfold happE at he ⊢
    by_cases m0 : opMayF w = 0
    · rw [if_neg (by simpa using m0)] at he ⊢
      rw [m0] at hM
      by_cases m1 : inW w = Ns.getLast (by intro e; rw [e] at hN; simp at hN)
      · rw [if_neg (by simpa using m1)] at he ⊢
        by_cases m2 : 1048576 < outW w
        · rw [if_pos m2]
          have m2 : 1048576 < sumW (fun s => outF s.k s.n s.t) w := m2
          rw [List.getLast_eq_getElem] at m1
          have m1' : ∀ h : Ls.length < Ns.length, sumW (fun s => inF s.k s.n) w = Ns[Ls.length]'h := fun h => by
            have m1' : sumW (fun s => inF s.k s.n) w = Ns[Ns.length - 1] := m1
            rw [m1']; congr 1; omega
          refine Ev.fnH [0, 1, 4, 5, 6, 10, 14, 29] 65536 [.tmp 4] Tryd.func25 (comp25 _ rfl) (fun ct => ?_)
          repeat' (first | (with_reducible refine Ev.c_pos m2 ?_) | (with_reducible refine Ev.br_pos m2 ?_) | (with_reducible refine Ev.c_pos (m1' _) ?_) | (with_reducible refine Ev.br_pos (m1' _) ?_) | ((with_reducible refine Ev.br0 ?_); (first | refine Ev.brp ?_ | refine Ev.brn ?_); conv => whnf) | ((with_reducible refine Ev.c0 ?_); first | refine Ev.cp ?_ | refine Ev.cn ?_) | ((refine Ev.sw ?_); conv => whnf) | refine Ev.sn ?_ | ((with_reducible refine Ev.chk_k ?_ ?_); rotate_left; exact Ev.bt; conv => whnf) | ((with_reducible (refine Ev.RI.run ?_; constructor)) <;> intro _) | ((refine Ev.sg ?_); conv => whnf) | ((with_reducible refine Ev.sided ?_ ?_); conv => whnf) | ((with_reducible refine Ev.kr (hs := [29]) (fun Q hQ => ?_)); (simp only [Ev.runE_cons, Ev.runE_nil]); conv => whnf) | (with_reducible refine hQ _ ?_; clear hQ Q) | ((refine Ev.sf ?_); intro F hF; conv => whnf) | (with_reducible refine hF _ ?_; clear hF F) | ((with_reducible refine Ev.go_k (fun c' => ?_)); conv => whnf) | ((with_reducible refine Ev.il0 29 ?_); refine Ev.il 29 [0, 2] [.tmp 2] Tryd.func29 (comp29 _ rfl) (fun ct' => ?_)) | ((with_reducible refine Ev.ca0 ?_); (first | refine Ev.ca (hM) ?_ | refine Ev.ca (hO) ?_ | refine Ev.ca (hI) ?_); conv => whnf) | ((with_reducible refine Ev.dr0 ?_); (first | refine Ev.drt 5 [29] p0_FnZd ?_); intro Q hQ; (simp only [Ev.runT_fin, Ev.runT_oneF, Ev.runT_oneT, Ev.runT_two]); conv => whnf) | ((with_reducible refine Ev.dr0 ?_); (first | refine Ev.dru 9 [29] [[], [], [], [2], [2, 3], [2, 3, 4], [2, 3, 4, 5], [], [7], [7, 8], [2, 3, 4, 5, 6, 7, 8, 9], [], [11], [11, 12], [11, 12, 13], [11, 12, 13, 14], [], [16], [2, 3, 4, 5, 6, 7, 8, 9, 10, 11, 12, 13, 14, 15, 16, 17], [0, 2, 3, 4, 5, 6, 7, 8, 9, 10, 11, 12, 13, 14, 15, 16, 17, 18], [0, 2, 3, 4, 5, 6, 7, 8, 9, 10, 11, 12, 13, 14, 15, 16, 17, 18, 19], [0, 2, 3, 4, 5, 6, 7, 8, 9, 10, 11, 12, 13, 14, 15, 16, 17, 18, 19, 20], [0, 2, 3, 4, 5, 6, 7, 8, 9, 10, 11, 12, 13, 14, 15, 16, 17, 18, 19, 20, 21], [0, 1, 2, 3, 4, 5, 6, 7, 8, 9, 10, 11, 12, 13, 14, 15, 16, 17, 18, 19, 20, 21, 22], [0, 1, 2, 3, 4, 5, 6, 7, 8, 9, 10, 11, 12, 13, 14, 15, 16, 17, 18, 19, 20, 21, 22, 23], [0, 1, 2, 3, 4, 5, 6, 7, 8, 9, 10, 11, 12, 13, 14, 15, 16, 17, 18, 19, 20, 21, 22, 23, 24], [0, 1, 2, 3, 4, 5, 6, 7, 8, 9, 10, 11, 12, 13, 14, 15, 16, 17, 18, 19, 20, 21, 22, 23, 24, 25]] p1_FnZd ?_); intro Q hQ; (simp only [Ev.runU_fin, Ev.runU_stop, Ev.runU_oneF, Ev.runU_oneT, Ev.runU_any, Ev.runU_alt]); conv => whnf) | ((with_reducible refine Ev.both ?_ ?_) <;> (conv => whnf)) | exact True.intro | ((first | refine Ev.el_map0 ?_ (fun hi => ?_) | refine Ev.el_mapN ?_ (fun hi => ?_)); rotate_left; conv => whnf) | ((with_reducible refine Ev.sd0 ?_); exact Ev.sd) | fail)
          all_goals exact ⟨rfl, vl, vs, rfl⟩
        · rw [if_neg m2] at he; exact absurd rfl he
      · rw [if_pos m1]
        rw [List.getLast_eq_getElem] at m1
        have m1' : ∀ h : Ls.length < Ns.length, ¬ sumW (fun s => inF s.k s.n) w = Ns[Ls.length]'h := fun h e => by
          refine m1 ?_
          show sumW (fun s => inF s.k s.n) w = Ns[Ns.length - 1]
          rw [e]; congr 1; omega
        refine Ev.fnH [0, 1, 4, 5, 6, 10, 14, 29] 65536 [.tmp 4] Tryd.func25 (comp25 _ rfl) (fun ct => ?_)
        repeat' (first | (with_reducible refine Ev.c_neg (m1' _) ?_) | (with_reducible refine Ev.br_neg (m1' _) ?_) | ((with_reducible refine Ev.br0 ?_); (first | refine Ev.brp ?_ | refine Ev.brn ?_); conv => whnf) | ((with_reducible refine Ev.c0 ?_); first | refine Ev.cp ?_ | refine Ev.cn ?_) | ((refine Ev.sw ?_); conv => whnf) | refine Ev.sn ?_ | ((with_reducible refine Ev.chk_k ?_ ?_); rotate_left; exact Ev.bt; conv => whnf) | ((with_reducible (refine Ev.RI.run ?_; constructor)) <;> intro _) | ((refine Ev.sg ?_); conv => whnf) | ((with_reducible refine Ev.sided ?_ ?_); conv => whnf) | ((with_reducible refine Ev.kr (hs := [29]) (fun Q hQ => ?_)); (simp only [Ev.runE_cons, Ev.runE_nil]); conv => whnf) | (with_reducible refine hQ _ ?_; clear hQ Q) | ((refine Ev.sf ?_); intro F hF; conv => whnf) | (with_reducible refine hF _ ?_; clear hF F) | ((with_reducible refine Ev.go_k (fun c' => ?_)); conv => whnf) | ((with_reducible refine Ev.il0 29 ?_); refine Ev.il 29 [0, 2] [.tmp 2] Tryd.func29 (comp29 _ rfl) (fun ct' => ?_)) | ((with_reducible refine Ev.ca0 ?_); (first | refine Ev.ca (hM) ?_ | refine Ev.ca (hO) ?_ | refine Ev.ca (hI) ?_); conv => whnf) | ((with_reducible refine Ev.dr0 ?_); (first | refine Ev.drt 5 [29] p0_FnZd ?_); intro Q hQ; (simp only [Ev.runT_fin, Ev.runT_oneF, Ev.runT_oneT, Ev.runT_two]); conv => whnf) | ((with_reducible refine Ev.dr0 ?_); (first | refine Ev.dru 9 [29] [[], [], [], [2], [2, 3], [2, 3, 4], [2, 3, 4, 5], [], [7], [7, 8], [2, 3, 4, 5, 6, 7, 8, 9], [], [11], [11, 12], [11, 12, 13], [11, 12, 13, 14], [], [16], [2, 3, 4, 5, 6, 7, 8, 9, 10, 11, 12, 13, 14, 15, 16, 17], [0, 2, 3, 4, 5, 6, 7, 8, 9, 10, 11, 12, 13, 14, 15, 16, 17, 18], [0, 2, 3, 4, 5, 6, 7, 8, 9, 10, 11, 12, 13, 14, 15, 16, 17, 18, 19], [0, 2, 3, 4, 5, 6, 7, 8, 9, 10, 11, 12, 13, 14, 15, 16, 17, 18, 19, 20], [0, 2, 3, 4, 5, 6, 7, 8, 9, 10, 11, 12, 13, 14, 15, 16, 17, 18, 19, 20, 21], [0, 1, 2, 3, 4, 5, 6, 7, 8, 9, 10, 11, 12, 13, 14, 15, 16, 17, 18, 19, 20, 21, 22], [0, 1, 2, 3, 4, 5, 6, 7, 8, 9, 10, 11, 12, 13, 14, 15, 16, 17, 18, 19, 20, 21, 22, 23], [0, 1, 2, 3, 4, 5, 6, 7, 8, 9, 10, 11, 12, 13, 14, 15, 16, 17, 18, 19, 20, 21, 22, 23, 24], [0, 1, 2, 3, 4, 5, 6, 7, 8, 9, 10, 11, 12, 13, 14, 15, 16, 17, 18, 19, 20, 21, 22, 23, 24, 25]] p1_FnZd ?_); intro Q hQ; (simp only [Ev.runU_fin, Ev.runU_stop, Ev.runU_oneF, Ev.runU_oneT, Ev.runU_any, Ev.runU_alt]); conv => whnf) | ((with_reducible refine Ev.both ?_ ?_) <;> (conv => whnf)) | exact True.intro | ((first | refine Ev.el_map0 ?_ (fun hi => ?_) | refine Ev.el_mapN ?_ (fun hi => ?_)); rotate_left; conv => whnf) | ((with_reducible refine Ev.sd0 ?_); exact Ev.sd) | fail)
        all_goals exact ⟨rfl, vl, vs, rfl⟩
    · rw [if_pos m0]
      refine Ev.fnH [0, 1, 4, 5, 6, 10, 14, 29] 65536 [.tmp 4] Tryd.func25 (comp25 _ rfl) (fun ct => ?_)
      repeat' (first | (with_reducible refine Ev.c_neg m0 ?_) | (with_reducible refine Ev.br_neg m0 ?_) | ((with_reducible refine Ev.br0 ?_); (first | refine Ev.brp ?_ | refine Ev.brn ?_); conv => whnf) | ((with_reducible refine Ev.c0 ?_); first | refine Ev.cp ?_ | refine Ev.cn ?_) | ((refine Ev.sw ?_); conv => whnf) | refine Ev.sn ?_ | ((with_reducible refine Ev.chk_k ?_ ?_); rotate_left; exact Ev.bt; conv => whnf) | ((with_reducible (refine Ev.RI.run ?_; constructor)) <;> intro _) | ((refine Ev.sg ?_); conv => whnf) | ((with_reducible refine Ev.sided ?_ ?_); conv => whnf) | ((with_reducible refine Ev.kr (hs := [29]) (fun Q hQ => ?_)); (simp only [Ev.runE_cons, Ev.runE_nil]); conv => whnf) | (with_reducible refine hQ _ ?_; clear hQ Q) | ((refine Ev.sf ?_); intro F hF; conv => whnf) | (with_reducible refine hF _ ?_; clear hF F) | ((with_reducible refine Ev.go_k (fun c' => ?_)); conv => whnf) | ((with_reducible refine Ev.il0 29 ?_); refine Ev.il 29 [0, 2] [.tmp 2] Tryd.func29 (comp29 _ rfl) (fun ct' => ?_)) | ((with_reducible refine Ev.ca0 ?_); (first | refine Ev.ca (hM) ?_ | refine Ev.ca (hO) ?_ | refine Ev.ca (hI) ?_); conv => whnf) | ((with_reducible refine Ev.dr0 ?_); (first | refine Ev.drt 5 [29] p0_FnZd ?_); intro Q hQ; (simp only [Ev.runT_fin, Ev.runT_oneF, Ev.runT_oneT, Ev.runT_two]); conv => whnf) | ((with_reducible refine Ev.dr0 ?_); (first | refine Ev.dru 9 [29] [[], [], [], [2], [2, 3], [2, 3, 4], [2, 3, 4, 5], [], [7], [7, 8], [2, 3, 4, 5, 6, 7, 8, 9], [], [11], [11, 12], [11, 12, 13], [11, 12, 13, 14], [], [16], [2, 3, 4, 5, 6, 7, 8, 9, 10, 11, 12, 13, 14, 15, 16, 17], [0, 2, 3, 4, 5, 6, 7, 8, 9, 10, 11, 12, 13, 14, 15, 16, 17, 18], [0, 2, 3, 4, 5, 6, 7, 8, 9, 10, 11, 12, 13, 14, 15, 16, 17, 18, 19], [0, 2, 3, 4, 5, 6, 7, 8, 9, 10, 11, 12, 13, 14, 15, 16, 17, 18, 19, 20], [0, 2, 3, 4, 5, 6, 7, 8, 9, 10, 11, 12, 13, 14, 15, 16, 17, 18, 19, 20, 21], [0, 1, 2, 3, 4, 5, 6, 7, 8, 9, 10, 11, 12, 13, 14, 15, 16, 17, 18, 19, 20, 21, 22], [0, 1, 2, 3, 4, 5, 6, 7, 8, 9, 10, 11, 12, 13, 14, 15, 16, 17, 18, 19, 20, 21, 22, 23], [0, 1, 2, 3, 4, 5, 6, 7, 8, 9, 10, 11, 12, 13, 14, 15, 16, 17, 18, 19, 20, 21, 22, 23, 24], [0, 1, 2, 3, 4, 5, 6, 7, 8, 9, 10, 11, 12, 13, 14, 15, 16, 17, 18, 19, 20, 21, 22, 23, 24, 25]] p1_FnZd ?_); intro Q hQ; (simp only [Ev.runU_fin, Ev.runU_stop, Ev.runU_oneF, Ev.runU_oneT, Ev.runU_any, Ev.runU_alt]); conv => whnf) | ((with_reducible refine Ev.both ?_ ?_) <;> (conv => whnf)) | exact True.intro | ((first | refine Ev.el_map0 ?_ (fun hi => ?_) | refine Ev.el_mapN ?_ (fun hi => ?_)); rotate_left; conv => whnf) | ((with_reducible refine Ev.sd0 ?_); exact Ev.sd) | fail)
      all_goals exact ⟨rfl, vl, vs, rfl⟩
theorem comp30 : ∀ c, Tryd.f30.body = some c → comp c = (.seq (.reg 0 [I.n 0 4 (.assign (.const (Value.string { data := #[] }))), I.n 1 5 (I.si 0)]) (.seq (.seq (.reg 1 [I.n 0 6 (I.mv 0), I.n 1 7 (I.nc 6), I.n 2 8 (I.fa 44 7 0), I.n 3 9 (I.mv 1), I.n 4 10 (I.c2 77 8 9 42 3), I.n 5 11 (.unOp .not 4 (.tmp 10))]) (.cond (.tmp 11) (.seq (.reg 2 [I.n 0 4 (.assign (.const (Value.string { data := #[] }))), I.n 1 5 (I.si 6)]) .ret) .skip)) (.seq (.draw 3 [I.n 0 12 (I.mv 0), I.n 1 13 (I.nc 12), I.n 2 14 (I.fa 44 13 1), I.n 3 15 (I.ld 9 14), I.n 4 16 (I.mv 0), I.n 5 17 (I.nc 16), I.n 6 18 (I.fa 44 17 0), I.n 7 19 (I.fa 42 18 0), I.n 8 20 (I.ld 22 19), I.n 9 21 (I.mv 1), I.n 10 22 (.slice 22 (.tmp 20) none (some (.tmp 21)) none), I.n 11 23 (I.c2 57 15 22 9 22), I.n 12 24 (I.ex 23 0), I.n 13 25 (I.ex 23 1), I.n 14 4 (I.sa 24), I.n 15 5 (I.sa 25)] [[], [0], [1], [2], [], [4], [5], [6], [7], [], [8, 9], [3, 10], [11], [11], [12, 11, 0, 1, 2, 3, 4, 5, 6, 7, 8, 9, 10, 11, 12, 13], [13, 14, 0, 1, 2, 3, 4, 5, 6, 7, 8, 9, 10, 11, 12, 13, 14]]) .ret))) := by
  intro c h
  have : c = Tryd.f30.body.get rfl := by rw [← Option.some_inj, ← h]; rfl
  rw [this]; rfl
theorem comp33 : ∀ c, Tryd.f33.body = some c → comp c = (.seq (.reg 0 [I.n 0 6 I.sn, I.n 1 7 (I.si 0)]) (.seq (.seq (.reg 1 [I.n 0 9 (I.mv 0), I.n 1 10 (I.nc 9), I.n 2 11 (I.fa 44 10 0), I.n 3 12 (I.mv 2), I.n 4 13 (I.c2 77 11 12 42 3), I.n 5 14 (.unOp .not 4 (.tmp 13))]) (.cond (.tmp 14) (.seq (.reg 2 [I.n 0 6 I.sn, I.n 1 7 (I.si 6)]) .ret) .skip)) (.seq (.seq (.reg 3 [I.n 0 15 (I.mv 1), I.n 1 16 (I.c1 72 15 23), I.n 2 8 (I.sa 16)]) (.seq (.reg 4 [I.n 0 17 (I.mv 8), I.n 1 18 (I.bc .neq 30 17 0 30)]) (.cond (.tmp 18) (.seq (.reg 5 [I.n 0 19 (I.mv 8), I.n 1 6 I.sn, I.n 2 7 (I.sa 19)]) .ret) .skip))) (.seq (.seq (.draw 6 [I.n 0 20 (I.mv 1), I.n 1 21 (I.c1 74 20 23), I.n 2 22 (I.mv 0), I.n 3 23 (I.nc 22), I.n 4 24 (I.fa 44 23 0), I.n 5 25 (I.fa 42 24 1), I.n 6 26 (I.ld 25 25), I.n 7 27 (I.mv 2), I.n 8 28 (I.ia 25 26 27), I.n 9 29 (I.ld 3 28), I.n 10 30 (I.bo .neq 3 21 29 3)] [[], [0], [], [2], [3], [4], [5], [], [6, 7], [8], [1, 9]]) (.cond (.tmp 30) (.seq (.reg 7 [I.n 0 6 I.sn, I.n 1 7 (I.si 5)]) .ret) .skip)) (.seq (.reg 8 [I.n 0 31 (I.mv 1), I.n 1 32 (I.mv 0), I.n 2 33 (I.nc 32), I.n 3 34 (I.fa 44 33 0), I.n 4 35 (I.fa 42 34 0), I.n 5 36 (I.ld 22 35), I.n 6 37 (I.mv 2), I.n 7 38 (.slice 22 (.tmp 36) (some (.tmp 37)) none none), I.n 8 39 (I.c2 68 31 38 23 22), I.n 9 40 (I.ex 39 0), I.n 10 41 (I.ex 39 1), I.n 11 6 (I.sa 40), I.n 12 7 (I.sa 41)]) .ret))))) := by
  intro c h
  have : c = Tryd.f33.body.get rfl := by rw [← Option.some_inj, ← h]; rfl
  rw [this]; rfl
theorem comp38 : ∀ c, Tryd.f38.body = some c → comp c = (.seq (.reg 0 [I.n 0 6 I.sn, I.n 1 7 (I.si 0)]) (.seq (.seq (.reg 1 [I.n 0 8 (I.mv 1), I.n 1 9 (I.bc .lss 3 8 0 3), I.n 2 10 (I.mv 9), I.w 3 11 (I.mv 2) 10 false, I.w 4 12 (I.mv 1) 10 false, I.w 5 13 (I.bo .lss 3 11 12 3) 10 false, I.n 6 14 (I.pb 10 true 13), I.n 7 15 (I.mv 14), I.w 8 16 (I.mv 0) 15 false, I.w 9 17 (I.nc 16) 15 false, I.w 10 18 (I.fa 44 17 0) 15 false, I.w 11 19 (I.mv 2) 15 false, I.w 12 20 (I.c2 77 18 19 42 3) 15 false, I.w 13 21 (.unOp .not 4 (.tmp 20)) 15 false, I.n 14 22 (I.pb 15 true 21)]) (.cond (.tmp 22) (.seq (.reg 2 [I.n 0 6 I.sn, I.n 1 7 (I.si 6)]) .ret) .skip)) (.seq (.draw 3 [I.n 0 23 (I.mv 0), I.n 1 24 (I.nc 23), I.n 2 25 (I.fa 44 24 0), I.n 3 26 (I.fa 42 25 1), I.n 4 27 (I.ld 25 26), I.n 5 28 (I.mv 1), I.n 6 29 (I.ia 25 27 28), I.n 7 30 (I.ld 3 29), I.n 8 31 (I.mv 0), I.n 9 32 (I.nc 31), I.n 10 33 (I.fa 44 32 0), I.n 11 34 (I.fa 42 33 0), I.n 12 35 (I.ld 22 34), I.n 13 36 (I.mv 1), I.n 14 37 (I.mv 2), I.n 15 38 (.slice 22 (.tmp 35) (some (.tmp 36)) (some (.tmp 37)) none), I.n 16 39 (I.c2 63 30 38 3 22), I.n 17 40 (I.ex 39 0), I.n 18 41 (I.ex 39 1), I.n 19 6 (I.sa 40), I.n 20 7 (I.sa 41)] [[], [0], [1], [2], [3], [], [4, 5], [6], [], [8], [9], [10], [11], [], [], [12, 13, 14], [7, 15], [16], [16], [17, 16, 0, 1, 2, 3, 4, 5, 6, 7, 8, 9, 10, 11, 12, 13, 14, 15, 16, 17, 18], [18, 19, 0, 1, 2, 3, 4, 5, 6, 7, 8, 9, 10, 11, 12, 13, 14, 15, 16, 17, 18, 19]]) .ret))) := by
  intro c h
  have : c = Tryd.f38.body.get rfl := by rw [← Option.some_inj, ← h]; rfl
  rw [this]; rfl
def hatA (t : ByteArray) (Ls : List (List Sp)) (r : Int) : AV := if 0 ≤ r ∧ r ≤ Ls.length then allA t (Ls.take r.toNat) else .tup [.v (.string ⟨#[]⟩), .v (.int .i64 6)]
theorem hat_call (vb vl fl vs fs : Nat) (Ls : List (List Sp)) (Ns : List Int) (t : ByteArray) (r : Int) (hx : ∀ x ∈ Ls, x.length ≤ 100000000) (hb : t.size + totb Ls ≤ 1000000000) (hL : Ls.length ≤ 1000000) :
    HCallW env 65536 30 [.ptr 7000 vb 0 0, .v (.int .i64 r)] (hisG 7000 7001 7002 vb vl fl vs fs Ls Ns t) (fun x h => x = hatA t Ls r ∧ ∃ fl' : Nat, subs h (hisG 7000 7001 7002 vb vl fl' vs fs Ls Ns t)) := by
  have hrl := rowsA_len Ls
  unfold hatA
  by_cases hr : 0 ≤ r ∧ r ≤ Ls.length
  · rw [if_pos hr]
    obtain ⟨h1, h2⟩ := hr
    have hA := all_call t (Ls.take r.toNat) (by rw [List.length_take]; omega) (fun x h => hx x (List.mem_of_mem_take h)) (by have := totb_take Ls r.toNat; omega)
    unfold allA at hA ⊢
    have hcut : List.take (r.toNat - 0) (List.drop (0 + 0) (rowsA Ls)) = rowsA (Ls.take r.toNat) := by simp [rowsA]
    rw [← hcut] at hA
    refine Ev.fnH [0, 1, 4, 5, 11] 65536 [.tmp 4, .tmp 5] Tryd.func30 (comp30 _ rfl) (fun ct => ?_)
    repeat' (first | (with_reducible refine Ev.c_pos h2 ?_) | (with_reducible refine Ev.br_pos h2 ?_) | (with_reducible refine Ev.c_pos h1 ?_) | (with_reducible refine Ev.br_pos h1 ?_) | ((with_reducible refine Ev.br0 ?_); (first | refine Ev.brp ?_ | refine Ev.brn ?_); conv => whnf) | ((with_reducible refine Ev.c0 ?_); first | refine Ev.cp ?_ | refine Ev.cn ?_) | ((refine Ev.sw ?_); conv => whnf) | refine Ev.sn ?_ | ((with_reducible refine Ev.chk_k ?_ ?_); rotate_left; exact Ev.bt; conv => whnf) | ((with_reducible (refine Ev.RI.run ?_; constructor)) <;> intro _) | ((refine Ev.sg ?_); conv => whnf) | ((with_reducible refine Ev.sided ?_ ?_); conv => whnf) | ((with_reducible refine Ev.kr (hs := [29, 77]) (fun Q hQ => ?_)); (simp only [Ev.runE_cons, Ev.runE_nil]); conv => whnf) | (with_reducible refine hQ _ ?_; clear hQ Q) | ((refine Ev.sf ?_); intro F hF; conv => whnf) | (with_reducible refine hF _ ?_; clear hF F) | ((with_reducible refine Ev.go_k (fun c' => ?_)); conv => whnf) | ((with_reducible refine Ev.il0 29 ?_); refine Ev.il 29 [0, 2] [.tmp 2] Tryd.func29 (comp29 _ rfl) (fun ct' => ?_)) | ((with_reducible refine Ev.il0 77 ?_); refine Ev.il 77 [0, 1, 4] [.tmp 4] Tryd.func77 (comp77 _ rfl) (fun ct' => ?_)) | ((with_reducible refine Ev.ca0 ?_); (first | refine Ev.ca (hA) ?_); conv => whnf) | ((with_reducible refine Ev.dr0 ?_); (first | refine Ev.dr 3 [29, 77] [0, 1, 2, 3, 4, 5, 6, 7, 8, 9, 10, 11, 12, 13, 14, 15] ?_); intro Q hQ; (simp only [Ev.runE_cons, Ev.runE_nil]); conv => whnf) | ((first | refine Ev.el_map0 ?_ (fun hi => ?_) | refine Ev.el_mapN ?_ (fun hi => ?_)); rotate_left; conv => whnf) | ((with_reducible refine Ev.sd0 ?_); exact Ev.sd) | fail)
    all_goals exact ⟨rfl, _, Ev.slot_eq rfl rfl, Ev.slot_eq rfl rfl, Ev.slot_eq rfl rfl, trivial⟩
  · rw [if_neg hr]
    by_cases h1 : 0 ≤ r
    · have h2 : ¬ r ≤ Ls.length := fun h2 => hr ⟨h1, h2⟩
      refine Ev.fnH [0, 1, 4, 5, 11] 65536 [.tmp 4, .tmp 5] Tryd.func30 (comp30 _ rfl) (fun ct => ?_)
      repeat' (first | (with_reducible refine Ev.c_neg h2 ?_) | (with_reducible refine Ev.br_neg h2 ?_) | (with_reducible refine Ev.c_pos h1 ?_) | (with_reducible refine Ev.br_pos h1 ?_) | ((with_reducible refine Ev.br0 ?_); (first | refine Ev.brp ?_ | refine Ev.brn ?_); conv => whnf) | ((with_reducible refine Ev.c0 ?_); first | refine Ev.cp ?_ | refine Ev.cn ?_) | ((refine Ev.sw ?_); conv => whnf) | refine Ev.sn ?_ | ((with_reducible refine Ev.chk_k ?_ ?_); rotate_left; exact Ev.bt; conv => whnf) | ((with_reducible (refine Ev.RI.run ?_; constructor)) <;> intro _) | ((refine Ev.sg ?_); conv => whnf) | ((with_reducible refine Ev.sided ?_ ?_); conv => whnf) | ((with_reducible refine Ev.kr (hs := [29, 77]) (fun Q hQ => ?_)); (simp only [Ev.runE_cons, Ev.runE_nil]); conv => whnf) | (with_reducible refine hQ _ ?_; clear hQ Q) | ((refine Ev.sf ?_); intro F hF; conv => whnf) | (with_reducible refine hF _ ?_; clear hF F) | ((with_reducible refine Ev.go_k (fun c' => ?_)); conv => whnf) | ((with_reducible refine Ev.il0 29 ?_); refine Ev.il 29 [0, 2] [.tmp 2] Tryd.func29 (comp29 _ rfl) (fun ct' => ?_)) | ((with_reducible refine Ev.il0 77 ?_); refine Ev.il 77 [0, 1, 4] [.tmp 4] Tryd.func77 (comp77 _ rfl) (fun ct' => ?_)) | ((with_reducible refine Ev.dr0 ?_); (first | refine Ev.dr 3 [29, 77] [0, 1, 2, 3, 4, 5, 6, 7, 8, 9, 10, 11, 12, 13, 14, 15] ?_); intro Q hQ; (simp only [Ev.runE_cons, Ev.runE_nil]); conv => whnf) | ((first | refine Ev.el_map0 ?_ (fun hi => ?_) | refine Ev.el_mapN ?_ (fun hi => ?_)); rotate_left; conv => whnf) | ((with_reducible refine Ev.sd0 ?_); exact Ev.sd) | fail)
      all_goals exact ⟨rfl, fl, Ev.slot_eq rfl rfl, Ev.slot_eq rfl rfl, Ev.slot_eq rfl rfl, trivial⟩
    · refine Ev.fnH [0, 1, 4, 5, 11] 65536 [.tmp 4, .tmp 5] Tryd.func30 (comp30 _ rfl) (fun ct => ?_)
      repeat' (first | (with_reducible refine Ev.c_neg h1 ?_) | (with_reducible refine Ev.br_neg h1 ?_) | ((with_reducible refine Ev.br0 ?_); (first | refine Ev.brp ?_ | refine Ev.brn ?_); conv => whnf) | ((with_reducible refine Ev.c0 ?_); first | refine Ev.cp ?_ | refine Ev.cn ?_) | ((refine Ev.sw ?_); conv => whnf) | refine Ev.sn ?_ | ((with_reducible refine Ev.chk_k ?_ ?_); rotate_left; exact Ev.bt; conv => whnf) | ((with_reducible (refine Ev.RI.run ?_; constructor)) <;> intro _) | ((refine Ev.sg ?_); conv => whnf) | ((with_reducible refine Ev.sided ?_ ?_); conv => whnf) | ((with_reducible refine Ev.kr (hs := [29, 77]) (fun Q hQ => ?_)); (simp only [Ev.runE_cons, Ev.runE_nil]); conv => whnf) | (with_reducible refine hQ _ ?_; clear hQ Q) | ((refine Ev.sf ?_); intro F hF; conv => whnf) | (with_reducible refine hF _ ?_; clear hF F) | ((with_reducible refine Ev.go_k (fun c' => ?_)); conv => whnf) | ((with_reducible refine Ev.il0 29 ?_); refine Ev.il 29 [0, 2] [.tmp 2] Tryd.func29 (comp29 _ rfl) (fun ct' => ?_)) | ((with_reducible refine Ev.il0 77 ?_); refine Ev.il 77 [0, 1, 4] [.tmp 4] Tryd.func77 (comp77 _ rfl) (fun ct' => ?_)) | ((with_reducible refine Ev.dr0 ?_); (first | refine Ev.dr 3 [29, 77] [0, 1, 2, 3, 4, 5, 6, 7, 8, 9, 10, 11, 12, 13, 14, 15] ?_); intro Q hQ; (simp only [Ev.runE_cons, Ev.runE_nil]); conv => whnf) | ((first | refine Ev.el_map0 ?_ (fun hi => ?_) | refine Ev.el_mapN ?_ (fun hi => ?_)); rotate_left; conv => whnf) | ((with_reducible refine Ev.sd0 ?_); exact Ev.sd) | fail)
      all_goals exact ⟨rfl, fl, Ev.slot_eq rfl rfl, Ev.slot_eq rfl rfl, Ev.slot_eq rfl rfl, trivial⟩
def hovE (Ls : List (List Sp)) (Ns : List Int) (a : List Sp) (r : Int) : Int := if 0 ≤ r ∧ r ≤ Ls.length then (if opMayF a ≠ 0 then opMayF a else if inW a ≠ Ns.getD r.toNat 0 then 5 else 0) else 6
def hovA (Ls : List (List Sp)) (Ns : List Int) (a : List Sp) (r : Int) : AV := if hovE Ls Ns a r = 0 then thrA a (Ls.drop r.toNat) else .tup [nilA, .v (.int .i64 (hovE Ls Ns a r))]
theorem lenS_drop (Ls : List (List Sp)) (i : Nat) : lenS (Ls.drop i) ≤ lenS Ls := by
  induction Ls generalizing i with
  | nil => simp
  | cons x L ih =>
    cases i with
    | zero => exact Nat.le_refl _
    | succ i => rw [List.drop_succ_cons, (lenS_cons x L).1]; have := ih i; omega
theorem hov_call (vb vl fl vs fs : Nat) (Ls : List (List Sp)) (Ns : List Int) (t : ByteArray) (a : List Sp) (r : Int) (hN : Ns.length = Ls.length + 1) (hl : a.length + lenS Ls ≤ 9999999) (ha : tbs a ≤ 100000000) (hb : ∀ x ∈ Ls, tbs x ≤ 100000000) (hL : Ls.length ≤ 1000000) (ho : ∀ s ∈ Ls, opMayF s = 0 → sumI outS s ≤ 1048576) :
    HCallW env 65536 33 [.ptr 7000 vb 0 0, .lst 3 (sps a), .v (.int .i64 r)] (hisG 7000 7001 7002 vb vl fl vs fs Ls Ns t) (fun x h => x = hovA Ls Ns a r ∧ ∃ fl' : Nat, subs h (hisG 7000 7001 7002 vb vl fl' vs fs Ls Ns t)) := by
  have hrl := rowsA_len Ls
  have hil := ints_len Ns
  have hsm : Small a := tbs_small (by omega)
  have hM := opMay_call a (by omega) hsm
  have hI := opIn_call a (by omega)
  have hT := thr_call a (Ls.drop r.toNat) (by have := lenS_drop Ls r.toNat; omega) ha (fun x h => hb x (List.mem_of_mem_drop h)) (by rw [List.length_drop]; omega) (fun s h => ho s (List.mem_of_mem_drop h))
  have hcut : List.take (Ls.length - r.toNat) (List.drop (0 + r.toNat) (rowsA Ls)) = rowsA (Ls.drop r.toNat) := by rw [Nat.zero_add, List.take_of_length_le (by simp [rowsA])]; simp [rowsA]
  rw [← hcut] at hT
  unfold hovA
  by_cases hr : 0 ≤ r ∧ r ≤ Ls.length
  · obtain ⟨h1, h2⟩ := hr
    obtain ⟨n, rfl⟩ := Int.eq_ofNat_of_zero_le h1
    have hd : ∀ h : n < Ns.length, Ns.getD (n : Int).toNat 0 = Ns[n]'h := fun h => by rw [Int.toNat_natCast, List.getD_eq_getElem?_getD, List.getElem?_eq_getElem h]; rfl
    have hrn : n < Ns.length := by omega
    by_cases m0 : opMayF a = 0
    · rw [m0] at hM
      by_cases m1 : sumW (fun s => inF s.k s.n) a = Ns[n]
      · have m1' : inW a = Ns[n] := m1
        have e : hovE Ls Ns a n = 0 := by unfold hovE; rw [if_pos ⟨h1, h2⟩, hd hrn, if_neg (by simpa using m0), if_neg (by simpa using m1')]
        rw [if_pos e]
        unfold thrA at hT ⊢
        have m1 : ∀ h : n < Ns.length, sumW (fun s => inF s.k s.n) a = Ns[n]'h := fun _ => m1
        by_cases ht : tmE a (Ls.drop (n : Int).toNat) = 0
        · rw [ht, if_pos rfl] at hT ⊢
          refine Ev.fnH [0, 1, 2, 6, 7, 8, 14, 18, 30] 65536 [.tmp 6, .tmp 7] Tryd.func33 (comp33 _ rfl) (fun ct => ?_)
          repeat' (first | (with_reducible refine Ev.c_pos h2 ?_) | (with_reducible refine Ev.br_pos h2 ?_) | (with_reducible refine Ev.c_pos h1 ?_) | (with_reducible refine Ev.br_pos h1 ?_) | (with_reducible refine Ev.c_pos (m1 _) ?_) | (with_reducible refine Ev.br_pos (m1 _) ?_) | ((with_reducible refine Ev.br0 ?_); (first | refine Ev.brp ?_ | refine Ev.brn ?_); conv => whnf) | ((with_reducible refine Ev.c0 ?_); first | refine Ev.cp ?_ | refine Ev.cn ?_) | ((refine Ev.sw ?_); conv => whnf) | refine Ev.sn ?_ | ((with_reducible refine Ev.chk_k ?_ ?_); rotate_left; exact Ev.bt; conv => whnf) | ((with_reducible (refine Ev.RI.run ?_; constructor)) <;> intro _) | ((refine Ev.sg ?_); conv => whnf) | ((with_reducible refine Ev.sided ?_ ?_); conv => whnf) | ((with_reducible refine Ev.kr (hs := [29, 77]) (fun Q hQ => ?_)); (simp only [Ev.runE_cons, Ev.runE_nil]); conv => whnf) | (with_reducible refine hQ _ ?_; clear hQ Q) | ((refine Ev.sf ?_); intro F hF; conv => whnf) | (with_reducible refine hF _ ?_; clear hF F) | ((with_reducible refine Ev.go_k (fun c' => ?_)); conv => whnf) | ((with_reducible refine Ev.il0 29 ?_); refine Ev.il 29 [0, 2] [.tmp 2] Tryd.func29 (comp29 _ rfl) (fun ct' => ?_)) | ((with_reducible refine Ev.il0 77 ?_); refine Ev.il 77 [0, 1, 4] [.tmp 4] Tryd.func77 (comp77 _ rfl) (fun ct' => ?_)) | ((with_reducible refine Ev.ca0 ?_); (first | refine Ev.ca (hM) ?_ | refine Ev.ca (hI) ?_ | refine Ev.ca (hT) ?_); conv => whnf) | ((with_reducible refine Ev.dr0 ?_); (first | refine Ev.dr 6 [29, 77] [0, 2, 3, 4, 5, 6, 7, 8, 9, 1, 10] ?_); intro Q hQ; (simp only [Ev.runE_cons, Ev.runE_nil]); conv => whnf) | ((first | refine Ev.el_map0 ?_ (fun hi => ?_) | refine Ev.el_mapN ?_ (fun hi => ?_)); rotate_left; conv => whnf) | ((with_reducible refine Ev.sd0 ?_); exact Ev.sd) | fail)
          all_goals exact ⟨rfl, _, Ev.slot_eq rfl rfl, Ev.slot_eq rfl rfl, Ev.slot_eq rfl rfl, trivial⟩
        · rw [if_neg ht] at hT ⊢
          refine Ev.fnH [0, 1, 2, 6, 7, 8, 14, 18, 30] 65536 [.tmp 6, .tmp 7] Tryd.func33 (comp33 _ rfl) (fun ct => ?_)
          repeat' (first | (with_reducible refine Ev.c_pos h2 ?_) | (with_reducible refine Ev.br_pos h2 ?_) | (with_reducible refine Ev.c_pos h1 ?_) | (with_reducible refine Ev.br_pos h1 ?_) | (with_reducible refine Ev.c_pos (m1 _) ?_) | (with_reducible refine Ev.br_pos (m1 _) ?_) | ((with_reducible refine Ev.br0 ?_); (first | refine Ev.brp ?_ | refine Ev.brn ?_); conv => whnf) | ((with_reducible refine Ev.c0 ?_); first | refine Ev.cp ?_ | refine Ev.cn ?_) | ((refine Ev.sw ?_); conv => whnf) | refine Ev.sn ?_ | ((with_reducible refine Ev.chk_k ?_ ?_); rotate_left; exact Ev.bt; conv => whnf) | ((with_reducible (refine Ev.RI.run ?_; constructor)) <;> intro _) | ((refine Ev.sg ?_); conv => whnf) | ((with_reducible refine Ev.sided ?_ ?_); conv => whnf) | ((with_reducible refine Ev.kr (hs := [29, 77]) (fun Q hQ => ?_)); (simp only [Ev.runE_cons, Ev.runE_nil]); conv => whnf) | (with_reducible refine hQ _ ?_; clear hQ Q) | ((refine Ev.sf ?_); intro F hF; conv => whnf) | (with_reducible refine hF _ ?_; clear hF F) | ((with_reducible refine Ev.go_k (fun c' => ?_)); conv => whnf) | ((with_reducible refine Ev.il0 29 ?_); refine Ev.il 29 [0, 2] [.tmp 2] Tryd.func29 (comp29 _ rfl) (fun ct' => ?_)) | ((with_reducible refine Ev.il0 77 ?_); refine Ev.il 77 [0, 1, 4] [.tmp 4] Tryd.func77 (comp77 _ rfl) (fun ct' => ?_)) | ((with_reducible refine Ev.ca0 ?_); (first | refine Ev.ca (hM) ?_ | refine Ev.ca (hI) ?_ | refine Ev.ca (hT) ?_); conv => whnf) | ((with_reducible refine Ev.dr0 ?_); (first | refine Ev.dr 6 [29, 77] [0, 2, 3, 4, 5, 6, 7, 8, 9, 1, 10] ?_); intro Q hQ; (simp only [Ev.runE_cons, Ev.runE_nil]); conv => whnf) | ((first | refine Ev.el_map0 ?_ (fun hi => ?_) | refine Ev.el_mapN ?_ (fun hi => ?_)); rotate_left; conv => whnf) | ((with_reducible refine Ev.sd0 ?_); exact Ev.sd) | fail)
          all_goals exact ⟨rfl, _, Ev.slot_eq rfl rfl, Ev.slot_eq rfl rfl, Ev.slot_eq rfl rfl, trivial⟩
      · have m1' : ¬ inW a = Ns[n] := m1
        have e : hovE Ls Ns a n = 5 := by unfold hovE; rw [if_pos ⟨h1, h2⟩, hd hrn, if_neg (by simpa using m0), if_pos m1']
        rw [if_neg (by rw [e]; decide), e]
        have m1 : ∀ h : n < Ns.length, ¬ sumW (fun s => inF s.k s.n) a = Ns[n]'h := fun _ => m1
        refine Ev.fnH [0, 1, 2, 6, 7, 8, 14, 18, 30] 65536 [.tmp 6, .tmp 7] Tryd.func33 (comp33 _ rfl) (fun ct => ?_)
        repeat' (first | (with_reducible refine Ev.c_pos h2 ?_) | (with_reducible refine Ev.br_pos h2 ?_) | (with_reducible refine Ev.c_pos h1 ?_) | (with_reducible refine Ev.br_pos h1 ?_) | (with_reducible refine Ev.c_neg (m1 _) ?_) | (with_reducible refine Ev.br_neg (m1 _) ?_) | ((with_reducible refine Ev.br0 ?_); (first | refine Ev.brp ?_ | refine Ev.brn ?_); conv => whnf) | ((with_reducible refine Ev.c0 ?_); first | refine Ev.cp ?_ | refine Ev.cn ?_) | ((refine Ev.sw ?_); conv => whnf) | refine Ev.sn ?_ | ((with_reducible refine Ev.chk_k ?_ ?_); rotate_left; exact Ev.bt; conv => whnf) | ((with_reducible (refine Ev.RI.run ?_; constructor)) <;> intro _) | ((refine Ev.sg ?_); conv => whnf) | ((with_reducible refine Ev.sided ?_ ?_); conv => whnf) | ((with_reducible refine Ev.kr (hs := [29, 77]) (fun Q hQ => ?_)); (simp only [Ev.runE_cons, Ev.runE_nil]); conv => whnf) | (with_reducible refine hQ _ ?_; clear hQ Q) | ((refine Ev.sf ?_); intro F hF; conv => whnf) | (with_reducible refine hF _ ?_; clear hF F) | ((with_reducible refine Ev.go_k (fun c' => ?_)); conv => whnf) | ((with_reducible refine Ev.il0 29 ?_); refine Ev.il 29 [0, 2] [.tmp 2] Tryd.func29 (comp29 _ rfl) (fun ct' => ?_)) | ((with_reducible refine Ev.il0 77 ?_); refine Ev.il 77 [0, 1, 4] [.tmp 4] Tryd.func77 (comp77 _ rfl) (fun ct' => ?_)) | ((with_reducible refine Ev.ca0 ?_); (first | refine Ev.ca (hM) ?_ | refine Ev.ca (hI) ?_); conv => whnf) | ((with_reducible refine Ev.dr0 ?_); (first | refine Ev.dr 6 [29, 77] [0, 2, 3, 4, 5, 6, 7, 8, 9, 1, 10] ?_); intro Q hQ; (simp only [Ev.runE_cons, Ev.runE_nil]); conv => whnf) | ((first | refine Ev.el_map0 ?_ (fun hi => ?_) | refine Ev.el_mapN ?_ (fun hi => ?_)); rotate_left; conv => whnf) | ((with_reducible refine Ev.sd0 ?_); exact Ev.sd) | fail)
        all_goals exact ⟨rfl, fl, Ev.slot_eq rfl rfl, Ev.slot_eq rfl rfl, Ev.slot_eq rfl rfl, trivial⟩
    · have e : hovE Ls Ns a n = opMayF a := by unfold hovE; rw [if_pos ⟨h1, h2⟩, if_pos m0]
      rw [if_neg (by rw [e]; exact m0), e]
      refine Ev.fnH [0, 1, 2, 6, 7, 8, 14, 18, 30] 65536 [.tmp 6, .tmp 7] Tryd.func33 (comp33 _ rfl) (fun ct => ?_)
      repeat' (first | (with_reducible refine Ev.c_pos h2 ?_) | (with_reducible refine Ev.br_pos h2 ?_) | (with_reducible refine Ev.c_pos h1 ?_) | (with_reducible refine Ev.br_pos h1 ?_) | (with_reducible refine Ev.c_neg m0 ?_) | (with_reducible refine Ev.br_neg m0 ?_) | ((with_reducible refine Ev.br0 ?_); (first | refine Ev.brp ?_ | refine Ev.brn ?_); conv => whnf) | ((with_reducible refine Ev.c0 ?_); first | refine Ev.cp ?_ | refine Ev.cn ?_) | ((refine Ev.sw ?_); conv => whnf) | refine Ev.sn ?_ | ((with_reducible refine Ev.chk_k ?_ ?_); rotate_left; exact Ev.bt; conv => whnf) | ((with_reducible (refine Ev.RI.run ?_; constructor)) <;> intro _) | ((refine Ev.sg ?_); conv => whnf) | ((with_reducible refine Ev.sided ?_ ?_); conv => whnf) | ((with_reducible refine Ev.kr (hs := [29, 77]) (fun Q hQ => ?_)); (simp only [Ev.runE_cons, Ev.runE_nil]); conv => whnf) | (with_reducible refine hQ _ ?_; clear hQ Q) | ((refine Ev.sf ?_); intro F hF; conv => whnf) | (with_reducible refine hF _ ?_; clear hF F) | ((with_reducible refine Ev.go_k (fun c' => ?_)); conv => whnf) | ((with_reducible refine Ev.il0 29 ?_); refine Ev.il 29 [0, 2] [.tmp 2] Tryd.func29 (comp29 _ rfl) (fun ct' => ?_)) | ((with_reducible refine Ev.il0 77 ?_); refine Ev.il 77 [0, 1, 4] [.tmp 4] Tryd.func77 (comp77 _ rfl) (fun ct' => ?_)) | ((with_reducible refine Ev.ca0 ?_); (first | refine Ev.ca (hM) ?_ | refine Ev.ca (hI) ?_); conv => whnf) | ((with_reducible refine Ev.dr0 ?_); (first | refine Ev.dr 6 [29, 77] [0, 2, 3, 4, 5, 6, 7, 8, 9, 1, 10] ?_); intro Q hQ; (simp only [Ev.runE_cons, Ev.runE_nil]); conv => whnf) | ((first | refine Ev.el_map0 ?_ (fun hi => ?_) | refine Ev.el_mapN ?_ (fun hi => ?_)); rotate_left; conv => whnf) | ((with_reducible refine Ev.sd0 ?_); exact Ev.sd) | fail)
      all_goals exact ⟨rfl, fl, Ev.slot_eq rfl rfl, Ev.slot_eq rfl rfl, Ev.slot_eq rfl rfl, trivial⟩
  · have e : hovE Ls Ns a r = 6 := by unfold hovE; rw [if_neg hr]
    rw [if_neg (by rw [e]; decide), e]
    by_cases h1 : 0 ≤ r
    · have h2 : ¬ r ≤ Ls.length := fun h2 => hr ⟨h1, h2⟩
      refine Ev.fnH [0, 1, 2, 6, 7, 8, 14, 18, 30] 65536 [.tmp 6, .tmp 7] Tryd.func33 (comp33 _ rfl) (fun ct => ?_)
      repeat' (first | (with_reducible refine Ev.c_neg h2 ?_) | (with_reducible refine Ev.br_neg h2 ?_) | (with_reducible refine Ev.c_pos h1 ?_) | (with_reducible refine Ev.br_pos h1 ?_) | ((with_reducible refine Ev.br0 ?_); (first | refine Ev.brp ?_ | refine Ev.brn ?_); conv => whnf) | ((with_reducible refine Ev.c0 ?_); first | refine Ev.cp ?_ | refine Ev.cn ?_) | ((refine Ev.sw ?_); conv => whnf) | refine Ev.sn ?_ | ((with_reducible refine Ev.chk_k ?_ ?_); rotate_left; exact Ev.bt; conv => whnf) | ((with_reducible (refine Ev.RI.run ?_; constructor)) <;> intro _) | ((refine Ev.sg ?_); conv => whnf) | ((with_reducible refine Ev.sided ?_ ?_); conv => whnf) | ((with_reducible refine Ev.kr (hs := [29, 77]) (fun Q hQ => ?_)); (simp only [Ev.runE_cons, Ev.runE_nil]); conv => whnf) | (with_reducible refine hQ _ ?_; clear hQ Q) | ((refine Ev.sf ?_); intro F hF; conv => whnf) | (with_reducible refine hF _ ?_; clear hF F) | ((with_reducible refine Ev.go_k (fun c' => ?_)); conv => whnf) | ((with_reducible refine Ev.il0 29 ?_); refine Ev.il 29 [0, 2] [.tmp 2] Tryd.func29 (comp29 _ rfl) (fun ct' => ?_)) | ((with_reducible refine Ev.il0 77 ?_); refine Ev.il 77 [0, 1, 4] [.tmp 4] Tryd.func77 (comp77 _ rfl) (fun ct' => ?_)) | ((with_reducible refine Ev.dr0 ?_); (first | refine Ev.dr 6 [29, 77] [0, 2, 3, 4, 5, 6, 7, 8, 9, 1, 10] ?_); intro Q hQ; (simp only [Ev.runE_cons, Ev.runE_nil]); conv => whnf) | ((first | refine Ev.el_map0 ?_ (fun hi => ?_) | refine Ev.el_mapN ?_ (fun hi => ?_)); rotate_left; conv => whnf) | ((with_reducible refine Ev.sd0 ?_); exact Ev.sd) | fail)
      all_goals exact ⟨rfl, fl, Ev.slot_eq rfl rfl, Ev.slot_eq rfl rfl, Ev.slot_eq rfl rfl, trivial⟩
    · refine Ev.fnH [0, 1, 2, 6, 7, 8, 14, 18, 30] 65536 [.tmp 6, .tmp 7] Tryd.func33 (comp33 _ rfl) (fun ct => ?_)
      repeat' (first | (with_reducible refine Ev.c_neg h1 ?_) | (with_reducible refine Ev.br_neg h1 ?_) | ((with_reducible refine Ev.br0 ?_); (first | refine Ev.brp ?_ | refine Ev.brn ?_); conv => whnf) | ((with_reducible refine Ev.c0 ?_); first | refine Ev.cp ?_ | refine Ev.cn ?_) | ((refine Ev.sw ?_); conv => whnf) | refine Ev.sn ?_ | ((with_reducible refine Ev.chk_k ?_ ?_); rotate_left; exact Ev.bt; conv => whnf) | ((with_reducible (refine Ev.RI.run ?_; constructor)) <;> intro _) | ((refine Ev.sg ?_); conv => whnf) | ((with_reducible refine Ev.sided ?_ ?_); conv => whnf) | ((with_reducible refine Ev.kr (hs := [29, 77]) (fun Q hQ => ?_)); (simp only [Ev.runE_cons, Ev.runE_nil]); conv => whnf) | (with_reducible refine hQ _ ?_; clear hQ Q) | ((refine Ev.sf ?_); intro F hF; conv => whnf) | (with_reducible refine hF _ ?_; clear hF F) | ((with_reducible refine Ev.go_k (fun c' => ?_)); conv => whnf) | ((with_reducible refine Ev.il0 29 ?_); refine Ev.il 29 [0, 2] [.tmp 2] Tryd.func29 (comp29 _ rfl) (fun ct' => ?_)) | ((with_reducible refine Ev.il0 77 ?_); refine Ev.il 77 [0, 1, 4] [.tmp 4] Tryd.func77 (comp77 _ rfl) (fun ct' => ?_)) | ((with_reducible refine Ev.dr0 ?_); (first | refine Ev.dr 6 [29, 77] [0, 2, 3, 4, 5, 6, 7, 8, 9, 1, 10] ?_); intro Q hQ; (simp only [Ev.runE_cons, Ev.runE_nil]); conv => whnf) | ((first | refine Ev.el_map0 ?_ (fun hi => ?_) | refine Ev.el_mapN ?_ (fun hi => ?_)); rotate_left; conv => whnf) | ((with_reducible refine Ev.sd0 ?_); exact Ev.sd) | fail)
      all_goals exact ⟨rfl, fl, Ev.slot_eq rfl rfl, Ev.slot_eq rfl rfl, Ev.slot_eq rfl rfl, trivial⟩
def hruA (Ls : List (List Sp)) (Ns : List Int) (r s : Int) : AV := if 0 ≤ r ∧ r ≤ s ∧ s ≤ Ls.length then foldA (keepL (Ns.getD r.toNat 0)) ((Ls.drop r.toNat).take (s.toNat - r.toNat)) else .tup [nilA, .v (.int .i64 6)]
theorem lenS_take (Ls : List (List Sp)) (i : Nat) : lenS (Ls.take i) ≤ lenS Ls ∧ tbsS (Ls.take i) ≤ tbsS Ls := by
  induction Ls generalizing i with
  | nil => simp
  | cons x L ih =>
    cases i with
    | zero => rw [List.take_zero]; exact ⟨Nat.zero_le _, Nat.zero_le _⟩
    | succ i => rw [List.take_succ_cons, (lenS_cons x L).1, (lenS_cons x L).2, (lenS_cons x _).1, (lenS_cons x _).2]; have := ih i; omega
theorem tbsS_drop (Ls : List (List Sp)) (i : Nat) : tbsS (Ls.drop i) ≤ tbsS Ls := by
  induction Ls generalizing i with
  | nil => simp
  | cons x L ih =>
    cases i with
    | zero => exact Nat.le_refl _
    | succ i => rw [List.drop_succ_cons, (lenS_cons x L).2]; have := ih i; omega
theorem hru_call (vb vl fl vs fs : Nat) (Ls : List (List Sp)) (Ns : List Int) (t : ByteArray) (r s : Int) (hN : Ns.length = Ls.length + 1) (hn : ∀ n ∈ Ns, 0 ≤ n ∧ n ≤ 1048576) (hl : lenS Ls ≤ 9999999) (hb : tbsS Ls ≤ 100000000) (hL : Ls.length ≤ 1000000) :
    HCallW env 65536 38 [.ptr 7000 vb 0 0, .v (.int .i64 r), .v (.int .i64 s)] (hisG 7000 7001 7002 vb vl fl vs fs Ls Ns t) (fun x h => x = hruA Ls Ns r s ∧ ∃ fl' : Nat, subs h (hisG 7000 7001 7002 vb vl fl' vs fs Ls Ns t)) := by
  have hrl := rowsA_len Ls
  have hil := ints_len Ns
  unfold hruA
  by_cases hr : 0 ≤ r ∧ r ≤ s ∧ s ≤ Ls.length
  · obtain ⟨h0, h1, h2⟩ := hr
    obtain ⟨n, rfl⟩ := Int.eq_ofNat_of_zero_le h0
    have hnn : (n : Int).toNat = n := Int.toNat_natCast n
    have hrn : n < Ns.length := by omega
    have hd : Ns.getD (n : Int).toNat 0 = Ns[n]'hrn := by rw [hnn, List.getD_eq_getElem?_getD, List.getElem?_eq_getElem hrn]; rfl
    rw [if_pos ⟨h0, h1, h2⟩, hd]
    have hF := fuse_call Ns[n] (hn _ (List.getElem_mem hrn)) ((Ls.drop (n : Int).toNat).take (s.toNat - (n : Int).toNat)) (by have := (lenS_take (Ls.drop (n : Int).toNat) (s.toNat - (n : Int).toNat)).1; have := lenS_drop Ls (n : Int).toNat; omega) (by have := (lenS_take (Ls.drop (n : Int).toNat) (s.toNat - (n : Int).toNat)).2; have := tbsS_drop Ls (n : Int).toNat; omega) (by simp; omega)
    have hcut : List.take (s.toNat - (n : Int).toNat) (List.drop (0 + (n : Int).toNat) (rowsA Ls)) = rowsA ((Ls.drop (n : Int).toNat).take (s.toNat - (n : Int).toNat)) := by simp [rowsA]
    rw [← hcut] at hF
    have h0' : ¬ (n : Int) < 0 := by omega
    have h1' : ¬ s < (n : Int) := by omega
    have hs0 : 0 ≤ s := by omega
    have hR : foldA (keepL Ns[n]) ((Ls.drop (n : Int).toNat).take (s.toNat - (n : Int).toNat)) = .tup [if (foldG (keepL Ns[n]) ((Ls.drop (n : Int).toNat).take (s.toNat - (n : Int).toNat))).2 = 0 then .lst 3 (sps (foldG (keepL Ns[n]) ((Ls.drop (n : Int).toNat).take (s.toNat - (n : Int).toNat))).1) else nilA, .v (.int .i64 (foldG (keepL Ns[n]) ((Ls.drop (n : Int).toNat).take (s.toNat - (n : Int).toNat))).2)] := rfl
    generalize foldG (keepL Ns[n]) ((Ls.drop (n : Int).toNat).take (s.toNat - (n : Int).toNat)) = G at *
    by_cases hG : G.2 = 0
    · rw [if_pos hG] at hR
      rw [hR] at hF ⊢
      refine Ev.fnH [0, 1, 2, 6, 7, 22] 65536 [.tmp 6, .tmp 7] Tryd.func38 (comp38 _ rfl) (fun ct => ?_)
      repeat' (first | (with_reducible refine Ev.c_neg h0' ?_) | (with_reducible refine Ev.br_neg h0' ?_) | (with_reducible refine Ev.c_neg h1' ?_) | (with_reducible refine Ev.br_neg h1' ?_) | (with_reducible refine Ev.c_pos h2 ?_) | (with_reducible refine Ev.br_pos h2 ?_) | (with_reducible refine Ev.c_pos hs0 ?_) | (with_reducible refine Ev.br_pos hs0 ?_) | ((with_reducible refine Ev.br0 ?_); (first | refine Ev.brp ?_ | refine Ev.brn ?_); conv => whnf) | ((with_reducible refine Ev.c0 ?_); first | refine Ev.cp ?_ | refine Ev.cn ?_) | ((refine Ev.sw ?_); conv => whnf) | refine Ev.sn ?_ | ((with_reducible refine Ev.chk_k ?_ ?_); rotate_left; exact Ev.bt; conv => whnf) | ((with_reducible (refine Ev.RI.run ?_; constructor)) <;> intro _) | ((refine Ev.sg ?_); conv => whnf) | ((with_reducible refine Ev.sided ?_ ?_); conv => whnf) | ((with_reducible refine Ev.kr (hs := [29, 77]) (fun Q hQ => ?_)); (simp only [Ev.runE_cons, Ev.runE_nil]); conv => whnf) | (with_reducible refine hQ _ ?_; clear hQ Q) | ((refine Ev.sf ?_); intro F hF; conv => whnf) | (with_reducible refine hF _ ?_; clear hF F) | ((with_reducible refine Ev.go_k (fun c' => ?_)); conv => whnf) | ((with_reducible refine Ev.il0 29 ?_); refine Ev.il 29 [0, 2] [.tmp 2] Tryd.func29 (comp29 _ rfl) (fun ct' => ?_)) | ((with_reducible refine Ev.il0 77 ?_); refine Ev.il 77 [0, 1, 4] [.tmp 4] Tryd.func77 (comp77 _ rfl) (fun ct' => ?_)) | ((with_reducible refine Ev.ca0 ?_); (first | refine Ev.ca (hF) ?_); conv => whnf) | ((with_reducible refine Ev.dr0 ?_); (first | refine Ev.dr 3 [29, 77] [0, 1, 2, 3, 4, 5, 6, 7, 8, 9, 10, 11, 12, 13, 14, 15, 16, 17, 18, 19, 20] ?_); intro Q hQ; (simp only [Ev.runE_cons, Ev.runE_nil]); conv => whnf) | ((first | refine Ev.el_map0 ?_ (fun hi => ?_) | refine Ev.el_mapN ?_ (fun hi => ?_)); rotate_left; conv => whnf) | ((with_reducible refine Ev.sd0 ?_); exact Ev.sd) | fail)
      all_goals exact ⟨rfl, _, Ev.slot_eq rfl rfl, Ev.slot_eq rfl rfl, Ev.slot_eq rfl rfl, trivial⟩
    · rw [if_neg hG] at hR
      rw [hR] at hF ⊢
      refine Ev.fnH [0, 1, 2, 6, 7, 22] 65536 [.tmp 6, .tmp 7] Tryd.func38 (comp38 _ rfl) (fun ct => ?_)
      repeat' (first | (with_reducible refine Ev.c_neg h0' ?_) | (with_reducible refine Ev.br_neg h0' ?_) | (with_reducible refine Ev.c_neg h1' ?_) | (with_reducible refine Ev.br_neg h1' ?_) | (with_reducible refine Ev.c_pos h2 ?_) | (with_reducible refine Ev.br_pos h2 ?_) | (with_reducible refine Ev.c_pos hs0 ?_) | (with_reducible refine Ev.br_pos hs0 ?_) | ((with_reducible refine Ev.br0 ?_); (first | refine Ev.brp ?_ | refine Ev.brn ?_); conv => whnf) | ((with_reducible refine Ev.c0 ?_); first | refine Ev.cp ?_ | refine Ev.cn ?_) | ((refine Ev.sw ?_); conv => whnf) | refine Ev.sn ?_ | ((with_reducible refine Ev.chk_k ?_ ?_); rotate_left; exact Ev.bt; conv => whnf) | ((with_reducible (refine Ev.RI.run ?_; constructor)) <;> intro _) | ((refine Ev.sg ?_); conv => whnf) | ((with_reducible refine Ev.sided ?_ ?_); conv => whnf) | ((with_reducible refine Ev.kr (hs := [29, 77]) (fun Q hQ => ?_)); (simp only [Ev.runE_cons, Ev.runE_nil]); conv => whnf) | (with_reducible refine hQ _ ?_; clear hQ Q) | ((refine Ev.sf ?_); intro F hF; conv => whnf) | (with_reducible refine hF _ ?_; clear hF F) | ((with_reducible refine Ev.go_k (fun c' => ?_)); conv => whnf) | ((with_reducible refine Ev.il0 29 ?_); refine Ev.il 29 [0, 2] [.tmp 2] Tryd.func29 (comp29 _ rfl) (fun ct' => ?_)) | ((with_reducible refine Ev.il0 77 ?_); refine Ev.il 77 [0, 1, 4] [.tmp 4] Tryd.func77 (comp77 _ rfl) (fun ct' => ?_)) | ((with_reducible refine Ev.ca0 ?_); (first | refine Ev.ca (hF) ?_); conv => whnf) | ((with_reducible refine Ev.dr0 ?_); (first | refine Ev.dr 3 [29, 77] [0, 1, 2, 3, 4, 5, 6, 7, 8, 9, 10, 11, 12, 13, 14, 15, 16, 17, 18, 19, 20] ?_); intro Q hQ; (simp only [Ev.runE_cons, Ev.runE_nil]); conv => whnf) | ((first | refine Ev.el_map0 ?_ (fun hi => ?_) | refine Ev.el_mapN ?_ (fun hi => ?_)); rotate_left; conv => whnf) | ((with_reducible refine Ev.sd0 ?_); exact Ev.sd) | fail)
      all_goals exact ⟨rfl, _, Ev.slot_eq rfl rfl, Ev.slot_eq rfl rfl, Ev.slot_eq rfl rfl, trivial⟩
  · rw [if_neg hr]
    by_cases h0 : r < 0
    · refine Ev.fnH [0, 1, 2, 6, 7, 22] 65536 [.tmp 6, .tmp 7] Tryd.func38 (comp38 _ rfl) (fun ct => ?_)
      repeat' (first | (with_reducible refine Ev.c_pos h0 ?_) | (with_reducible refine Ev.br_pos h0 ?_) | ((with_reducible refine Ev.br0 ?_); (first | refine Ev.brp ?_ | refine Ev.brn ?_); conv => whnf) | ((with_reducible refine Ev.c0 ?_); first | refine Ev.cp ?_ | refine Ev.cn ?_) | ((refine Ev.sw ?_); conv => whnf) | refine Ev.sn ?_ | ((with_reducible refine Ev.chk_k ?_ ?_); rotate_left; exact Ev.bt; conv => whnf) | ((with_reducible (refine Ev.RI.run ?_; constructor)) <;> intro _) | ((refine Ev.sg ?_); conv => whnf) | ((with_reducible refine Ev.sided ?_ ?_); conv => whnf) | ((with_reducible refine Ev.kr (hs := [29, 77]) (fun Q hQ => ?_)); (simp only [Ev.runE_cons, Ev.runE_nil]); conv => whnf) | (with_reducible refine hQ _ ?_; clear hQ Q) | ((refine Ev.sf ?_); intro F hF; conv => whnf) | (with_reducible refine hF _ ?_; clear hF F) | ((with_reducible refine Ev.go_k (fun c' => ?_)); conv => whnf) | ((with_reducible refine Ev.il0 29 ?_); refine Ev.il 29 [0, 2] [.tmp 2] Tryd.func29 (comp29 _ rfl) (fun ct' => ?_)) | ((with_reducible refine Ev.il0 77 ?_); refine Ev.il 77 [0, 1, 4] [.tmp 4] Tryd.func77 (comp77 _ rfl) (fun ct' => ?_)) | ((with_reducible refine Ev.dr0 ?_); (first | refine Ev.dr 3 [29, 77] [0, 1, 2, 3, 4, 5, 6, 7, 8, 9, 10, 11, 12, 13, 14, 15, 16, 17, 18, 19, 20] ?_); intro Q hQ; (simp only [Ev.runE_cons, Ev.runE_nil]); conv => whnf) | ((first | refine Ev.el_map0 ?_ (fun hi => ?_) | refine Ev.el_mapN ?_ (fun hi => ?_)); rotate_left; conv => whnf) | ((with_reducible refine Ev.sd0 ?_); exact Ev.sd) | fail)
      all_goals exact ⟨rfl, fl, Ev.slot_eq rfl rfl, Ev.slot_eq rfl rfl, Ev.slot_eq rfl rfl, trivial⟩
    · by_cases h1 : s < r
      · refine Ev.fnH [0, 1, 2, 6, 7, 22] 65536 [.tmp 6, .tmp 7] Tryd.func38 (comp38 _ rfl) (fun ct => ?_)
        repeat' (first | (with_reducible refine Ev.c_neg h0 ?_) | (with_reducible refine Ev.br_neg h0 ?_) | (with_reducible refine Ev.c_pos h1 ?_) | (with_reducible refine Ev.br_pos h1 ?_) | ((with_reducible refine Ev.br0 ?_); (first | refine Ev.brp ?_ | refine Ev.brn ?_); conv => whnf) | ((with_reducible refine Ev.c0 ?_); first | refine Ev.cp ?_ | refine Ev.cn ?_) | ((refine Ev.sw ?_); conv => whnf) | refine Ev.sn ?_ | ((with_reducible refine Ev.chk_k ?_ ?_); rotate_left; exact Ev.bt; conv => whnf) | ((with_reducible (refine Ev.RI.run ?_; constructor)) <;> intro _) | ((refine Ev.sg ?_); conv => whnf) | ((with_reducible refine Ev.sided ?_ ?_); conv => whnf) | ((with_reducible refine Ev.kr (hs := [29, 77]) (fun Q hQ => ?_)); (simp only [Ev.runE_cons, Ev.runE_nil]); conv => whnf) | (with_reducible refine hQ _ ?_; clear hQ Q) | ((refine Ev.sf ?_); intro F hF; conv => whnf) | (with_reducible refine hF _ ?_; clear hF F) | ((with_reducible refine Ev.go_k (fun c' => ?_)); conv => whnf) | ((with_reducible refine Ev.il0 29 ?_); refine Ev.il 29 [0, 2] [.tmp 2] Tryd.func29 (comp29 _ rfl) (fun ct' => ?_)) | ((with_reducible refine Ev.il0 77 ?_); refine Ev.il 77 [0, 1, 4] [.tmp 4] Tryd.func77 (comp77 _ rfl) (fun ct' => ?_)) | ((with_reducible refine Ev.dr0 ?_); (first | refine Ev.dr 3 [29, 77] [0, 1, 2, 3, 4, 5, 6, 7, 8, 9, 10, 11, 12, 13, 14, 15, 16, 17, 18, 19, 20] ?_); intro Q hQ; (simp only [Ev.runE_cons, Ev.runE_nil]); conv => whnf) | ((first | refine Ev.el_map0 ?_ (fun hi => ?_) | refine Ev.el_mapN ?_ (fun hi => ?_)); rotate_left; conv => whnf) | ((with_reducible refine Ev.sd0 ?_); exact Ev.sd) | fail)
        all_goals exact ⟨rfl, fl, Ev.slot_eq rfl rfl, Ev.slot_eq rfl rfl, Ev.slot_eq rfl rfl, trivial⟩
      · have h2 : ¬ s ≤ Ls.length := fun h2 => hr ⟨by omega, by omega, h2⟩
        have hs0 : 0 ≤ s := by omega
        refine Ev.fnH [0, 1, 2, 6, 7, 22] 65536 [.tmp 6, .tmp 7] Tryd.func38 (comp38 _ rfl) (fun ct => ?_)
        repeat' (first | (with_reducible refine Ev.c_neg h0 ?_) | (with_reducible refine Ev.br_neg h0 ?_) | (with_reducible refine Ev.c_neg h1 ?_) | (with_reducible refine Ev.br_neg h1 ?_) | (with_reducible refine Ev.c_neg h2 ?_) | (with_reducible refine Ev.br_neg h2 ?_) | (with_reducible refine Ev.c_pos hs0 ?_) | (with_reducible refine Ev.br_pos hs0 ?_) | ((with_reducible refine Ev.br0 ?_); (first | refine Ev.brp ?_ | refine Ev.brn ?_); conv => whnf) | ((with_reducible refine Ev.c0 ?_); first | refine Ev.cp ?_ | refine Ev.cn ?_) | ((refine Ev.sw ?_); conv => whnf) | refine Ev.sn ?_ | ((with_reducible refine Ev.chk_k ?_ ?_); rotate_left; exact Ev.bt; conv => whnf) | ((with_reducible (refine Ev.RI.run ?_; constructor)) <;> intro _) | ((refine Ev.sg ?_); conv => whnf) | ((with_reducible refine Ev.sided ?_ ?_); conv => whnf) | ((with_reducible refine Ev.kr (hs := [29, 77]) (fun Q hQ => ?_)); (simp only [Ev.runE_cons, Ev.runE_nil]); conv => whnf) | (with_reducible refine hQ _ ?_; clear hQ Q) | ((refine Ev.sf ?_); intro F hF; conv => whnf) | (with_reducible refine hF _ ?_; clear hF F) | ((with_reducible refine Ev.go_k (fun c' => ?_)); conv => whnf) | ((with_reducible refine Ev.il0 29 ?_); refine Ev.il 29 [0, 2] [.tmp 2] Tryd.func29 (comp29 _ rfl) (fun ct' => ?_)) | ((with_reducible refine Ev.il0 77 ?_); refine Ev.il 77 [0, 1, 4] [.tmp 4] Tryd.func77 (comp77 _ rfl) (fun ct' => ?_)) | ((with_reducible refine Ev.dr0 ?_); (first | refine Ev.dr 3 [29, 77] [0, 1, 2, 3, 4, 5, 6, 7, 8, 9, 10, 11, 12, 13, 14, 15, 16, 17, 18, 19, 20] ?_); intro Q hQ; (simp only [Ev.runE_cons, Ev.runE_nil]); conv => whnf) | ((first | refine Ev.el_map0 ?_ (fun hi => ?_) | refine Ev.el_mapN ?_ (fun hi => ?_)); rotate_left; conv => whnf) | ((with_reducible refine Ev.sd0 ?_); exact Ev.sd) | fail)
        all_goals exact ⟨rfl, fl, Ev.slot_eq rfl rfl, Ev.slot_eq rfl rfl, Ev.slot_eq rfl rfl, trivial⟩
end Go.Proofs.YtadlnaljicikfaaDoor.Abs
namespace Go.Proofs.YtadlnaljicikfaaDoor.Abs
open Go Go.Lib
namespace Ev
section
variable {E : Env} {nt : Nat}
end
end Ev
namespace Ev
theorem hcall_frz {E : Env} {nm : Nat} {f : FuncId} (a b : List AV) {x y : AV} {hp hp' : List (Nat × Blk)} {ct : Nat} {K : AV → List (Nat × Blk) → Nat → Prop}
    (hx : ∀ K : AV → List (Nat × Blk) → Prop, K y hp' → purK hp deep x fun y m => frzK hp m fun hp' => K y hp') (h : HCallX E nm f (a ++ y :: b) hp' ct K) : HCallX E nm f (a ++ x :: b) hp ct K := by
  obtain ⟨N, h⟩ := h
  refine ⟨N, fun M0 w0 c M J w vs inv hn hr => ?_⟩
  have hlt : a.length < vs.size := by rw [hn]; simp
  have hxa : (a ++ x :: b)[a.length]? = some x := by simp
  have hrx := hr a.length x vs[a.length] hxa (by simp [hlt])
  have hpu := pur1_sound (sl := []) (ct := 0) (hx (fun p q => p = y ∧ q = hp') ⟨rfl, rfl⟩) (K' := fun p s => p = y ∧ s = (⟨[], hp', 0⟩ : St)) (fun p q ⟨e1, e2⟩ => ⟨e1, by rw [e2]⟩)
  obtain ⟨y', s', M', ⟨e1, e2⟩, hsub, i1, pr, hc⟩ := inv.pure hrx hpu
  subst e1; subst e2
  obtain ⟨p, q⟩ := h M0 w0 c M' J w vs i1 (by simpa using hn) (fun i z v hz hv => by
    by_cases hi : i = a.length
    · subst hi
      have : (a ++ y' :: b)[a.length]? = some y' := by simp
      rw [this] at hz; obtain rfl := Option.some.inj hz
      have hv2 : vs[a.length]? = some vs[a.length] := by simp [hlt]
      rw [hv2] at hv; obtain rfl := Option.some.inj hv
      exact .pure pr
    · refine (hr i z v ?_ hv).mono hsub (SubJ.refl J)
      rw [← hz]
      rcases Nat.lt_or_ge i a.length with h1 | h1
      · rw [List.getElem?_append_left h1, List.getElem?_append_left h1]
      · rw [List.getElem?_append_right h1, List.getElem?_append_right h1]
        obtain ⟨k, hk⟩ : ∃ k, i - a.length = k + 1 := ⟨i - a.length - 1, by omega⟩
        rw [hk]; rfl)
  refine ⟨p, q.mono ?_⟩
  rintro e w' ⟨v, r, hp1, c', M2, J', x1, x2, x3, x4, x5, x6⟩
  exact ⟨v, r, hp1, c', M2, J', x1, x2, x3, x4, hsub.trans x5, x6⟩
theorem hcall_row {E : Env} {nm : Nat} {f : FuncId} (a b : List AV) {hp : List (Nat × Blk)} {ct r v off len sz ty frz : Nat} {es : List (List AV)} {K : AV → List (Nat × Blk) → Nat → Prop} (hk : get hp r = some ⟨sz, ty, v, frz, false, es⟩) (hl : off + len ≤ es.length)
    (h : HCallX E nm f (a ++ .lst sz ((es.drop off).take len) :: b) ((r, ⟨sz, ty, v, max frz (min (off + len) es.length), false, es⟩) :: hp) ct K) : HCallX E nm f (a ++ .own r v off len :: b) hp ct K := by
  refine hcall_frz a b (fun K hK => ?_) h
  have q1 : (Nat.beq v v && !false) = true := by simp
  simp only [purK, deep, hk, bwith]
  refine chk_k (sided ?_ (Side.of hl)) q1
  simp only [frzK, hk, bwith]
  exact hK
end Ev
theorem HCallW.mono {E : Env} {N : Nat} {f : FuncId} {args : List AV} {hp : List (Nat × Blk)} {R R' : AV → List (Nat × Blk) → Prop} (hc : HCallW E N f args hp R) (h : ∀ r hp1, R r hp1 → R' r hp1) : HCallW E N f args hp R' := by
  intro M0 w0 c M J w vs inv hn hr
  obtain ⟨a, b⟩ := hc M0 w0 c M J w vs inv hn hr
  refine ⟨a, b.mono ?_⟩
  rintro e w' ⟨v, r, hp1, c', M', J', x1, x2, x3⟩
  exact ⟨v, r, hp1, c', M', J', x1, h r hp1 x2, x3⟩
abbrev hisI (B L S : Nat) (r : Nat) : Nat := if r = B then 7000 else if r = L then 7001 else if r = S then 7002 else r
abbrev hisO (B L S : Nat) (r : Nat) : Nat := if r = 7000 then B else if r = 7001 then L else if r = 7002 then S else r
theorem his_in {B L S vb vl fl vs fs : Nat} {Ls : List (List Sp)} {Ns : List Int} {t : ByteArray} (h1 : L ≠ B) (h2 : S ≠ B) (h3 : S ≠ L) : rnH (hisI B L S) (hisG B L S vb vl fl vs fs Ls Ns t) = hisG 7000 7001 7002 vb vl fl vs fs Ls Ns t := by
  simp [rnH, rnAs, rnA, hisI, h1, h2, h3]
theorem his_get {B L S vb vl fl vs fs : Nat} {Ls : List (List Sp)} {Ns : List Int} {t : ByteArray} {q : Nat} (h : get (hisG B L S vb vl fl vs fs Ls Ns t) q ≠ none) : q = B ∨ q = L ∨ q = S := by
  rw [get_cons, get_cons, get_cons, get_nil] at h
  split at h
  · rename_i e; exact .inl e
  · split at h
    · rename_i e; exact .inr (.inl e)
    · split at h
      · rename_i e; exact .inr (.inr e)
      · exact absurd rfl h
section
variable {nm ct : Nat} {hp : List (Nat × Blk)} {K : AV → List (Nat × Blk) → Nat → Prop} (B L S : Nat) (F : List (Nat × Blk)) {vb vl fl vs fs : Nat} {Ls : List (List Sp)} {Ns : List Int} {t : ByteArray}
theorem hisX {f : FuncId} {args args' : List AV} {P : AV → Nat → Nat → Nat → List (List Sp) → List Int → Prop} (hne : L ≠ B ∧ S ≠ B ∧ S ≠ L)
    (hc : HCallW env 65536 f args' (hisG 7000 7001 7002 vb vl fl vs fs Ls Ns t) fun r h => ∃ vl' fl' vs' Ls' Ns', P r vl' fl' vs' Ls' Ns' ∧ subs h (hisG 7000 7001 7002 vb vl' fl' vs' fs Ls' Ns' t)) (ha : rnAs (hisI B L S) args = args')
    (hs : subs hp (hisG B L S vb vl fl vs fs Ls Ns t)) (hF : subs hp F) (hB : get F B = none ∧ get F L = none ∧ get F S = none)
    (hk : ∀ r vl' fl' vs' Ls' Ns', P r vl' fl' vs' Ls' Ns' → ∀ c', ct + 8 ≤ c' → K (rnA (hisO B L S) r) (hisG B L S vb vl' fl' vs' fs Ls' Ns' t ++ F) c') : Ev.HCallX env nm f args hp ct K := by
  have hc' := hcall_sub (R' := fun r h => ∃ vl' fl' vs' Ls' Ns', P r vl' fl' vs' Ls' Ns' ∧ h = hisG 7000 7001 7002 vb vl' fl' vs' fs Ls' Ns' t) hc (fun r h ⟨vl', fl', vs', Ls', Ns', h1, h2⟩ => ⟨_, ⟨vl', fl', vs', Ls', Ns', h1, rfl⟩, h2⟩)
  have out : ∀ {vl fl vs : Nat} {Ls : List (List Sp)} {Ns : List Int} (q : Nat), get (hisG B L S vb vl fl vs fs Ls Ns t) q ≠ none → get F q = none := by
    intro vl fl vs Ls Ns q h
    rcases his_get h with rfl | rfl | rfl
    · exact hB.1
    · exact hB.2.1
    · exact hB.2.2
  refine hcall_named (hisI B L S) (hisO B L S) F hc' ha (his_in hne.1 hne.2.1 hne.2.2) hs hF out ?_
  rintro r h1 ⟨vl', fl', vs', Ls', Ns', hP, rfl⟩
  exact ⟨out, hk r vl' fl' vs' Ls' Ns' hP⟩
theorem happX {w : List Sp} {e : Int} (hne : L ≠ B ∧ S ≠ B ∧ S ≠ L) (hw : w.length ≤ 100000000) (hb : tbs w ≤ 1000000000) (hN : Ns.length = Ls.length + 1) (hL : Ls.length ≤ 1000000) (he : ∀ h : Ns ≠ [], happE w (Ns.getLast h) = e)
    (hs : subs hp (hisG B L S vb vl fl vs fs Ls Ns t)) (hF : subs hp F) (hB : get F B = none ∧ get F L = none ∧ get F S = none)
    (hk : ∀ vl' vs' c', ct + 8 ≤ c' → K (.v (.int .i64 e)) (hisG B L S vb vl' fl vs' fs (Ls ++ if e = 0 then [norm w] else []) (Ns ++ if e = 0 then [outW w] else []) t ++ F) c') : Ev.HCallX env nm 25 [.ptr B vb 0 0, .lst 3 (sps w)] hp ct K := by
  have hc := happ_call vb vl fl vs fs Ls Ns t w hw hb hN hL
  have hne' : Ns ≠ [] := by intro h; rw [h] at hN; simp at hN
  rw [he hne'] at hc
  refine hisX (P := fun r vl' fl' vs' Ls' Ns' => r = .v (.int .i64 e) ∧ fl' = fl ∧ Ls' = Ls ++ (if e = 0 then [norm w] else []) ∧ Ns' = Ns ++ (if e = 0 then [outW w] else [])) B L S F hne (hc.mono ?_) (by simp [rnAs, rnA]) hs hF hB ?_
  · rintro r h ⟨rfl, vl', vs', rfl⟩
    exact ⟨vl', fl, vs', _, _, ⟨rfl, rfl, rfl, rfl⟩, ⟨Ev.slot_eq rfl rfl, Ev.slot_eq rfl rfl, Ev.slot_eq rfl rfl, trivial⟩⟩
  · rintro r vl' fl' vs' Ls' Ns' ⟨rfl, rfl, rfl, rfl⟩ c' hc'
    exact hk vl' vs' c' hc'
theorem hatX {r : Int} {X : AV} (hX : hatA t Ls r = X) (hp0 : ∀ ρ, rnA ρ X = X) (hne : L ≠ B ∧ S ≠ B ∧ S ≠ L) (hx : ∀ x ∈ Ls, x.length ≤ 100000000) (hb : t.size + totb Ls ≤ 1000000000) (hL : Ls.length ≤ 1000000)
    (hs : subs hp (hisG B L S vb vl fl vs fs Ls Ns t)) (hF : subs hp F) (hB : get F B = none ∧ get F L = none ∧ get F S = none)
    (hk : ∀ fl' c', ct + 8 ≤ c' → K X (hisG B L S vb vl fl' vs fs Ls Ns t ++ F) c') : Ev.HCallX env nm 30 [.ptr B vb 0 0, .v (.int .i64 r)] hp ct K := by
  refine hisX (P := fun x vl' fl' vs' Ls' Ns' => x = X ∧ vl' = vl ∧ vs' = vs ∧ Ls' = Ls ∧ Ns' = Ns) B L S F hne ((hat_call vb vl fl vs fs Ls Ns t r hx hb hL).mono ?_) (by simp [rnAs, rnA]) hs hF hB ?_
  · rintro x h ⟨rfl, fl', h'⟩
    exact ⟨vl, fl', vs, Ls, Ns, ⟨hX, rfl, rfl, rfl, rfl⟩, h'⟩
  · rintro r vl' fl' vs' Ls' Ns' ⟨rfl, rfl, rfl, rfl, rfl⟩ c' hc'
    rw [hp0]; exact hk fl' c' hc'
theorem hovX {a : List Sp} {r : Int} {X : AV} (hX : hovA Ls Ns a r = X) (hp0 : ∀ ρ, rnA ρ X = X) (hne : L ≠ B ∧ S ≠ B ∧ S ≠ L) (hN : Ns.length = Ls.length + 1) (hl : a.length + lenS Ls ≤ 9999999) (ha : tbs a ≤ 100000000) (hb : ∀ x ∈ Ls, tbs x ≤ 100000000) (hL : Ls.length ≤ 1000000) (ho : ∀ s ∈ Ls, opMayF s = 0 → sumI outS s ≤ 1048576)
    (hs : subs hp (hisG B L S vb vl fl vs fs Ls Ns t)) (hF : subs hp F) (hB : get F B = none ∧ get F L = none ∧ get F S = none)
    (hk : ∀ fl' c', ct + 8 ≤ c' → K X (hisG B L S vb vl fl' vs fs Ls Ns t ++ F) c') : Ev.HCallX env nm 33 [.ptr B vb 0 0, .lst 3 (sps a), .v (.int .i64 r)] hp ct K := by
  refine hisX (P := fun x vl' fl' vs' Ls' Ns' => x = X ∧ vl' = vl ∧ vs' = vs ∧ Ls' = Ls ∧ Ns' = Ns) B L S F hne ((hov_call vb vl fl vs fs Ls Ns t a r hN hl ha hb hL ho).mono ?_) (by simp [rnAs, rnA]) hs hF hB ?_
  · rintro x h ⟨rfl, fl', h'⟩
    exact ⟨vl, fl', vs, Ls, Ns, ⟨hX, rfl, rfl, rfl, rfl⟩, h'⟩
  · rintro r vl' fl' vs' Ls' Ns' ⟨rfl, rfl, rfl, rfl, rfl⟩ c' hc'
    rw [hp0]; exact hk fl' c' hc'
theorem hruX {r s : Int} {X : AV} (hX : hruA Ls Ns r s = X) (hp0 : ∀ ρ, rnA ρ X = X) (hne : L ≠ B ∧ S ≠ B ∧ S ≠ L) (hN : Ns.length = Ls.length + 1) (hn : ∀ n ∈ Ns, 0 ≤ n ∧ n ≤ 1048576) (hl : lenS Ls ≤ 9999999) (hb : tbsS Ls ≤ 100000000) (hL : Ls.length ≤ 1000000)
    (hs : subs hp (hisG B L S vb vl fl vs fs Ls Ns t)) (hF : subs hp F) (hB : get F B = none ∧ get F L = none ∧ get F S = none)
    (hk : ∀ fl' c', ct + 8 ≤ c' → K X (hisG B L S vb vl fl' vs fs Ls Ns t ++ F) c') : Ev.HCallX env nm 38 [.ptr B vb 0 0, .v (.int .i64 r), .v (.int .i64 s)] hp ct K := by
  refine hisX (P := fun x vl' fl' vs' Ls' Ns' => x = X ∧ vl' = vl ∧ vs' = vs ∧ Ls' = Ls ∧ Ns' = Ns) B L S F hne ((hru_call vb vl fl vs fs Ls Ns t r s hN hn hl hb hL).mono ?_) (by simp [rnAs, rnA]) hs hF hB ?_
  · rintro x h ⟨rfl, fl', h'⟩
    exact ⟨vl, fl', vs, Ls, Ns, ⟨hX, rfl, rfl, rfl, rfl⟩, h'⟩
  · rintro r vl' fl' vs' Ls' Ns' ⟨rfl, rfl, rfl, rfl, rfl⟩ c' hc'
    rw [hp0]; exact hk fl' c' hc'
end
end Go.Proofs.YtadlnaljicikfaaDoor.Abs
namespace Go.Proofs.YtadlnaljicikfaaDoor.Abs
open Go
set_option maxRecDepth 100000
attribute [local irreducible] Ev.Unr Ev.Go' Ev.bytK Ev.runK Ev.FinL Ev.brC Ev.Side Ev.Wp Ev.Again Ev.To Ev.Fin
open Go.Lib Go.RowKit
theorem comp22 : ∀ c, Tryd.f22.body = some c → comp c = (.seq (.reg 0 [I.n 0 0 (I.sb false)]) (.seq (.reg 1 [I.n 0 8 (.call { callee := .value (.func 24), args := #[.const (Value.string { data := #[97] })], argTypes := #[9] }), I.n 1 7 (I.mv 8), I.n 2 9 (I.ex 7 0), I.n 3 10 (I.ex 7 1), I.n 4 1 (I.sa 9), I.n 5 2 (I.sa 10)]) (.seq (.seq (.reg 2 [I.n 0 11 (I.mv 1), I.n 1 12 (.binOp .eql 29 (.tmp 11) (.const (Value.pointer none)) 29), I.n 2 13 (I.mv 12), I.w 3 14 (I.mv 2) 13 false, I.w 4 15 (I.bc .neq 30 14 0 30) 13 false, I.n 5 16 (I.pb 13 true 15)]) (.cond (.tmp 16) (.seq (.reg 3 [I.n 0 0 (I.sb false)]) .ret) .skip)) (.seq (.reg 4 [I.n 0 17 (I.mv 1), I.n 1 18 (.build 35 #[(0, .const (Value.int .i64 2)), (2, .const (Value.string { data := #[98] }))]), I.n 2 19 (.build 35 #[(0, .const (Value.int .i64 1)), (1, .const (Value.int .i64 1))]), I.n 3 20 (.buildSlice 23 2 #[(0, .tmp 18), (1, .tmp 19)]), I.n 4 21 (I.c2 25 17 20 29 23), I.n 5 3 (I.sa 21)]) (.seq (.reg 5 [I.n 0 22 (I.mv 1), I.n 1 23 (.build 35 #[(0, .const (Value.int .i64 3)), (1, .const (Value.int .i64 1))]), I.n 2 24 (.build 35 #[(0, .const (Value.int .i64 1)), (1, .const (Value.int .i64 1))]), I.n 3 25 (.buildSlice 23 2 #[(0, .tmp 23), (1, .tmp 24)]), I.n 4 26 (I.c2 25 22 25 29 23), I.n 5 4 (I.sa 26)]) (.seq (.reg 6 [I.n 0 28 (I.mv 1), I.n 1 29 (.call { callee := .value (.func 38), args := #[.tmp 28, .const (Value.int .i64 0), .const (Value.int .i64 2)], argTypes := #[29, 3, 3] }), I.n 2 27 (I.mv 29), I.n 3 30 (I.ex 27 0), I.n 4 31 (I.ex 27 1), I.n 5 5 (I.sa 30), I.n 6 6 (I.sa 31)]) (.seq (.reg 7 [I.n 0 32 (I.mv 3), I.n 1 33 (I.bc .eql 30 32 0 30), I.n 2 34 (I.mv 33), I.w 3 35 (I.mv 4) 34 true, I.w 4 36 (I.bc .eql 30 35 0 30) 34 true, I.n 5 37 (I.pc 34 36 false), I.n 6 38 (I.mv 37), I.w 7 39 (I.mv 6) 38 true, I.w 8 40 (I.bc .eql 30 39 0 30) 38 true, I.n 9 41 (I.pc 38 40 false), I.n 10 42 (I.mv 41), I.w 11 43 (I.mv 5) 42 true, I.w 12 44 (I.ln 43 23) 42 true, I.w 13 45 (I.bc .eql 3 44 1 3) 42 true, I.n 14 46 (I.pc 42 45 false), I.n 15 47 (I.mv 46), I.w 16 48 (I.mv 5) 47 true, I.w 17 49 (I.ic 23 48 0) 47 true, I.w 18 50 (I.ld 35 49) 47 true, I.w 19 51 (.build 35 #[(0, .const (Value.int .i64 1)), (1, .const (Value.int .i64 1))]) 47 true, I.w 20 52 (I.bo .eql 35 50 51 35) 47 true, I.n 21 53 (I.pc 47 52 false), I.n 22 54 (I.mv 53), I.w 23 55 (I.mv 1) 54 true, I.w 24 56 (I.nc 55) 54 true, I.w 25 57 (I.fa 44 56 0) 54 true, I.w 26 58 (I.c1 29 57 42) 54 true, I.w 27 59 (I.bc .eql 3 58 2 3) 54 true, I.n 28 60 (I.pc 54 59 false), I.n 29 0 (I.sa 60)]) .ret))))))) := by
  intro c h
  have : c = Tryd.f22.body.get rfl := by rw [← Option.some_inj, ← h]; rfl
  rw [this]; rfl
namespace Ev
theorem nil_at {E : Env} {nt : Nat} (id q r sz ty j0 : Nat) {l : List Ins} {K : Exit → St → Prop} {sl : List (Nat × AV)} {hp : List (Nat × Blk)} {ct v0 ty0 n0 : Nat} {cs : List AV} (hg : get hp q = some ⟨n0, ty0, v0, 0, true, [cs]⟩) (hn : cs[j0]? = some nilA) (hr : get hp r = none)
    (h : Wp E nt (.reg id l) K ⟨sl, (q, ⟨n0, ty0, v0, 0, true, [cs.set j0 (.own r ct 0 0)]⟩) :: (r, ⟨sz, ty, ct, 0, false, []⟩) :: hp, ct + 8⟩) : Wp E nt (.reg id l) K ⟨sl, hp, ct⟩ := nil_cell q r sz ty j0 hg hn hr h
end Ev
theorem happX0 {nm ct : Nat} {hp : List (Nat × Blk)} {K : AV → List (Nat × Blk) → Nat → Prop} (B L S : Nat) (F : List (Nat × Blk)) {vb vl fl vs fs : Nat} {Ls : List (List Sp)} {Ns : List Int} {t : ByteArray} {w : List Sp} (hne : L ≠ B ∧ S ≠ B ∧ S ≠ L) (hw : w.length ≤ 100000000) (hb : tbs w ≤ 1000000000) (hN : Ns.length = Ls.length + 1) (hL : Ls.length ≤ 1000000) (he : ∀ h : Ns ≠ [], happE w (Ns.getLast h) = 0)
    (hs : subs hp (hisG B L S vb vl fl vs fs Ls Ns t)) (hF : subs hp F) (hB : get F B = none ∧ get F L = none ∧ get F S = none)
    (hk : ∀ vl' vs' c', ct + 8 ≤ c' → K (.v (.int .i64 0)) (hisG B L S vb vl' fl vs' fs (Ls ++ [norm w]) (Ns ++ [outW w]) t ++ F) c') : Ev.HCallX env nm 25 [.ptr B vb 0 0, .lst 3 (sps w)] hp ct K :=
  happX B L S F hne hw hb hN hL he hs hF hB (fun vl' vs' c' h => by rw [if_pos rfl, if_pos rfl]; exact hk vl' vs' c' h)
def sh1 : List Sp := [⟨2, 0, ⟨#[98]⟩⟩, ⟨1, 1, ⟨#[]⟩⟩]
def sh2 : List Sp := [⟨3, 1, ⟨#[]⟩⟩, ⟨1, 1, ⟨#[]⟩⟩]
theorem sh1_norm : norm sh1 = sh1 := by decide +kernel
theorem sh2_norm : norm sh2 = sh2 := by decide +kernel
theorem sh_run : hruA [sh1, sh2] [1, 2, 1] 0 2 = .tup [.lst 3 (sps [⟨1, 1, ⟨#[]⟩⟩]), .v (.int .i64 0)] := by rfl
theorem shown17_call : CallW env 22 [] (fun r hs => r = .v (.bool true) ∧ hs = []) := by
  have hNew := hnew_ok ⟨#[97]⟩ (by decide) (by decide +kernel)
  have hc : cntB ⟨#[97]⟩ = 1 := by decide +kernel
  rw [hc] at hNew
  have e1 : outW sh1 = 2 := by decide +kernel
  have e2 : outW sh2 = 1 := by decide +kernel
  have g1 : happE sh1 1 = 0 := by decide +kernel
  have g2 : happE sh2 2 = 0 := by decide +kernel
  refine Ev.fn [0, 1, 2, 3, 4, 5, 6, 16] 0 [.tmp 0] Tryd.func22 (comp22 _ rfl) ?_
  repeat' (first | (with_reducible refine Ev.nil_at 2 512 9100 1 23 0 rfl rfl rfl ?_) | ((with_reducible refine Ev.br0 ?_); (first | refine Ev.brp ?_ | refine Ev.brn ?_); conv => whnf) | ((with_reducible refine Ev.c0 ?_); first | refine Ev.cp ?_ | refine Ev.cn ?_) | ((refine Ev.sw ?_); conv => whnf) | refine Ev.sn ?_ | ((with_reducible refine Ev.chk_k ?_ ?_); rotate_left; exact Ev.bt; conv => whnf) | ((with_reducible (refine Ev.RI.run ?_; constructor)) <;> intro _) | ((refine Ev.sg ?_); conv => whnf) | ((with_reducible refine Ev.sided ?_ ?_); conv => whnf) | ((with_reducible refine Ev.kr (hs := [25, 38, 29]) (fun Q hQ => ?_)); (simp only [Ev.runE_cons, Ev.runE_nil]); conv => whnf) | (with_reducible refine hQ _ ?_; clear hQ Q) | ((refine Ev.sf ?_); intro F hF; conv => whnf) | (with_reducible refine hF _ ?_; clear hF F) | ((with_reducible refine Ev.go_k (fun c' => ?_)); conv => whnf) | ((with_reducible refine Ev.il0 29 ?_); refine Ev.il 29 [0, 2] [.tmp 2] Tryd.func29 (comp29 _ rfl) (fun ct' => ?_)) | ((refine Ev.call_own hNew rfl (by simp) ⟨rfl, rfl, trivial⟩ ?_); conv => whnf) | ((((with_reducible refine Ev.hca0 ?_); refine Ev.hcall_row [_] [] rfl (by decide) ?_; refine happX0 512 9100 513 [] (Ls := []) (Ns := [1]) (t := ⟨#[97]⟩) (w := sh1) (by decide) (by decide) (by decide +kernel) rfl (by decide) (fun _ => g1) ⟨Ev.slot_eq rfl rfl, Ev.slot_eq rfl rfl, Ev.slot_eq rfl rfl, trivial⟩ trivial ⟨rfl, rfl, rfl⟩ (fun vl' vs' c' _ => ?_); rw [sh1_norm, e1]; conv => whnf)); conv => whnf) | ((((with_reducible refine Ev.hca0 ?_); refine Ev.hcall_row [_] [] rfl (by decide) ?_; refine happX0 512 9100 513 [] (Ls := [sh1]) (Ns := [1, 2]) (t := ⟨#[97]⟩) (w := sh2) (by decide) (by decide) (by decide +kernel) rfl (by decide) (fun _ => g2) ⟨Ev.slot_eq rfl rfl, Ev.slot_eq rfl rfl, Ev.slot_eq rfl rfl, trivial⟩ trivial ⟨rfl, rfl, rfl⟩ (fun vl' vs' c' _ => ?_); rw [sh2_norm, e2]; conv => whnf)); conv => whnf) | ((((with_reducible refine Ev.hca0 ?_); refine hruX 512 9100 513 [] (Ls := [sh1, sh2]) (Ns := [1, 2, 1]) (t := ⟨#[97]⟩) sh_run (fun _ => rfl) (by decide) rfl (by decide) (by decide) (by decide +kernel) (by decide) ⟨Ev.slot_eq rfl rfl, Ev.slot_eq rfl rfl, Ev.slot_eq rfl rfl, trivial⟩ trivial ⟨rfl, rfl, rfl⟩ (fun fl' c' _ => ?_); conv => whnf)); conv => whnf) | ((first | refine Ev.el_map0 ?_ (fun hi => ?_) | refine Ev.el_mapN ?_ (fun hi => ?_)); rotate_left; conv => whnf) | ((with_reducible refine Ev.sd0 ?_); exact Ev.sd) | fail)
  exact ⟨rfl, rfl⟩
end Go.Proofs.YtadlnaljicikfaaDoor.Abs
namespace Go.Proofs.YtadlnaljicikfaaDoor.Abs
open Go Go.Lib
theorem szL_ne (l : List (List Sp)) (n : Int) : szL n l ≠ [] := by intro h; have := szL_len l n; rw [h] at this; simp at this
theorem szL_last : ∀ (l : List (List Sp)) (n : Int) (h : szL n l ≠ []), (szL n l).getLast h = endN n l
  | [], n, h => rfl
  | x :: l, n, h => by
    show (n :: szL (outW x) l).getLast _ = _
    rw [List.getLast_cons (szL_ne l _), szL_last l]; rfl
theorem szL_app : ∀ (l : List (List Sp)) (n : Int) (x : List Sp), szL n (l ++ [x]) = szL n l ++ [outW x]
  | [], n, x => rfl
  | y :: l, n, x => by show n :: szL (outW y) (l ++ [x]) = _; rw [szL_app l]; rfl
theorem szL_get : ∀ (l : List (List Sp)) (n : Int) (i : Nat), i ≤ l.length → (szL n l).getD i 0 = endN n (l.take i)
  | l, n, 0, _ => by cases l <;> rfl
  | [], n, i + 1, h => by simp at h
  | x :: l, n, i + 1, h => by
    show (szL (outW x) l).getD i 0 = endN (outW x) (l.take i)
    exact szL_get l (outW x) i (by simpa using h)
theorem endN_app : ∀ (l : List (List Sp)) (n : Int) (x : List Sp), endN n (l ++ [x]) = outW x
  | [], n, x => rfl
  | y :: l, n, x => endN_app l (outW y) x
theorem segE_ok {n : Int} {x : List Sp} (h : segE n x = 0) : opMayF x = 0 ∧ inW x = n ∧ outW x ≤ 1048576 ∧ isN x = true ∧ happE x n = 0 := by
  unfold segE at h
  by_cases m0 : opMayF x = 0
  · rw [if_neg (by simpa using m0)] at h
    by_cases m1 : inW x = n
    · rw [if_neg (by simpa using m1)] at h
      by_cases m2 : 1048576 < outW x
      · rw [if_pos m2] at h; cases h
      · rw [if_neg m2] at h
        by_cases m3 : isN x = true
        · exact ⟨m0, m1, by omega, m3, by unfold happE; rw [if_neg (by simpa using m0), if_neg (by simpa using m1), if_neg m2]⟩
        · rw [if_neg m3] at h; cases h
    · rw [if_pos m1] at h; cases h
  · rw [if_pos m0] at h; exact absurd h m0
theorem norm_self {x : List Sp} (hn : isN x = true) : norm x = x := isN_norm hn
theorem segsE_get {n : Int} {l : List (List Sp)} (h : segsE n l = 0) {i : Nat} (hi : i < l.length) : segE (endN n (l.take i)) l[i] = 0 := by
  have := (segsE_take h i).2
  rw [List.drop_eq_getElem_cons hi] at this
  simp only [segsE] at this
  by_cases h0 : segE (endN n (l.take i)) l[i] = 0
  · exact h0
  · rw [if_neg h0] at this; exact absurd this h0
theorem segsE_mem {n : Int} {l : List (List Sp)} (h : segsE n l = 0) {x : List Sp} (hx : x ∈ l) : ∃ m, segE m x = 0 := by
  obtain ⟨i, hi, rfl⟩ := List.getElem_of_mem hx
  exact ⟨_, segsE_get h hi⟩
theorem outW_nn {x : List Sp} (h : opMayF x = 0) (hl : x.length ≤ 1000000000) (ho : sumI outS x ≤ 9000000000000000000) : 0 ≤ outW x ∧ outW x = sumI outS x := by
  have o := (OpS.of h hl).1
  have e1 := outW_eq x
  have e2 : 0 ≤ sumI outS x := by have := mks_size o.all; omega
  rw [wrap_id (by omega)] at e1
  omega
theorem out_nn {x : List Sp} (h : opMayF x = 0) (hl : x.length ≤ 10000000) (hb : tbs x ≤ 100000000) : 0 ≤ outW x ∧ outW x = sumI outS x := by
  have o := (OpS.of h (by omega)).1
  have f := outS_leB x o.all
  have b := o.bnd
  exact outW_nn h (by omega) (by omega)
theorem size_segs : ∀ (l : List (List Sp)) (n : Int), segsE n l = 0 → (sizeG n l).2 = 0
  | [], n, _ => rfl
  | x :: l, n, h => by
    simp only [segsE] at h
    by_cases h0 : segE n x = 0
    · rw [if_pos h0] at h
      obtain ⟨a, b, c, d, e⟩ := segE_ok h0
      simp only [sizeG]
      rw [if_pos a, if_pos b]
      exact size_segs l _ h
    · rw [if_neg h0] at h; exact absurd h h0
theorem ovrO_norm {x : List Sp} (s : List Sp) (h : opMayF x = 0) (hl : x.length ≤ 1000000000) : ovrO (norm x) s = ovrO x s := by
  have o := (OpS.of h hl).1
  unfold ovrO
  rw [o.norm.2.2.1]
theorem ovrO_self {a s : List Sp} (h : ovrE a s = 0) (la : a.length ≤ 10000000) (ls : s.length ≤ 10000000) (hb : sumI outS s ≤ 1048576) : norm (ovrO a s) = ovrO a s := by
  obtain ⟨h1, h2, h3⟩ := ovrE_ok h
  have oa := (OpS.of h1 (by omega)).1
  have os := (OpS.of h2 (by omega)).1
  have hco := ovrO_all oa os (ovr_in h1 h2 la ls h3) hb
  have hle := hco.2.2.2.2.2.2.2.2.1
  have hm := hco.1.ops.may (by omega)
  exact norm_self hco.1.nf
end Go.Proofs.YtadlnaljicikfaaDoor.Abs
namespace Go.Proofs.YtadlnaljicikfaaDoor.Abs
open Go
set_option maxRecDepth 100000
attribute [local irreducible] Ev.Unr Ev.Go' Ev.bytK Ev.runK Ev.FinL Ev.brC Ev.Side Ev.Wp Ev.Again Ev.To Ev.Fin
open Go.Lib Go.RowKit
theorem comp4 : ∀ c, Tryd.f4.body = some c → comp c = (.seq (.reg 0 [I.n 0 6 (I.sb false)]) (.seq (.reg 1 [I.n 0 22 (I.c0 22), I.n 1 7 (I.sa 22)]) (.seq (.reg 2 [I.n 0 23 (I.mv 0), I.n 1 24 (I.mv 1), I.n 2 25 (I.mv 1), I.n 3 26 (I.ln 25 22), I.n 4 27 (.call { callee := .builtin .min, args := #[.tmp 26, .const (Value.int .i64 8)], argTypes := #[3, 3] }), I.n 5 28 (.slice 22 (.tmp 24) none (some (.tmp 27)) none), I.n 6 29 (I.c2 23 23 28 9 22), I.n 7 8 (.alloc 27), I.u 8 (I.st 27 8 29)]) (.seq (.reg 3 [I.n 0 31 (I.fa 27 8 0), I.n 1 32 (I.ld 9 31), I.n 2 33 (I.c1 24 32 9), I.n 3 30 (I.mv 33), I.n 4 34 (I.ex 30 0), I.n 5 35 (I.ex 30 1), I.n 6 9 (I.sa 34), I.n 7 10 (I.sa 35)]) (.seq (.seq (.reg 4 [I.n 0 36 (I.mv 7), I.n 1 37 (.unOp .not 4 (.tmp 36)), I.n 2 38 (I.mv 37), I.w 3 39 (I.mv 9) 38 false, I.w 4 40 (.binOp .eql 29 (.tmp 39) (.const (Value.pointer none)) 29) 38 false, I.n 5 41 (I.pb 38 true 40), I.n 6 42 (I.mv 41), I.w 7 43 (I.mv 10) 42 false, I.w 8 44 (I.bc .neq 30 43 0 30) 42 false, I.n 9 45 (I.pb 42 true 44)]) (.cond (.tmp 45) (.seq (.reg 5 [I.n 0 6 (I.sb false)]) .ret) .skip)) (.seq (.seq (.reg 6 [I.n 0 11 (I.si 0)]) (.block 0 (.loop (.seq (.seq (.reg 7 [I.n 0 46 (I.mv 11), I.n 1 47 (I.fa 27 8 2), I.n 2 48 (I.ld 22 47), I.n 3 49 (I.ln 48 22), I.n 4 50 (I.bo .lss 3 46 49 3)]) (.cond (.tmp 50) .skip (.exit 0))) (.seq (.block 1 (.seq (.reg 9 [I.n 0 53 (I.mv 9), I.n 1 54 (I.fa 27 8 2), I.n 2 55 (I.ld 22 54), I.n 3 56 (I.mv 11), I.n 4 57 (I.ia 22 55 56), I.n 5 58 (I.ld 23 57), I.n 6 59 (I.c2 25 53 58 29 23), I.n 7 60 (I.bc .neq 30 59 0 30)]) (.cond (.tmp 60) (.seq (.reg 10 [I.n 0 6 (I.sb false)]) .ret) .skip))) (.reg 8 [I.n 0 51 (I.mv 11), I.n 1 52 (I.bc .add 3 51 1 3), I.n 2 11 (I.sa 52)])))))) (.seq (.seq (.reg 11 [I.n 0 12 (I.si 0)]) (.block 2 (.loop (.seq (.seq (.reg 12 [I.n 0 61 (I.mv 12), I.n 1 62 (I.mv 9), I.n 2 63 (I.nc 62), I.n 3 64 (I.fa 44 63 0), I.n 4 65 (I.c1 29 64 42), I.n 5 66 (I.bo .leq 3 61 65 3)]) (.cond (.tmp 66) .skip (.exit 2))) (.seq (.block 3 (.seq (.reg 14 [I.n 0 70 (I.mv 9), I.n 1 71 (I.mv 12), I.n 2 72 (I.c2 30 70 71 29 3), I.n 3 69 (I.mv 72), I.n 4 73 (I.ex 69 0), I.n 5 74 (I.ex 69 1), I.n 6 13 (I.sa 73), I.n 7 14 (I.sa 74)]) (.seq (.reg 15 [I.n 0 75 (I.mv 2), I.n 1 76 (I.mv 13), I.n 2 77 (I.c1 32 76 9), I.n 3 78 (I.c2 31 75 77 23 3), I.n 4 15 (I.sa 78)]) (.seq (.reg 16 [I.n 0 80 (I.mv 9), I.n 1 81 (I.mv 15), I.n 2 82 (I.mv 12), I.n 3 83 (.call { callee := .value (.func 33), args := #[.tmp 80, .tmp 81, .tmp 82], argTypes := #[29, 23, 3] }), I.n 4 79 (I.mv 83), I.n 5 84 (I.ex 79 0), I.n 6 85 (I.ex 79 1), I.n 7 16 (I.sa 84), I.n 8 17 (I.sa 85)]) (.seq (.seq (.reg 17 [I.n 0 86 (I.mv 14), I.n 1 87 (I.bc .neq 30 86 0 30), I.n 2 88 (I.mv 87), I.w 3 89 (I.mv 17) 88 false, I.w 4 90 (I.bc .neq 30 89 0 30) 88 false, I.n 5 91 (I.pb 88 true 90)]) (.cond (.tmp 91) (.seq (.reg 18 [I.n 0 6 (I.sb false)]) .ret) .skip)) (.seq (.seq (.reg 19 [I.n 0 92 (I.mv 12), I.n 1 93 (I.mv 9), I.n 2 94 (I.nc 93), I.n 3 95 (I.fa 44 94 0), I.n 4 96 (I.c1 29 95 42), I.n 5 97 (I.bo .eql 3 92 96 3)]) (.cond (.tmp 97) (.seq (.reg 20 [I.n 0 98 (I.mv 16), I.n 1 99 (I.mv 15), I.n 2 100 (I.c1 35 99 23), I.n 3 101 (I.c2 34 98 100 23 23), I.n 4 6 (I.sa 101)]) .ret) .skip)) (.seq (.reg 21 [I.n 0 103 (I.mv 15), I.n 1 104 (I.fa 27 8 2), I.n 2 105 (I.ld 22 104), I.n 3 106 (I.mv 12), I.n 4 107 (I.ia 22 105 106), I.n 5 108 (I.ld 23 107), I.n 6 109 (I.c2 36 103 108 23 23), I.n 7 102 (I.mv 109), I.n 8 110 (I.ex 102 0), I.n 9 111 (I.ex 102 1), I.n 10 18 (I.sa 110), I.n 11 19 (I.sa 111)]) (.seq (.reg 22 [I.n 0 113 (I.mv 9), I.n 1 114 (I.mv 18), I.n 2 115 (I.mv 12), I.n 3 116 (I.bc .add 3 115 1 3), I.n 4 117 (.call { callee := .value (.func 33), args := #[.tmp 113, .tmp 114, .tmp 116], argTypes := #[29, 23, 3] }), I.n 5 112 (I.mv 117), I.n 6 118 (I.ex 112 0), I.n 7 119 (I.ex 112 1), I.n 8 20 (I.sa 118), I.n 9 21 (I.sa 119)]) (.seq (.reg 23 [I.n 0 120 (I.mv 19), I.n 1 121 (I.bc .neq 30 120 0 30), I.n 2 122 (I.mv 121), I.w 3 123 (I.mv 21) 122 false, I.w 4 124 (I.bc .neq 30 123 0 30) 122 false, I.n 5 125 (I.pb 122 true 124), I.n 6 126 (I.mv 125), I.w 7 127 (I.mv 16) 126 false, I.w 8 128 (I.mv 20) 126 false, I.w 9 129 (I.c2 34 127 128 23 23) 126 false, I.w 10 130 (.unOp .not 4 (.tmp 129)) 126 false, I.n 11 131 (I.pb 126 true 130)]) (.cond (.tmp 131) (.seq (.reg 24 [I.n 0 6 (I.sb false)]) .ret) .skip)))))))))) (.reg 13 [I.n 0 67 (I.mv 12), I.n 1 68 (I.bc .add 3 67 1 3), I.n 2 12 (I.sa 68)])))))) (.seq (.reg 25 [I.n 0 6 (I.sb false)]) .ret)))))))) := by
  intro c h
  have : c = Tryd.f4.body.get rfl := by rw [← Option.some_inj, ← h]; rfl
  rw [this]; rfl
theorem TI.last {a : List Sp} {L : List (List Sp)} (ho : ∀ s ∈ L, opMayF s = 0 → sumI outS s ≤ 1048576) : ∀ (k i : Nat) (x : List Sp), k + i = L.length → TI a L i x → ∃ y, TI a L L.length y
  | 0, i, x, hk, h => by obtain rfl : i = L.length := by omega
                         exact ⟨x, h⟩
  | k + 1, i, x, hk, h => TI.last ho k (i + 1) _ (by omega) (h.next (by omega) ho).2.2
theorem thr_last {a : List Sp} {L : List (List Sp)} (h : tmE a L = 0) (hl : a.length + lenS L ≤ 9999999) (hb : tbs a ≤ 100000000) (ho : ∀ s ∈ L, opMayF s = 0 → sumI outS s ≤ 1048576) : (thrO (norm a) L).length ≤ 9999999 ∧ tbs (thrO (norm a) L) ≤ 100000000 ∧ opMayF (thrO (norm a) L) = 0 := by
  obtain ⟨y, hy⟩ := TI.last ho L.length 0 _ (by omega) (TI.first h hl hb)
  have e := hy.eq
  rw [List.drop_length] at e
  have e : y = thrO (norm a) L := e
  rw [← e]
  exact ⟨by have := hy.len; omega, hy.tb, hy.may⟩
theorem lenS_le {k : Nat} : ∀ (l : List (List Sp)), (∀ x ∈ l, x.length ≤ k) → lenS l ≤ k * l.length
  | [], _ => Nat.zero_le _
  | x :: l, h => by
    rw [(lenS_cons x l).1, List.length_cons, Nat.mul_succ]
    have := lenS_le l (fun y hy => h y (by simp [hy]))
    have := h x (by simp)
    omega
structure FH (c : Lg) (n0 : Int) : Prop where
  seg : segsE n0 c.segs = 0
  val : validD c.base.data.toList = true
  cnt : countD c.base.data.toList = n0
  n0b : 0 ≤ n0 ∧ n0 ≤ 1048576
  nl : c.segs.length ≤ 20
  each : ∀ x ∈ c.segs, x.length ≤ 13 ∧ tbs x ≤ 312
  bs : c.base.size ≤ 4000
  tot : totb c.segs ≤ 10000
theorem fit_each (t : ByteArray) (l : List (List Sp)) : ∀ x ∈ (fitL' t l).segs, x.length ≤ 13 ∧ tbs x ≤ 312 := by
  intro x hx
  have hs20 : (t.extract 0 (min t.size 20)).size ≤ 20 := by rw [ByteArray.size_extract]; omega
  have hcc := fit_count (t.extract 0 (min t.size 20))
  have hcw := chO_chn l (n := countD (fitS (t.extract 0 (min t.size 20))).data.toList) (by omega)
  have hx : x ∈ (chO l (countD (fitS (t.extract 0 (min t.size 20))).data.toList)).map norm := hx
  rw [List.mem_map] at hx
  obtain ⟨z, hz, rfl⟩ := hx
  obtain ⟨y, m, rfl, m1, m2⟩ := chn_mem hcw.1 z hz
  exact (fit_norm y (by omega)).2
theorem fit_hist (t : ByteArray) (l : List (List Sp)) : ∃ n0, FH (fitL' t l) n0 := by
  obtain ⟨g1, g2, g3, g4, g5⟩ := fit_good t l
  obtain ⟨h1, h2, h3, h4, h5⟩ := chE_zero g1
  have hc : 0 ≤ countD (fitL' t l).base.data.toList := by
    unfold chE at g1
    exact Decidable.byContradiction fun h => by rw [if_pos (by omega)] at g1; cases g1
  exact ⟨_, h5, h1, rfl, ⟨hc, h2⟩, g5, fit_each t l, g3, g4⟩
theorem FH.lens {c : Lg} {n0 : Int} (h : FH c n0) : lenS c.segs ≤ 260 := by
  have := lenS_le (k := 13) c.segs (fun x hx => (h.each x hx).1)
  have := h.nl
  omega
theorem FH.ends {c : Lg} {n0 : Int} (h : FH c n0) (i : Nat) (hi : i ≤ c.segs.length) : 0 ≤ endN n0 (c.segs.take i) ∧ endN n0 (c.segs.take i) ≤ 1048576 := by
  cases i with
  | zero => rw [List.take_zero]; exact h.n0b
  | succ i =>
    have hlt : i < c.segs.length := hi
    rw [List.take_succ_eq_append_getElem hlt, endN_app]
    obtain ⟨a, b, c', d, e⟩ := segE_ok (segsE_get h.seg hlt)
    obtain ⟨e1, e2⟩ := h.each _ (List.getElem_mem hlt)
    exact ⟨(out_nn a (by omega) (by omega)).1, c'⟩
theorem FH.out {c : Lg} {n0 : Int} (h : FH c n0) : ∀ x ∈ c.segs, opMayF x = 0 → sumI outS x ≤ 1048576 := fun x hx _ => by
  obtain ⟨m, hm⟩ := segsE_mem h.seg hx
  obtain ⟨a, b, c', d, e⟩ := segE_ok hm
  obtain ⟨e1, e2⟩ := h.each x hx
  have := (out_nn a (by omega) (by omega)).2
  omega
set_option maxHeartbeats 4000000 in
theorem historyOver_call (t : ByteArray) (l : List (List Sp)) (a : List Sp) : CallW env 4 [.v (.string t), .lst 1 (rowsA l), .lst 3 (sps a)] (fun x hs => x = .v (.bool true) ∧ hs = []) := by
  have hS := shown17_call
  have hrl := rowsA_len l
  have hcut : ∀ k : Nat, List.take k (List.drop 0 (rowsA l)) = rowsA (l.take k) := fun k => by simp [rowsA]
  have hFit := fit16_call t (l.take ((min ((rowsA l).length : Int) 8).toNat - 0))
  obtain ⟨n0, hH⟩ := fit_hist t (l.take ((min ((rowsA l).length : Int) 8).toNat - 0))
  rw [← hcut] at hFit
  generalize fitL' t (l.take ((min ((rowsA l).length : Int) 8).toNat - 0)) = c at *
  unfold lgA at hFit
  have hnb := hH.n0b
  have hbs := hH.bs
  have hnl := hH.nl
  have htot := hH.tot
  have hlen := hH.lens
  have hcnt := hH.cnt
  have hsl := rowsA_len c.segs
  have hN0 : newE c.base = 0 := by unfold newE cntB; rw [if_neg (by omega), if_neg (by omega)]
  have hNew := hnew_ok c.base (by omega) hN0
  have hcb : cntB c.base = n0 := hcnt
  rw [hcb] at hNew
  refine Ev.fn [0, 1, 2, 6, 7, 8, 9, 10, 11, 12, 13, 14, 15, 16, 17, 18, 19, 20, 21, 45, 50, 60, 66, 91, 97, 131] 0 [.tmp 6] Tryd.func4 (comp4 _ rfl) ?_
  repeat' (first | (with_reducible refine Ev.nil_at 6 1552 9100 1 23 0 rfl rfl rfl ?_) | ((with_reducible refine Ev.br0 ?_); (first | refine Ev.brp ?_ | refine Ev.brn ?_); conv => whnf) | ((with_reducible refine Ev.c0 ?_); first | refine Ev.cp ?_ | refine Ev.cn ?_) | ((refine Ev.sw ?_); conv => whnf) | refine Ev.sn ?_ | ((with_reducible refine Ev.chk_k ?_ ?_); rotate_left; exact Ev.bt; conv => whnf) | ((with_reducible (refine Ev.RI.run ?_; constructor)) <;> intro _) | ((refine Ev.sg ?_); conv => whnf) | ((with_reducible refine Ev.sided ?_ ?_); conv => whnf) | ((with_reducible refine Ev.kr (hs := [25, 38, 30, 33, 29]) (fun Q hQ => ?_)); (simp only [Ev.runE_cons, Ev.runE_nil]); conv => whnf) | (with_reducible refine hQ _ ?_; clear hQ Q) | ((refine Ev.sf ?_); intro F hF; conv => whnf) | (with_reducible refine hF _ ?_; clear hF F) | ((with_reducible refine Ev.go_k (fun c' => ?_)); conv => whnf) | ((with_reducible refine Ev.il0 29 ?_); refine Ev.il 29 [0, 2] [.tmp 2] Tryd.func29 (comp29 _ rfl) (fun ct' => ?_)) | ((refine Ev.call_own hNew rfl (by simp) ⟨rfl, rfl, trivial⟩ ?_); conv => whnf) | ((with_reducible refine Ev.ca0 ?_); (first | refine Ev.ca (hS) ?_ | refine Ev.ca (hFit) ?_); conv => whnf) | ((first | refine Ev.el_map0 ?_ (fun hi => ?_) | refine Ev.el_mapN ?_ (fun hi => ?_)); rotate_left; conv => whnf) | ((with_reducible refine Ev.sd0 ?_); exact Ev.sd) | fail)
  refine Ev.loop (fun k st => ∃ (i cc vb vl fl vs fs v8 : Nat), st = ⟨[(2, .lst 3 (sps a)), (8, .ptr 1080 v8 0 0), (9, .ptr 1552 vb 0 0), (11, .v (.int .i64 i))], hisG 1552 9100 1553 vb vl fl vs fs (c.segs.take i) (szL n0 (c.segs.take i)) c.base ++ [(1080, ⟨3, 27, v8, 0, true, [[.v (.string c.base), .lst 1 (ints c.revs), .lst 1 (rowsA c.segs)]]⟩)], cc⟩ ∧ k + i = c.segs.length) ?_ ?_
  · (refine Ev.to _ ?hs1 ?hh1 ?hc1 ⟨c.segs.length, 0, ?_, ?_, ?_, ?_, ?_, ?_, ?_, rfl, ?hp1⟩; (case hs1 | hh1 => ((repeat' (first | exact trivial | refine And.intro ?_ ?_)) <;> (first | exact Ev.se | (refine Ev.slot_eq rfl ?_; first | (first | rfl | (simp; done)) | ((first | refine Ev.int_eq ?_ | refine Ev.own_eq ?_ | refine Ev.blk_eq ?_); (first | rfl | (simp; done)))) | exact Ev.sr))); (case hc1 => exact Nat.le_refl _))
    omega
  rintro k s1 ⟨i, cc, vb, vl, fl, vs, fs, v8, rfl, hk⟩
  have hzl := szL_len (c.segs.take i) n0
  by_cases hi : i < c.segs.length
  · have hii : (i : Int) < ((rowsA c.segs).length : Int) := by omega
    obtain ⟨k', rfl⟩ : ∃ k', k = k' + 1 := ⟨k - 1, by omega⟩
    have hw : IntKind.i64.wrap ((i : Int) + 1) = ((i + 1 : Nat) : Int) := by rw [wrap_id (by omega)]; omega
    obtain ⟨m0, m1, m2, m3, m4⟩ := segE_ok (segsE_get hH.seg hi)
    obtain ⟨x1, x2⟩ := hH.each _ (List.getElem_mem hi)
    have hap : ∀ h : szL n0 (c.segs.take i) ≠ [], happE c.segs[i] ((szL n0 (c.segs.take i)).getLast h) = 0 := fun h => by rw [szL_last]; exact m4
    have hL1 : c.segs.take i ++ [norm c.segs[i]] = c.segs.take (i + 1) := by rw [norm_self m3, List.take_succ_eq_append_getElem hi]
    have hL2 : szL n0 (c.segs.take i) ++ [outW c.segs[i]] = szL n0 (c.segs.take (i + 1)) := by rw [← szL_app, List.take_succ_eq_append_getElem hi]
    repeat' (first | (with_reducible refine Ev.c_pos hii ?_) | (with_reducible refine Ev.br_pos hii ?_) | ((with_reducible refine Ev.br0 ?_); (first | refine Ev.brp ?_ | refine Ev.brn ?_); conv => whnf) | ((with_reducible refine Ev.c0 ?_); first | refine Ev.cp ?_ | refine Ev.cn ?_) | ((refine Ev.sw ?_); conv => whnf) | refine Ev.sn ?_ | ((with_reducible refine Ev.chk_k ?_ ?_); rotate_left; exact Ev.bt; conv => whnf) | ((with_reducible (refine Ev.RI.run ?_; constructor)) <;> intro _) | ((refine Ev.sg ?_); conv => whnf) | ((with_reducible refine Ev.sided ?_ ?_); conv => whnf) | ((with_reducible refine Ev.kr (hs := [25, 38, 30, 33, 29]) (fun Q hQ => ?_)); (simp only [Ev.runE_cons, Ev.runE_nil]); conv => whnf) | (with_reducible refine hQ _ ?_; clear hQ Q) | ((refine Ev.sf ?_); intro F hF; conv => whnf) | (with_reducible refine hF _ ?_; clear hF F) | ((with_reducible refine Ev.go_k (fun c' => ?_)); conv => whnf) | ((with_reducible refine Ev.il0 29 ?_); refine Ev.il 29 [0, 2] [.tmp 2] Tryd.func29 (comp29 _ rfl) (fun ct' => ?_)) | ((((with_reducible refine Ev.hca0 ?_); refine happX0 1552 9100 1553 [(1080, _)] (Ls := c.segs.take i) (Ns := szL n0 (c.segs.take i)) (t := c.base) (w := c.segs[i]) (by decide) (by omega) (by omega) hzl (by rw [List.length_take]; omega) hap ⟨Ev.slot_eq rfl rfl, Ev.slot_eq rfl rfl, Ev.slot_eq rfl rfl, trivial⟩ ⟨Ev.slot_eq rfl rfl, trivial⟩ ⟨rfl, rfl, rfl⟩ (fun vl' vs' c' _ => ?_); rw [hL1, hL2]; conv => whnf)); conv => whnf) | ((first | refine Ev.el_map0 ?_ (fun hi => ?_) | refine Ev.el_mapN ?_ (fun hi => ?_)); rotate_left; conv => whnf) | ((with_reducible refine Ev.sd0 ?_); exact Ev.sd) | fail)
    (refine Ev.again (k') _ ?hm2 ?hs2 ?hh2 ?hc2 ⟨i + 1, ?_, vb, ?_, fl, ?_, fs, v8, rfl, ?hp2⟩; (case hs2 | hh2 => ((repeat' (first | exact trivial | refine And.intro ?_ ?_)) <;> (first | exact Ev.se | (refine Ev.slot_eq rfl ?_; first | (first | exact hw | (simp; done) | rfl) | ((first | refine Ev.int_eq ?_ | refine Ev.own_eq ?_ | refine Ev.blk_eq ?_); (first | exact hw | (simp; done) | rfl))) | exact Ev.sr))); (case hc2 => exact Nat.le_refl _); (case hm2 => omega))
    omega
  have hii : ¬ (i : Int) < ((rowsA c.segs).length : Int) := by omega
  repeat' (first | (with_reducible refine Ev.c_neg hii ?_) | (with_reducible refine Ev.br_neg hii ?_) | ((with_reducible refine Ev.br0 ?_); (first | refine Ev.brp ?_ | refine Ev.brn ?_); conv => whnf) | ((with_reducible refine Ev.c0 ?_); first | refine Ev.cp ?_ | refine Ev.cn ?_) | ((refine Ev.sw ?_); conv => whnf) | refine Ev.sn ?_ | ((with_reducible refine Ev.chk_k ?_ ?_); rotate_left; exact Ev.bt; conv => whnf) | ((with_reducible (refine Ev.RI.run ?_; constructor)) <;> intro _) | ((refine Ev.sg ?_); conv => whnf) | ((with_reducible refine Ev.sided ?_ ?_); conv => whnf) | ((with_reducible refine Ev.kr (hs := [25, 38, 30, 33, 29]) (fun Q hQ => ?_)); (simp only [Ev.runE_cons, Ev.runE_nil]); conv => whnf) | (with_reducible refine hQ _ ?_; clear hQ Q) | ((refine Ev.sf ?_); intro F hF; conv => whnf) | (with_reducible refine hF _ ?_; clear hF F) | ((with_reducible refine Ev.go_k (fun c' => ?_)); conv => whnf) | ((with_reducible refine Ev.il0 29 ?_); refine Ev.il 29 [0, 2] [.tmp 2] Tryd.func29 (comp29 _ rfl) (fun ct' => ?_)) | ((first | refine Ev.el_map0 ?_ (fun hi => ?_) | refine Ev.el_mapN ?_ (fun hi => ?_)); rotate_left; conv => whnf) | ((with_reducible refine Ev.sd0 ?_); exact Ev.sd) | fail)
  have e : i = c.segs.length := by omega
  subst e
  have hzl := szL_len c.segs n0
  refine Ev.loop (fun k st => ∃ (r cc vb vl fl vs fs v8 : Nat), st = ⟨[(2, .lst 3 (sps a)), (8, .ptr 1080 v8 0 0), (9, .ptr 1552 vb 0 0), (12, .v (.int .i64 r))], hisG 1552 9100 1553 vb vl fl vs fs (c.segs) (szL n0 c.segs) c.base ++ [(1080, ⟨3, 27, v8, 0, true, [[.v (.string c.base), .lst 1 (ints c.revs), .lst 1 (rowsA c.segs)]]⟩)], cc⟩ ∧ k + r = c.segs.length) ?_ ?_
  · (refine Ev.to _ ?hs3 ?hh3 ?hc3 ⟨c.segs.length, 0, ?_, vb, vl, fl, vs, fs, v8, rfl, ?hp3⟩; (case hs3 | hh3 => ((repeat' (first | exact trivial | refine And.intro ?_ ?_)) <;> (first | exact Ev.se | (refine Ev.slot_eq rfl ?_; first | (first | (rw [List.take_length]; done) | rfl | (simp; done)) | ((first | refine Ev.int_eq ?_ | refine Ev.own_eq ?_ | refine Ev.blk_eq ?_); (first | (rw [List.take_length]; done) | rfl | (simp; done)))) | exact Ev.sr))); (case hc3 => exact Nat.le_refl _))
    omega
  clear hk
  rintro k s1 ⟨r, cc, vb, vl, fl, vs, fs, v8, rfl, hk⟩
  have hrr : (r : Int) ≤ (c.segs.length : Int) := by omega
  have hat := allG_good (c.segs.take r) n0 c.base hH.val hcnt (segsE_take hH.seg r).1 (fun x hx => by have := hH.each x (List.mem_of_mem_take hx); omega) (by have := totb_take c.segs r; omega)
  obtain ⟨u, u1, u2, u3, u4⟩ := hat
  have hA : hatA c.base c.segs r = .tup [.v (.string u), .v (.int .i64 0)] := by
    unfold hatA allA allR
    rw [if_pos ⟨by omega, hrr⟩, Int.toNat_natCast, if_neg (by rw [hH.val]; simp), u1]
  obtain ⟨m1, m2⟩ := hH.ends r (by omega)
  have us : u.size ≤ 1000000000 := by have := totb_take c.segs r; omega
  have hCnt := pcount_call u us
  rw [u3] at hCnt
  obtain ⟨m, hm⟩ : ∃ m, endN n0 (c.segs.take r) = m := ⟨_, rfl⟩
  rw [hm] at hCnt m1 m2
  have hF4 := fit4_call a m (by omega)
  obtain ⟨x1, x2⟩ := fit_tbs a (n := m) (by omega)
  have x3 := fitO_in a (n := m) (by omega)
  have x4 := fitO_may a (n := m) (by omega)
  generalize fitO a m = x at *
  have hgr : (szL n0 c.segs).getD (r : Int).toNat 0 = m := by rw [Int.toNat_natCast, szL_get _ _ _ (by omega), hm]
  have hsz := segsE_take hH.seg r
  rw [hm] at hsz
  have hov0 : hovE c.segs (szL n0 c.segs) x r = 0 := by
    unfold hovE
    rw [if_pos ⟨by omega, hrr⟩, if_neg (by simpa using x4), hgr, if_neg (by simpa using x3)]
  have htm : tmE x (c.segs.drop r) = 0 := by unfold tmE; rw [if_pos x4, x3]; exact size_segs _ _ hsz.2
  have hO : hovA c.segs (szL n0 c.segs) x r = .tup [.lst 3 (sps (thrO (norm x) (c.segs.drop r))), .v (.int .i64 0)] := by
    unfold hovA thrA
    rw [if_pos hov0, Int.toNat_natCast, htm, if_pos rfl]
  have lp := (thr_last htm (by have := lenS_drop c.segs r; omega) (by omega) (fun s h => hH.out s (List.mem_of_mem_drop h))).1
  by_cases hre : r = c.segs.length
  · have hrq : (r : Int) = (c.segs.length : Int) := by omega
    have hNo := nof_call x (by omega) (by omega)
    have hSm := same_call (thrO (norm x) (c.segs.drop r)) (norm x) (by omega)
    have hdn : c.segs.drop r = [] := List.drop_of_length_le (by omega)
    repeat' (first | (with_reducible refine Ev.c_pos hrr ?_) | (with_reducible refine Ev.br_pos hrr ?_) | (with_reducible refine Ev.c_pos hrq ?_) | (with_reducible refine Ev.br_pos hrq ?_) | ((with_reducible refine Ev.br0 ?_); (first | refine Ev.brp ?_ | refine Ev.brn ?_); conv => whnf) | ((with_reducible refine Ev.c0 ?_); first | refine Ev.cp ?_ | refine Ev.cn ?_) | ((refine Ev.sw ?_); conv => whnf) | refine Ev.sn ?_ | ((with_reducible refine Ev.chk_k ?_ ?_); rotate_left; exact Ev.bt; conv => whnf) | ((with_reducible (refine Ev.RI.run ?_; constructor)) <;> intro _) | ((refine Ev.sg ?_); conv => whnf) | ((with_reducible refine Ev.sided ?_ ?_); conv => whnf) | ((with_reducible refine Ev.kr (hs := [25, 38, 30, 33, 29]) (fun Q hQ => ?_)); (simp only [Ev.runE_cons, Ev.runE_nil]); conv => whnf) | (with_reducible refine hQ _ ?_; clear hQ Q) | ((refine Ev.sf ?_); intro F hF; conv => whnf) | (with_reducible refine hF _ ?_; clear hF F) | ((with_reducible refine Ev.go_k (fun c' => ?_)); conv => whnf) | ((with_reducible refine Ev.il0 29 ?_); refine Ev.il 29 [0, 2] [.tmp 2] Tryd.func29 (comp29 _ rfl) (fun ct' => ?_)) | ((((with_reducible refine Ev.hca0 ?_); refine hatX 1552 9100 1553 [(1080, _)] (Ls := c.segs) (Ns := szL n0 c.segs) (t := c.base) hA (fun ρ => rfl) (by decide) (fun y hy => by have := hH.each y hy; omega) (by omega) (by omega) ⟨Ev.slot_eq rfl rfl, Ev.slot_eq rfl rfl, Ev.slot_eq rfl rfl, trivial⟩ ⟨Ev.slot_eq rfl rfl, trivial⟩ ⟨rfl, rfl, rfl⟩ (fun fl' c' _ => ?_); conv => whnf)); conv => whnf) | ((((with_reducible refine Ev.hca0 ?_); refine hovX 1552 9100 1553 [(1080, _)] (Ls := c.segs) (Ns := szL n0 c.segs) (t := c.base) (a := x) hO (fun ρ => rfl) (by decide) hzl (by omega) (by omega) (fun y hy => by have := hH.each y hy; omega) (by omega) hH.out ⟨Ev.slot_eq rfl rfl, Ev.slot_eq rfl rfl, Ev.slot_eq rfl rfl, trivial⟩ ⟨Ev.slot_eq rfl rfl, trivial⟩ ⟨rfl, rfl, rfl⟩ (fun fl' c' _ => ?_); conv => whnf)); conv => whnf) | ((with_reducible refine Ev.ca0 ?_); (first | refine Ev.ca (hCnt) ?_ | refine Ev.ca (hF4) ?_ | refine Ev.ca (hNo) ?_ | refine Ev.ca (hSm) ?_); conv => whnf) | ((first | refine Ev.el_map0 ?_ (fun hi => ?_) | refine Ev.el_mapN ?_ (fun hi => ?_)); rotate_left; conv => whnf) | ((with_reducible refine Ev.sd0 ?_); exact Ev.sd) | fail)
    rw [hdn]
    exact ⟨by simp [thrO, resOf], rfl⟩
  · have hrq : ¬ (r : Int) = (c.segs.length : Int) := by omega
    have hlt : r < c.segs.length := by omega
    obtain ⟨k', rfl⟩ : ∃ k', k = k' + 1 := ⟨k - 1, by omega⟩
    have hii : (r : Int) < ((rowsA c.segs).length : Int) := by omega
    have hw : IntKind.i64.wrap ((r : Int) + 1) = ((r + 1 : Nat) : Int) := by rw [wrap_id (by omega)]; omega
    obtain ⟨s0, s1, s2, s3, s4⟩ := segE_ok (segsE_get hH.seg hlt)
    obtain ⟨y1, y2⟩ := hH.each _ (List.getElem_mem hlt)
    have hso := hH.out _ (List.getElem_mem hlt) s0
    have he : ovrE x c.segs[r] = 0 := by unfold ovrE; rw [if_neg (by simpa using x4), if_neg (by simpa using s0), if_neg (by rw [x3, s1, hm]; simp)]
    have hC := ovr_call x c.segs[r] (by omega) (by omega) (by omega) (by omega) (tbs_small (by omega)) (tbs_small (by omega)) (fun _ => hso)
    rw [ovrA_ok he] at hC
    obtain ⟨z1, z2, z3, z4⟩ := ovrO_may he (by omega) (by omega) hso
    have hgr2 : (szL n0 c.segs).getD ((r + 1 : Nat) : Int).toNat 0 = outW c.segs[r] := by rw [Int.toNat_natCast, szL_get _ _ _ (by omega), List.take_succ_eq_append_getElem hlt, endN_app]
    have hdr : c.segs.drop r = c.segs[r] :: c.segs.drop (r + 1) := List.drop_eq_getElem_cons hlt
    have hov1 : hovE c.segs (szL n0 c.segs) (ovrO x c.segs[r]) ((r + 1 : Nat) : Int) = 0 := by
      unfold hovE
      rw [if_pos ⟨by omega, by omega⟩, if_neg (by simpa using z1), hgr2, if_neg (by simpa using z2)]
    have hsz2 := segsE_take hH.seg (r + 1)
    rw [List.take_succ_eq_append_getElem hlt, endN_app] at hsz2
    have htm2 : tmE (ovrO x c.segs[r]) (c.segs.drop (r + 1)) = 0 := by unfold tmE; rw [if_pos z1, z2]; exact size_segs _ _ hsz2.2
    have hO2 : hovA c.segs (szL n0 c.segs) (ovrO x c.segs[r]) (IntKind.i64.wrap ((r : Int) + 1)) = .tup [.lst 3 (sps (thrO (norm (ovrO x c.segs[r])) (c.segs.drop (r + 1)))), .v (.int .i64 0)] := by
      rw [hw]
      unfold hovA thrA
      rw [if_pos hov1, Int.toNat_natCast, htm2, if_pos rfl]
    have hpq : thrO (norm x) (c.segs.drop r) = thrO (norm (ovrO x c.segs[r])) (c.segs.drop (r + 1)) := by
      rw [hdr, ovrO_self he (by omega) (by omega) hso]
      show thrO (ovrO (norm x) c.segs[r]) _ = _
      rw [ovrO_norm _ x4 (by omega)]
    have hSm := same_call (thrO (norm x) (c.segs.drop r)) (thrO (norm (ovrO x c.segs[r])) (c.segs.drop (r + 1))) (by omega)
    rw [decide_eq_true hpq] at hSm
    repeat' (first | (with_reducible refine Ev.c_pos hrr ?_) | (with_reducible refine Ev.br_pos hrr ?_) | (with_reducible refine Ev.c_neg hrq ?_) | (with_reducible refine Ev.br_neg hrq ?_) | (with_reducible refine Ev.c_pos hii ?_) | (with_reducible refine Ev.br_pos hii ?_) | ((with_reducible refine Ev.br0 ?_); (first | refine Ev.brp ?_ | refine Ev.brn ?_); conv => whnf) | ((with_reducible refine Ev.c0 ?_); first | refine Ev.cp ?_ | refine Ev.cn ?_) | ((refine Ev.sw ?_); conv => whnf) | refine Ev.sn ?_ | ((with_reducible refine Ev.chk_k ?_ ?_); rotate_left; exact Ev.bt; conv => whnf) | ((with_reducible (refine Ev.RI.run ?_; constructor)) <;> intro _) | ((refine Ev.sg ?_); conv => whnf) | ((with_reducible refine Ev.sided ?_ ?_); conv => whnf) | ((with_reducible refine Ev.kr (hs := [25, 38, 30, 33, 29]) (fun Q hQ => ?_)); (simp only [Ev.runE_cons, Ev.runE_nil]); conv => whnf) | (with_reducible refine hQ _ ?_; clear hQ Q) | ((refine Ev.sf ?_); intro F hF; conv => whnf) | (with_reducible refine hF _ ?_; clear hF F) | ((with_reducible refine Ev.go_k (fun c' => ?_)); conv => whnf) | ((with_reducible refine Ev.il0 29 ?_); refine Ev.il 29 [0, 2] [.tmp 2] Tryd.func29 (comp29 _ rfl) (fun ct' => ?_)) | ((((with_reducible refine Ev.hca0 ?_); refine hatX 1552 9100 1553 [(1080, _)] (Ls := c.segs) (Ns := szL n0 c.segs) (t := c.base) hA (fun ρ => rfl) (by decide) (fun y hy => by have := hH.each y hy; omega) (by omega) (by omega) ⟨Ev.slot_eq rfl rfl, Ev.slot_eq rfl rfl, Ev.slot_eq rfl rfl, trivial⟩ ⟨Ev.slot_eq rfl rfl, trivial⟩ ⟨rfl, rfl, rfl⟩ (fun fl' c' _ => ?_); conv => whnf)); conv => whnf) | ((((with_reducible refine Ev.hca0 ?_); refine hovX 1552 9100 1553 [(1080, _)] (Ls := c.segs) (Ns := szL n0 c.segs) (t := c.base) (a := x) hO (fun ρ => rfl) (by decide) hzl (by omega) (by omega) (fun y hy => by have := hH.each y hy; omega) (by omega) hH.out ⟨Ev.slot_eq rfl rfl, Ev.slot_eq rfl rfl, Ev.slot_eq rfl rfl, trivial⟩ ⟨Ev.slot_eq rfl rfl, trivial⟩ ⟨rfl, rfl, rfl⟩ (fun fl' c' _ => ?_); conv => whnf)); conv => whnf) | ((((with_reducible refine Ev.hca0 ?_); refine hovX 1552 9100 1553 [(1080, _)] (Ls := c.segs) (Ns := szL n0 c.segs) (t := c.base) (a := ovrO x c.segs[r]) hO2 (fun ρ => rfl) (by decide) hzl (by omega) (by omega) (fun y hy => by have := hH.each y hy; omega) (by omega) hH.out ⟨Ev.slot_eq rfl rfl, Ev.slot_eq rfl rfl, Ev.slot_eq rfl rfl, trivial⟩ ⟨Ev.slot_eq rfl rfl, trivial⟩ ⟨rfl, rfl, rfl⟩ (fun fl' c' _ => ?_); conv => whnf)); conv => whnf) | ((with_reducible refine Ev.ca0 ?_); (first | refine Ev.ca (hCnt) ?_ | refine Ev.ca (hF4) ?_ | refine Ev.ca (hC) ?_ | refine Ev.ca (hSm) ?_); conv => whnf) | ((first | refine Ev.el_map0 ?_ (fun hi => ?_) | refine Ev.el_mapN ?_ (fun hi => ?_)); rotate_left; conv => whnf) | ((with_reducible refine Ev.sd0 ?_); exact Ev.sd) | fail)
    (refine Ev.again (k') _ ?hm4 ?hs4 ?hh4 ?hc4 ⟨r + 1, ?_, vb, vl, ?_, vs, fs, v8, rfl, ?hp4⟩; (case hs4 | hh4 => ((repeat' (first | exact trivial | refine And.intro ?_ ?_)) <;> (first | exact Ev.se | (refine Ev.slot_eq rfl ?_; first | (first | exact hw | (simp; done) | rfl) | ((first | refine Ev.int_eq ?_ | refine Ev.own_eq ?_ | refine Ev.blk_eq ?_); (first | exact hw | (simp; done) | rfl))) | exact Ev.sr))); (case hc4 => exact Nat.le_refl _); (case hm4 => omega))
    omega
end Go.Proofs.YtadlnaljicikfaaDoor.Abs
