/- A part of the proof: a calculus over values, and contracts of functions. No condition. -/
import Derived.Test.YtadlnaljicikfaaDoorZF8
namespace Go.Proofs.YtadlnaljicikfaaDoor.Abs
open Go
set_option maxRecDepth 100000
set_option linter.unusedSimpArgs false
set_option linter.unusedVariables false
attribute [local irreducible] Ev.Unr Ev.Go' Ev.bytK Ev.runK Ev.FinL Ev.brC Ev.Side Ev.Wp Ev.Again Ev.To Ev.Fin
open Go.Lib Go.RowKit
theorem comp9 : ∀ c, Tryd.f9.body = some c → comp c = (.seq (.reg 0 [I.n 0 4 (I.sb false)]) (.seq (.reg 1 [I.n 0 17 (I.c0 39), I.n 1 5 (I.sa 17)]) (.seq (.reg 2 [I.n 0 18 (I.mv 0), I.n 1 19 (I.mv 1), I.n 2 20 (I.c2 23 18 19 9 22), I.n 3 6 (.alloc 27), I.u 4 (I.st 27 6 20)]) (.seq (.reg 3 [I.n 0 22 (I.ld 27 6), I.n 1 23 (I.c1 40 22 27), I.n 2 21 (I.mv 23), I.n 3 24 (I.ex 21 0), I.n 4 25 (I.ex 21 1), I.n 5 7 (I.sa 24), I.n 6 8 (I.sa 25)]) (.seq (.reg 4 [I.n 0 27 (I.fa 27 6 0), I.n 1 28 (I.ld 9 27), I.n 2 29 (I.c1 47 28 9), I.n 3 26 (I.mv 29), I.n 4 30 (I.ex 26 0), I.n 5 31 (I.ex 26 1), I.n 6 9 (I.sa 30), I.n 7 10 (I.sa 31)]) (.seq (.reg 5 [I.n 0 33 (I.fa 27 6 1), I.n 1 34 (I.ld 25 33), I.n 2 35 (I.c1 48 34 25), I.n 3 32 (I.mv 35), I.n 4 36 (I.ex 32 0), I.n 5 37 (I.ex 32 1), I.n 6 11 (I.sa 36), I.n 7 12 (I.sa 37)]) (.seq (.reg 6 [I.n 0 38 (.buildSlice 56 0 #[]), I.n 1 39 (I.mv 9), I.n 2 40 (I.ap 38 39 56 56), I.n 3 41 (I.mv 11), I.n 4 42 (I.ap 40 41 56 56), I.n 5 13 (I.sa 42)]) (.seq (.seq (.reg 7 [I.n 0 14 (I.si 0)]) (.block 0 (.loop (.seq (.seq (.reg 8 [I.n 0 43 (I.mv 14), I.n 1 44 (I.fa 27 6 2), I.n 2 45 (I.ld 22 44), I.n 3 46 (I.ln 45 22), I.n 4 47 (I.bo .lss 3 43 46 3)]) (.cond (.tmp 47) .skip (.exit 0))) (.seq (.block 1 (.seq (.reg 10 [I.n 0 51 (I.fa 27 6 2), I.n 1 52 (I.ld 22 51), I.n 2 53 (I.mv 14), I.n 3 54 (I.ia 22 52 53), I.n 4 55 (I.ld 23 54), I.n 5 56 (I.c1 49 55 23), I.n 6 50 (I.mv 56), I.n 7 57 (I.ex 50 0), I.n 8 58 (I.ex 50 1), I.n 9 15 (I.sa 57), I.n 10 16 (I.sa 58)]) (.seq (.seq (.reg 11 [I.n 0 59 (I.mv 16), I.n 1 60 (I.bc .neq 30 59 0 30)]) (.cond (.tmp 60) (.seq (.reg 12 [I.n 0 4 (I.sb false)]) .ret) .skip)) (.reg 13 [I.n 0 61 (I.mv 13), I.n 1 62 (I.mv 15), I.n 2 63 (I.ap 61 62 56 56), I.n 3 13 (I.sa 63)])))) (.reg 9 [I.n 0 48 (I.mv 14), I.n 1 49 (I.bc .add 3 48 1 3), I.n 2 14 (I.sa 49)])))))) (.seq (.reg 14 [I.n 0 64 (I.mv 5), I.n 1 65 (I.mv 64), I.w 2 66 (I.mv 8) 65 true, I.w 3 67 (I.bc .eql 30 66 0 30) 65 true, I.n 4 68 (I.pc 65 67 false), I.n 5 69 (I.mv 68), I.w 6 70 (I.mv 10) 69 true, I.w 7 71 (I.bc .eql 30 70 0 30) 69 true, I.n 8 72 (I.pc 69 71 false), I.n 9 73 (I.mv 72), I.w 10 74 (I.mv 12) 73 true, I.w 11 75 (I.bc .eql 30 74 0 30) 73 true, I.n 12 76 (I.pc 73 75 false), I.n 13 77 (I.mv 76), I.w 14 78 (I.mv 13) 77 true, I.w 15 79 (I.cv 56 9 78) 77 true, I.w 16 80 (I.mv 7) 77 true, I.w 17 81 (I.cv 56 9 80) 77 true, I.w 18 82 (I.bo .eql 9 79 81 9) 77 true, I.n 19 83 (I.pc 77 82 false), I.n 20 4 (I.sa 83)]) .ret))))))))) := by
  intro c h
  have : c = Tryd.f9.body.get rfl := by rw [← Option.some_inj, ← h]; rfl
  rw [this]; rfl
theorem comp8 : ∀ c, Tryd.f8.body = some c → comp c = (.seq (.reg 0 [I.n 0 4 (I.sb false)]) (.seq (.reg 1 [I.n 0 11 (I.c0 39), I.n 1 5 (I.sa 11)]) (.seq (.reg 2 [I.n 0 12 (I.mv 1), I.n 1 13 (.binOp .rem 5 (.tmp 12) (.const (Value.int .u8 31)) 5), I.n 2 14 (I.cv 5 3 13), I.n 3 15 (I.bc .sub 3 14 15 3), I.n 4 6 (I.sa 15)]) (.seq (.reg 3 [I.n 0 16 (I.mv 6), I.n 1 17 (.binOp .add 3 (.const (Value.int .i64 65536)) (.tmp 16) 3), I.n 2 18 (.makeSlice 56 (.tmp 17) (.tmp 17)), I.n 3 7 (I.sa 18)]) (.seq (.seq (.reg 4 [I.n 0 8 (I.si 0)]) (.block 0 (.loop (.seq (.seq (.reg 5 [I.n 0 19 (I.mv 8), I.n 1 20 (I.mv 7), I.n 2 21 (I.ln 20 56), I.n 3 22 (I.bo .lss 3 19 21 3)]) (.cond (.tmp 22) .skip (.exit 0))) (.seq (.block 1 (.reg 7 [I.n 0 25 (I.mv 7), I.n 1 26 (I.mv 8), I.n 2 27 (I.mv 0), I.n 3 28 (I.ia 56 25 26), I.u 4 (I.st 5 28 27)])) (.reg 6 [I.n 0 23 (I.mv 8), I.n 1 24 (I.bc .add 3 23 1 3), I.n 2 8 (I.sa 24)])))))) (.seq (.reg 8 [I.n 0 30 (I.mv 7), I.n 1 31 (I.c1 43 30 56), I.n 2 29 (I.mv 31), I.n 3 32 (I.ex 29 0), I.n 4 33 (I.ex 29 1), I.n 5 9 (.alloc 27), I.u 6 (I.st 27 9 32), I.n 7 10 (I.sa 33)]) (.seq (.reg 9 [I.n 0 34 (I.mv 5), I.n 1 35 (I.mv 34), I.w 2 36 (I.mv 10) 35 true, I.w 3 37 (I.bc .eql 30 36 4 30) 35 true, I.w 4 38 (I.mv 6) 35 true, I.w 5 39 (I.bc .gtr 3 38 0 3) 35 true, I.w 6 40 (I.bo .eql 4 37 39 4) 35 true, I.n 7 41 (I.pc 35 40 false), I.n 8 42 (I.mv 41), I.w 9 43 (I.mv 10) 42 true, I.w 10 44 (I.bc .neq 30 43 0 30) 42 true, I.n 11 45 (I.pc 42 44 false), I.n 12 4 (I.sa 45)]) .ret))))))) := by
  intro c h
  have : c = Tryd.f8.body.get rfl := by rw [← Option.some_inj, ← h]; rfl
  rw [this]; rfl
theorem fit_segs (t : ByteArray) (l : List (List Sp)) : ∀ x ∈ (fitL' t l).segs, wPutE x = 0 ∧ x.length ≤ 13 ∧ tbs x ≤ 312 := by
  intro x hx
  have hc := fit_count (t.extract 0 (min t.size 20))
  have hs20 : (t.extract 0 (min t.size 20)).size ≤ 20 := by rw [ByteArray.size_extract]; omega
  have hW := chO_chn l (n := countD (fitS (t.extract 0 (min t.size 20))).data.toList) (by omega)
  obtain ⟨y, hy, rfl⟩ := List.mem_map.1 (show x ∈ (chO l (countD (fitS (t.extract 0 (min t.size 20))).data.toList)).map norm from hx)
  obtain ⟨z, m, rfl, m1, m2⟩ := chn_mem hW.1 y hy
  exact fit_norm z (by omega)
theorem rowB_le : ∀ (l : List Int) (was : Int), -1 ≤ was → risesG was l = true → (rowB was l).length ≤ 4 * l.length
  | [], was, _, _ => by simp [rowB]
  | n :: l, was, hw, h => by
    simp only [risesG, Bool.and_eq_true, decide_eq_true_eq] at h
    have h1 := rowB_le l n (by omega) (by simp_all)
    have h2 := (putN_len (n := (n - was - 1).toNat) (by omega)).2
    simp only [rowB, List.length_append, List.length_cons]; omega
theorem encR_small {l : List Int} (h : rises l = true) : (encR l).length ≤ 4 * l.length + 4 := by
  obtain ⟨v1, v2⟩ := rises_len h
  unfold rises at h
  simp only [Bool.and_eq_true, decide_eq_true_eq] at h
  have h1 := rowB_le l (-1) (by omega) h.2
  have h2 := (putN_len (n := l.length) (by omega)).2
  unfold encR; rw [List.length_append]; omega
theorem encT_small {t : ByteArray} (h : t.size ≤ 65536) : (encT t).length ≤ t.size + 4 := by
  have h2 := (putN_len (n := t.size) (by omega)).2
  have hdl : t.data.toList.length = t.size := by rw [Array.length_toList]; rfl
  unfold encT; rw [List.length_append, hdl]; omega
theorem totW_bound {l : List (List Sp)} {b : Nat} (h : ∀ x ∈ l, tbs x + 4 * x.length + 4 ≤ b) : totW l ≤ b * l.length := by
  induction l with
  | nil => simp [totW]
  | cons x l ih =>
    have := ih (fun y hy => h y (by simp [hy]))
    have := h x (by simp)
    rw [totW_cons, List.length_cons, Nat.mul_succ]; omega
theorem fit_put (t : ByteArray) (l : List (List Sp)) : fPutE (fitL' t l) = 0 ∧ totW (fitL' t l).segs ≤ 8000 ∧ sPutE (fitL' t l).base = 0 ∧ (encF (fitL' t l)).length ≤ 20000 := by
  have hs := fit_segs t l
  obtain ⟨f1, f2, f3, f4, f5⟩ := fit_good t l
  generalize fitL' t l = c at *
  obtain ⟨c1, c2, c3, c4, c5⟩ := chE_zero f1
  have hb := totW_bound (b := 368) (fun x hx => by have := hs x hx; omega : ∀ x ∈ c.segs, tbs x + 4 * x.length + 4 ≤ 368)
  have hsp : sPutE c.base = 0 := by unfold sPutE; rw [if_pos c1, if_neg (by omega)]
  have h1 := encT_small (t := c.base) (by omega)
  have h2 := encR_small c3
  have h3 := flatW_le (segPE_of fun x hx => (hs x hx).1)
  have h4 : (encF c).length ≤ 20000 := by
    unfold encF; rw [List.length_append, List.length_append]; omega
  exact ⟨fPutE_of f1 hsp (fun x hx => (hs x hx).1) (by omega), by omega, hsp, h4⟩
set_option maxHeartbeats 2000000 in
theorem fileParts_call (t : ByteArray) (l : List (List Sp)) : CallW env 9 [.v (.string t), .lst 1 (rowsA l)] (fun r hs => r = .v (.bool true) ∧ hs = []) := by
  have hF := fit16_call t l
  have hsg := fit_segs t l
  obtain ⟨p1, p2, p3, p4⟩ := fit_put t l
  obtain ⟨f1, f2, f3, f4, f5⟩ := fit_good t l
  generalize fitL' t l = c at *
  obtain ⟨c1, c2, c3, c4, c5⟩ := chE_zero f1
  have hP := fputA_ok f2 (by omega) p1
  have hS := sput_call c.base f2.1
  rw [sPutA_ok p3] at hS
  have hR := prow_call c.revs f2.2.1
  rw [rPutA_ok c3] at hR
  have hrl := rowsA_len c.segs
  have hmx : 2000000003 ≤ maxLen := by decide
  have l1 := encT_small (t := c.base) (by omega)
  have l2 := encR_small c3
  refine Ev.fn [0, 1, 4, 5, 6, 7, 8, 9, 10, 11, 12, 13, 14, 15, 16, 47, 60] 0 [.tmp 4] Tryd.func9 (comp9 _ rfl) ?_
  repeat' (first | ((with_reducible refine Ev.br0 ?_); (first | refine Ev.brp ?_ | refine Ev.brn ?_); conv => whnf) | ((with_reducible refine Ev.c0 ?_); first | refine Ev.cp ?_ | refine Ev.cn ?_) | ((refine Ev.sw ?_); conv => whnf) | refine Ev.sn ?_ | ((with_reducible refine Ev.chk_k ?_ ?_); rotate_left; exact Ev.bt; conv => whnf) | ((with_reducible (refine Ev.RI.run ?_; constructor)) <;> intro _) | ((refine Ev.sg ?_); conv => whnf) | ((with_reducible refine Ev.sided ?_ ?_); conv => whnf) | ((with_reducible refine Ev.kr (hs := []) (fun Q hQ => ?_)); (simp only [Ev.runE_cons, Ev.runE_nil]); conv => whnf) | (with_reducible refine hQ _ ?_; clear hQ Q) | ((refine Ev.sf ?_); intro F hF; conv => whnf) | (with_reducible refine hF _ ?_; clear hF F) | ((with_reducible refine Ev.go_k (fun c' => ?_)); conv => whnf) | ((with_reducible refine Ev.ca0 ?_); (first | refine Ev.ca (shown21_call) ?_ | refine Ev.ca (hF) ?_ | refine Ev.ca (hP) ?_ | refine Ev.ca (hS) ?_ | refine Ev.ca (hR) ?_); conv => whnf) | ((first | refine Ev.el_map0 ?_ (fun hi => ?_) | refine Ev.el_mapN ?_ (fun hi => ?_)); rotate_left; conv => whnf) | ((with_reducible refine Ev.sd0 ?_); exact Ev.sd) | fail)
  have e1 : 0 + (bts (encT c.base)).length + (bts (encR c.revs)).length = (encFT c 0).length := by unfold encFT; simp
  have e2 : [] ++ bts (encT c.base) ++ bts (encR c.revs) = bts (encFT c 0) := by unfold encFT; rw [List.nil_append, ← bts_app]; simp
  refine Ev.loop (fun k s => ∃ i ct v w : Nat, s = ⟨[(5, .v (.bool true)), (6, .ptr 1048 w 0 0), (7, .lst 1 (bts (encF c))), (8, .v (.int .i64 0)), (10, .v (.int .i64 0)), (12, .v (.int .i64 0)), (13, .own 3072 v 0 (encFT c i).length), (14, .v (.int .i64 i))],
    [(3072, ⟨1, 5, v, 0, false, bts (encFT c i)⟩), (1048, ⟨3, 27, w, 0, true, [[.v (.string c.base), .lst 1 (ints c.revs), .lst 1 (rowsA c.segs)]]⟩)], ct⟩ ∧ k + i = c.segs.length ∧ segPE (c.segs.take i) = 0) ?_ ?_
  · (refine Ev.to _ ?hs1 ?hh1 ?hc1 ⟨c.segs.length, 0, ?_, ?_, ?_, rfl, ?hp1⟩; (case hs1 | hh1 => ((repeat' (first | exact trivial | refine And.intro ?_ ?_)) <;> (first | exact Ev.se | (refine Ev.slot_eq rfl ?_; first | (first | exact e1 | exact congrArg (fun n => Blk.mk 1 5 _ 0 false n) e2 | rfl) | ((first | refine Ev.int_eq ?_ | refine Ev.own_eq ?_ | refine Ev.blk_eq ?_); (first | exact e1 | exact congrArg (fun n => Blk.mk 1 5 _ 0 false n) e2 | rfl))) | exact Ev.sr))); (case hc1 => exact Nat.le_refl _))
    exact ⟨by omega, rfl⟩
  rintro k s1 ⟨i, ct, v, w, rfl, hk, hsp⟩
  by_cases hi : i < c.segs.length
  · have hic := hi
    have hi2 : (i : Int) < ((rowsA c.segs).length : Int) := by omega
    obtain ⟨g1, g2, g3⟩ := hsg _ (List.getElem_mem hi)
    have hW := wput_ok (put_small g1).2 (by omega) g1
    have hle := encFT_len (c := c) (i := i) p3 c3 hsp
    have hwl := encW_le g1
    repeat' (first | ((with_reducible refine Ev.br0 ?_); (first | refine Ev.brp ?_ | refine Ev.brn ?_); conv => whnf) | ((with_reducible refine Ev.c0 ?_); first | refine Ev.cp ?_ | refine Ev.cn ?_) | (((with_reducible refine Ev.br_pos hi2 ?_); conv => whnf)) | (with_reducible refine Ev.c_pos hi2 ?_) | ((refine Ev.sw ?_); conv => whnf) | refine Ev.sn ?_ | ((with_reducible refine Ev.chk_k ?_ ?_); rotate_left; exact Ev.bt; conv => whnf) | ((with_reducible (refine Ev.RI.run ?_; constructor)) <;> intro _) | ((refine Ev.sg ?_); conv => whnf) | ((with_reducible refine Ev.sided ?_ ?_); conv => whnf) | ((with_reducible refine Ev.kr (hs := []) (fun Q hQ => ?_)); (simp only [Ev.runE_cons, Ev.runE_nil]); conv => whnf) | (with_reducible refine hQ _ ?_; clear hQ Q) | ((refine Ev.sf ?_); intro F hF; conv => whnf) | (with_reducible refine hF _ ?_; clear hF F) | ((with_reducible refine Ev.go_k (fun c' => ?_)); conv => whnf) | ((with_reducible refine Ev.ca0 ?_); (first | refine Ev.ca (hW) ?_); conv => whnf) | ((first | refine Ev.el_map0 ?_ (fun hi => ?_) | refine Ev.el_mapN ?_ (fun hi => ?_)); rotate_left; conv => whnf) | ((with_reducible refine Ev.sd0 ?_); exact Ev.sd) | fail)
    have e1 : (encFT c i).length + (bts (encW c.segs[i])).length = (encFT c (i + 1)).length := by rw [encFT_succ hic, bts_len, List.length_append]
    have e2 : bts (encFT c i) ++ bts (encW c.segs[i]) = bts (encFT c (i + 1)) := by rw [encFT_succ hic, bts_app]
    (refine Ev.again (k - 1) _ ?hm2 ?hs2 ?hh2 ?hc2 ⟨i + 1, ?_, ?_, w, rfl, ?hp2⟩; (case hs2 | hh2 => ((repeat' (first | exact trivial | refine And.intro ?_ ?_)) <;> (first | exact Ev.se | (refine Ev.slot_eq rfl ?_; first | (first | exact e1 | exact congrArg (fun n => Blk.mk 1 5 _ 0 false n) e2 | exact wrap_succ (by omega) | rfl) | ((first | refine Ev.int_eq ?_ | refine Ev.own_eq ?_ | refine Ev.blk_eq ?_); (first | exact e1 | exact congrArg (fun n => Blk.mk 1 5 _ 0 false n) e2 | exact wrap_succ (by omega) | rfl))) | exact Ev.sr))); (case hc2 => exact Nat.le_refl _); (case hm2 => omega))
    exact ⟨by omega, segPE_next hic hsp g1⟩
  · have hi2 : ¬ (i : Int) < ((rowsA c.segs).length : Int) := by omega
    have hall := encFT_all (c := c) (i := i) (by omega)
    repeat' (first | ((with_reducible refine Ev.br0 ?_); (first | refine Ev.brp ?_ | refine Ev.brn ?_); conv => whnf) | ((with_reducible refine Ev.c0 ?_); first | refine Ev.cp ?_ | refine Ev.cn ?_) | (((with_reducible refine Ev.br_neg hi2 ?_); conv => whnf)) | (with_reducible refine Ev.c_neg hi2 ?_) | (with_reducible refine Ev.br_pos rfl ?_) | (with_reducible refine Ev.c_pos rfl ?_) | ((refine Ev.sw ?_); conv => whnf) | refine Ev.sn ?_ | ((with_reducible refine Ev.chk_k ?_ ?_); rotate_left; exact Ev.bt; conv => whnf) | ((with_reducible (refine Ev.RI.run ?_; constructor)) <;> intro _) | ((refine Ev.sg ?_); conv => whnf) | ((with_reducible refine Ev.sided ?_ ?_); conv => whnf) | ((with_reducible refine Ev.kr (hs := []) (fun Q hQ => ?_)); (simp only [Ev.runE_cons, Ev.runE_nil]); conv => whnf) | (with_reducible refine hQ _ ?_; clear hQ Q) | ((refine Ev.sf ?_); intro F hF; conv => whnf) | (with_reducible refine hF _ ?_; clear hF F) | ((with_reducible refine Ev.go_k (fun c' => ?_)); conv => whnf) | ((first | refine Ev.el_map0 ?_ (fun hi => ?_) | refine Ev.el_mapN ?_ (fun hi => ?_)); rotate_left; conv => whnf) | ((with_reducible refine Ev.sd0 ?_); exact Ev.sd) | fail)
    rw [hall]
    refine ⟨Ev.bool_eq (decide_eq_true ?_), rfl⟩
    rw [List.drop_zero, List.take_of_length_le (Nat.le_refl _)]
theorem rep_take {B : UInt8} {M : Nat} (h : 5 ≤ M) : takeN (List.replicate M B) = if 128 ≤ B.toNat then (0, 0, 8) else ((B.toNat : Int), 1, 0) := by
  obtain ⟨m, rfl⟩ : ∃ m, M = m + 5 := ⟨M - 5, by omega⟩
  simp only [List.replicate_succ, takeN]
  by_cases hb : 128 ≤ B.toNat
  · simp [takeG, hb]
  · simp [takeG, hb]
theorem rep_drop {B : UInt8} {M : Nat} {A X : List UInt8} (h : A ++ X = List.replicate M B) : X = List.replicate (M - A.length) B := by
  have := congrArg (List.drop A.length) h
  rwa [List.drop_left, List.drop_replicate] at this
theorem rep_put {B : UInt8} {M n : Nat} {X : List UInt8} (hn : n < 268435456) (hM : 5 ≤ M) (h : putN n ++ X = List.replicate M B) : B.toNat < 128 ∧ n = B.toNat ∧ X = List.replicate (M - 1) B := by
  have h1 := take_put hn X
  rw [h, rep_take hM] at h1
  by_cases hb : 128 ≤ B.toNat
  · rw [if_pos hb] at h1; simp at h1
  · rw [if_neg hb] at h1
    simp only [Prod.mk.injEq, and_true] at h1
    have hX := rep_drop h
    rw [show (putN n).length = 1 by omega] at hX
    exact ⟨by omega, by omega, hX⟩
theorem rep_row {B : UInt8} : ∀ (l : List Int) (was : Int) (M : Nat) (X : List UInt8), -1 ≤ was → risesG was l = true → l.length + 5 ≤ M → rowB was l ++ X = List.replicate M B → X = List.replicate (M - l.length) B
  | [], was, M, X, _, _, _, h => by simpa [rowB] using h
  | n :: l, was, M, X, hw, hr, hM, h => by
    simp only [risesG, Bool.and_eq_true, decide_eq_true_eq] at hr
    simp only [rowB, List.append_assoc] at h
    rw [List.length_cons] at hM
    obtain ⟨_, _, h3⟩ := rep_put (by omega) (by omega) h
    have := rep_row l n (M - 1) X (by omega) (by simp_all) (by omega) h3
    rw [this, List.length_cons]; congr 1; omega
theorem rep_never {B : UInt8} {K : Nat} (h1 : 65521 ≤ K) (h2 : K ≤ 65551) (q : Lg) : fTake (List.replicate K B) ≠ .ok q := by
  intro h
  obtain ⟨p1, p2⟩ := fTake_inv h
  obtain ⟨c1, c2, c3, c4⟩ := fPutE_zero p1
  obtain ⟨d1, d2, d3, d4, d5⟩ := chE_zero c1
  obtain ⟨v1, v2⟩ := rises_len d3
  have hs : q.base.size ≤ 65536 := by
    unfold sPutE at c2; rw [if_pos d1] at c2
    split at c2
    · cases c2
    · omega
  unfold encF encT encR at p2
  simp only [List.append_assoc] at p2
  obtain ⟨b1, b2, b3⟩ := rep_put (by omega) (by omega) p2
  have b4 := rep_drop b3
  have hdl : q.base.data.toList.length = q.base.size := by rw [Array.length_toList]; rfl
  obtain ⟨_, b5, b6⟩ := rep_put (by omega) (by omega) b4
  unfold rises at d3
  simp only [Bool.and_eq_true, decide_eq_true_eq] at d3
  have b7 := rep_row _ _ _ _ (by omega) d3.2 (by omega) b6
  cases hg : q.segs with
  | nil =>
    rw [hg] at b7
    have := congrArg List.length b7
    rw [List.length_replicate] at this
    simp at this; omega
  | cons x l =>
    rw [hg, List.flatMap_cons] at b7
    have hx := wPutE_ok (c3 x (by rw [hg]; simp))
    unfold encW at b7
    rw [List.append_assoc] at b7
    obtain ⟨_, b8, b9⟩ := rep_put (by omega) (by omega) b7.symm.symm
    rw [hg, List.length_cons] at d4
    cases x with
    | nil => simp at b8; omega
    | cons s1 x =>
      cases x with
      | nil => simp at b8; omega
      | cons s2 x =>
        obtain ⟨x1, x2, x3, x4⟩ := hx
        have f1 := head_facts (x4 s1 (by simp))
        have f2 := head_facts (x4 s2 (by simp))
        have hsz : s1.t.size ≤ 65536 := (x4 s1 (by simp)).2.2
        rw [List.flatMap_cons, List.append_assoc] at b9
        unfold encSp at b9
        rw [List.append_assoc] at b9
        have g1 := rep_put (n := headOf s1) f1.2.1 (by omega) b9
        have g2 := rep_drop g1.2.2
        have hdl1 : s1.t.data.toList.length = s1.t.size := by rw [Array.length_toList]; rfl
        have hq : s1.t.size ≤ 63 := by
          have := f1.2.2.2.1; have := g1.2.1
          rcases (x4 s1 (by simp)).1.cases with ⟨_, _, _, e⟩ | ⟨_, e, _⟩
          · rw [e]; exact Nat.zero_le _
          · omega
        rw [List.flatMap_cons, List.append_assoc, List.append_assoc] at g2
        have g3 := rep_put (n := headOf s2) f2.2.1 (by omega) g2
        have k1 := f1.2.2.1; have k2 := f2.2.2.1
        have hk : s1.k = s2.k := by rw [← k1, ← k2, g1.2.1, g3.2.1]
        simp only [isN, isNG, Bool.and_eq_true, Bool.not_eq_true', decide_eq_false_iff_not, Option.some.injEq] at x2
        exact x2.2.1.2 hk
def fillB (K i : Nat) (c : Int) : List (List AV) := List.replicate i [.v (.int .u8 c)] ++ List.replicate (K - i) [.v (.int .u8 0)]
set_option maxHeartbeats 2000000 in
theorem fileBig_call (c n : Int) (hc : 0 ≤ c ∧ c < 256) (hn : 0 ≤ n ∧ n < 256) : CallW env 8 [.v (.int .u8 c), .v (.int .u8 n)] (fun r hs => r = .v (.bool true) ∧ hs = []) := by
  have hmx : 2000000003 ≤ maxLen := by decide
  obtain ⟨B, hB⟩ : ∃ B : UInt8, (B.toNat : Int) = c := ⟨UInt8.ofNat c.toNat, by rw [UInt8.toNat_ofNat_of_lt' (by show c.toNat < 256; omega)]; omega⟩
  have hk : (n.tmod 31) = n % 31 := Int.tmod_eq_emod_of_nonneg hn.1
  obtain ⟨K, hK⟩ : ∃ K : Nat, 65536 + (n % 31 - 15) = (K : Int) := ⟨(65536 + (n % 31 - 15)).toNat, by omega⟩
  have hw : IntKind.i64.wrap (65536 + IntKind.i64.wrap (IntKind.i64.wrap (n.tmod 31) - 15)) = (K : Int) := by rw [hk, wrap_id (a := n % 31) (by omega), wrap_id (a := n % 31 - 15) (by omega), wrap_id (by omega)]; omega
  have hw6 : IntKind.i64.wrap (IntKind.i64.wrap (n.tmod 31) - 15) = n % 31 - 15 := by rw [hk, wrap_id (a := n % 31) (by omega), wrap_id (a := n % 31 - 15) (by omega)]
  refine Ev.fn [0, 1, 4, 5, 6, 7, 8, 10, 22] 0 [.tmp 4] Tryd.func8 (comp8 _ rfl) ?_
  repeat' (first | ((with_reducible refine Ev.br0 ?_); (first | refine Ev.brp ?_ | refine Ev.brn ?_); conv => whnf) | ((with_reducible refine Ev.c0 ?_); first | refine Ev.cp ?_ | refine Ev.cn ?_) | ((refine Ev.sw ?_); conv => whnf) | refine Ev.sn ?_ | ((with_reducible refine Ev.chk_k ?_ ?_); rotate_left; exact Ev.bt; conv => whnf) | ((with_reducible (refine Ev.RI.run ?_; constructor)) <;> intro _) | ((refine Ev.sg ?_); conv => whnf) | ((with_reducible refine Ev.sided ?_ ?_); conv => whnf) | ((with_reducible refine Ev.kr (hs := []) (fun Q hQ => ?_)); (simp only [Ev.runE_cons, Ev.runE_nil]); conv => whnf) | (with_reducible refine hQ _ ?_; clear hQ Q) | ((refine Ev.sf ?_); intro F hF; conv => whnf) | (with_reducible refine hF _ ?_; clear hF F) | ((with_reducible refine Ev.go_k (fun c' => ?_)); conv => whnf) | ((with_reducible refine Ev.ca0 ?_); (first | refine Ev.ca (shown21_call) ?_); conv => whnf) | ((first | refine Ev.el_map0 ?_ (fun hi => ?_) | refine Ev.el_mapN ?_ (fun hi => ?_)); rotate_left; conv => whnf) | ((with_reducible refine Ev.sd0 ?_); exact Ev.sd) | fail)
  · refine Ev.loop (fun k s => ∃ i ct v : Nat, s = ⟨[(0, .v (.int .u8 c)), (4, .v (.bool false)), (5, .v (.bool true)), (6, .v (.int .i64 (n % 31 - 15))), (7, .own 1552 v 0 K), (8, .v (.int .i64 i))], [(1552, ⟨1, 5, v, 0, false, fillB K i c⟩)], ct⟩ ∧ k + i = K) ?_ ?_
    · have e1 : (IntKind.i64.wrap (65536 + IntKind.i64.wrap (IntKind.i64.wrap (n.tmod 31) - 15))).toNat = K := by rw [hw]; omega
      have e2 : List.replicate (IntKind.i64.wrap (65536 + IntKind.i64.wrap (IntKind.i64.wrap (n.tmod 31) - 15))).toNat [AV.v (.int .u8 0)] = fillB K 0 c := by rw [e1]; rfl
      (refine Ev.to _ ?hs3 ?hh3 ?hc3 ⟨K, 0, ?_, ?_, rfl, ?hp3⟩; (case hs3 | hh3 => ((repeat' (first | exact trivial | refine And.intro ?_ ?_)) <;> (first | exact Ev.se | (refine Ev.slot_eq rfl ?_; first | (first | exact hw6 | exact e1 | exact congrArg (fun n => Blk.mk 1 5 _ 0 false n) e2 | rfl) | ((first | refine Ev.int_eq ?_ | refine Ev.own_eq ?_ | refine Ev.blk_eq ?_); (first | exact hw6 | exact e1 | exact congrArg (fun n => Blk.mk 1 5 _ 0 false n) e2 | rfl))) | exact Ev.sr))); (case hc3 => exact Nat.le_refl _))
      omega
    rintro k s1 ⟨i, ct, v, rfl, hik⟩
    have hfl : (fillB K i c).length = K := by unfold fillB; rw [List.length_append, List.length_replicate, List.length_replicate]; omega
    by_cases hi : i < K
    · have hi2 : (i : Int) < (K : Int) := by omega
      have hg : (fillB K i c)[0 + (i : Int).toNat]? = some [.v (.int .u8 0)] := by
        unfold fillB
        rw [List.getElem?_append_right (by rw [List.length_replicate]; omega), List.length_replicate, List.getElem?_replicate, if_pos (by omega)]
      repeat' (first | ((with_reducible refine Ev.br0 ?_); (first | refine Ev.brp ?_ | refine Ev.brn ?_); conv => whnf) | ((with_reducible refine Ev.c0 ?_); first | refine Ev.cp ?_ | refine Ev.cn ?_) | (((with_reducible refine Ev.br_pos hi2 ?_); conv => whnf)) | (with_reducible refine Ev.c_pos hi2 ?_) | ((refine Ev.sw ?_); conv => whnf) | refine Ev.sn ?_ | ((with_reducible refine Ev.chk_k ?_ ?_); rotate_left; exact Ev.bt; conv => whnf) | ((with_reducible (refine Ev.RI.run ?_; constructor)) <;> intro _) | ((refine Ev.sg ?_); conv => whnf) | ((with_reducible refine Ev.sided ?_ ?_); conv => whnf) | ((with_reducible refine Ev.kr (hs := []) (fun Q hQ => ?_)); (simp only [Ev.runE_cons, Ev.runE_nil]); conv => whnf) | (with_reducible refine hQ _ ?_; clear hQ Q) | ((refine Ev.sf ?_); intro F hF; conv => whnf) | (with_reducible refine hF _ ?_; clear hF F) | ((with_reducible refine Ev.go_k (fun c' => ?_)); conv => whnf) | ((rw [hg]); conv => whnf) | ((first | refine Ev.el_map0 ?_ (fun hi => ?_) | refine Ev.el_mapN ?_ (fun hi => ?_)); rotate_left; conv => whnf) | ((with_reducible refine Ev.sd0 ?_); exact Ev.sd) | fail)
      have e2 : (fillB K i c).set (0 + (i : Int).toNat) (withCells [.v (.int .u8 0)] 0 [.v (.int .u8 c)]) = fillB K (i + 1) c := by
        unfold fillB
        obtain ⟨d, hd⟩ : ∃ d, K - i = d + 1 := ⟨K - i - 1, by omega⟩
        rw [hd, show K - (i + 1) = d by omega, List.set_append_right _ _ (by rw [List.length_replicate]; omega), List.length_replicate, show 0 + (i : Int).toNat - i = 0 by omega, List.replicate_succ, List.set_cons_zero, List.replicate_succ', List.append_assoc]
        rfl
      (refine Ev.again (k - 1) _ ?hm4 ?hs4 ?hh4 ?hc4 ⟨i + 1, ?_, v, rfl, ?hp4⟩; (case hs4 | hh4 => ((repeat' (first | exact trivial | refine And.intro ?_ ?_)) <;> (first | exact Ev.se | (refine Ev.slot_eq rfl ?_; first | (first | exact congrArg (fun n => Blk.mk 1 5 _ 0 false n) e2 | exact wrap_succ (by omega) | rfl) | ((first | refine Ev.int_eq ?_ | refine Ev.own_eq ?_ | refine Ev.blk_eq ?_); (first | exact congrArg (fun n => Blk.mk 1 5 _ 0 false n) e2 | exact wrap_succ (by omega) | rfl))) | exact Ev.sr))); (case hc4 => exact Nat.le_refl _); (case hm4 => omega))
      omega
    · have hi2 : ¬ (i : Int) < (K : Int) := by omega
      have hb : List.take K (List.drop 0 (fillB K i c)) = bts (List.replicate K B) := by
        obtain rfl : i = K := by omega
        rw [List.drop_zero, List.take_of_length_le (by omega)]
        unfold fillB bts; rw [Nat.sub_self]; simp [hB]
      have hT := ftake_call (List.replicate K B)
      rw [← hb] at hT
      have hE : fTakeE (List.replicate K B) ≠ 0 ∧ (fTakeE (List.replicate K B) = 4 ↔ 0 < n % 31 - 15) := by
        have hl : (List.replicate K B).length = K := List.length_replicate ..
        unfold fTakeE
        cases h : fTake (List.replicate K B) with
        | error e =>
          rcases fTake_bad h with ⟨h1, h2⟩ | ⟨h1, h2⟩
          · exact ⟨by simp only; omega, by simp only; omega⟩
          · exact ⟨by simp only; omega, by simp only; omega⟩
        | ok q =>
          exact absurd h (rep_never (by omega) (by omega) q)
      obtain ⟨hE1, hE2⟩ := hE
      generalize fTakeE (List.replicate K B) = e at *
      have hd : (decide (e = 4) == decide (0 < n % 31 - 15)) = true := by simp [hE2]
      repeat' (first | ((with_reducible refine Ev.br0 ?_); (first | refine Ev.brp ?_ | refine Ev.brn ?_); conv => whnf) | ((with_reducible refine Ev.c0 ?_); first | refine Ev.cp ?_ | refine Ev.cn ?_) | (((with_reducible refine Ev.br_neg hi2 ?_); conv => whnf)) | (with_reducible refine Ev.c_neg hi2 ?_) | ((refine Ev.sw ?_); conv => whnf) | refine Ev.sn ?_ | ((with_reducible refine Ev.chk_k ?_ ?_); rotate_left; exact Ev.bt; conv => whnf) | ((with_reducible (refine Ev.RI.run ?_; constructor)) <;> intro _) | ((refine Ev.sg ?_); conv => whnf) | ((with_reducible refine Ev.sided ?_ ?_); conv => whnf) | ((with_reducible refine Ev.kr (hs := []) (fun Q hQ => ?_)); (simp only [Ev.runE_cons, Ev.runE_nil]); conv => whnf) | (with_reducible refine hQ _ ?_; clear hQ Q) | ((refine Ev.sf ?_); intro F hF; conv => whnf) | (with_reducible refine hF _ ?_; clear hF F) | ((with_reducible refine Ev.go_k (fun c' => ?_)); conv => whnf) | ((with_reducible refine Ev.ca0 ?_); (first | refine Ev.ca (hT) ?_); conv => whnf) | ((first | refine Ev.el_map0 ?_ (fun hi => ?_) | refine Ev.el_mapN ?_ (fun hi => ?_)); rotate_left; conv => whnf) | ((with_reducible refine Ev.sd0 ?_); exact Ev.sd) | fail)
      · exact ⟨Ev.bool_eq (by simp [hE1]), rfl⟩
      · rename_i hd'; rw [hd] at hd'; cases hd'
end Go.Proofs.YtadlnaljicikfaaDoor.Abs
