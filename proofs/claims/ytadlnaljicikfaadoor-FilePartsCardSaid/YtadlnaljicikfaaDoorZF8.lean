/- A part of the proof: a calculus over values, and contracts of functions. No condition. -/
import Derived.Test.YtadlnaljicikfaaDoorZF7
namespace Go.Proofs.YtadlnaljicikfaaDoor.Abs
open Go Go.Lib
set_option linter.unusedSimpArgs false
set_option linter.unusedVariables false
def segPE : List (List Sp) → Int
  | [] => 0
  | x :: l => if wPutE x = 0 then segPE l else wPutE x
def encF (c : Lg) : List UInt8 := encT c.base ++ encR c.revs ++ c.segs.flatMap encW
def fPutE (c : Lg) : Int := if chE c ≠ 0 then chE c else if sPutE c.base ≠ 0 then sPutE c.base else if segPE c.segs ≠ 0 then segPE c.segs else if 65536 < (encF c).length then 4 else 0
def fPutA (c : Lg) : AV := if fPutE c = 0 then .tup [.lst 1 (bts (encF c)), .v (.int .i64 0)] else .tup [nilA, .v (.int .i64 (fPutE c))]
theorem fPutA_bad {c : Lg} {e : Int} (h : fPutE c = e) (he : e ≠ 0) : fPutA c = .tup [nilA, .v (.int .i64 e)] := by subst h; exact if_neg he
theorem fPutA_ok {c : Lg} (h : fPutE c = 0) : fPutA c = .tup [.lst 1 (bts (encF c)), .v (.int .i64 0)] := if_pos h
theorem segPE_at : ∀ {l : List (List Sp)} {i : Nat} (hi : i < l.length), segPE (l.take i) = 0 → ∀ {e : Int}, wPutE l[i] = e → e ≠ 0 → segPE l = e
  | [], i, hi, _, e, _, _ => by simp at hi
  | x :: l, 0, hi, _, e, he, h0 => by
    simp only [List.getElem_cons_zero] at he
    simp only [segPE]; rw [if_neg (by rw [he]; exact h0), he]
  | x :: l, i + 1, hi, h, e, he, h0 => by
    rw [List.take_succ_cons] at h
    simp only [segPE] at h ⊢
    split at h
    · rename_i hx
      rw [if_pos hx]; exact segPE_at (by simpa using hi) h (by simpa using he) h0
    · rename_i hx; exact absurd h hx
theorem segPE_next : ∀ {l : List (List Sp)} {i : Nat} (hi : i < l.length), segPE (l.take i) = 0 → wPutE l[i] = 0 → segPE (l.take (i + 1)) = 0
  | [], i, hi, _, _ => by simp at hi
  | x :: l, 0, hi, _, he => by
    simp only [List.getElem_cons_zero] at he
    simp only [List.take_succ_cons, List.take_zero, segPE]; rw [if_pos he]
  | x :: l, i + 1, hi, h, he => by
    rw [List.take_succ_cons] at h ⊢
    simp only [segPE] at h ⊢
    split at h
    · rename_i hx
      rw [if_pos hx]; exact segPE_next (by simpa using hi) h (by simpa using he)
    · rename_i hx; exact absurd h hx
theorem segPE_all : ∀ {l : List (List Sp)}, segPE l = 0 → ∀ x ∈ l, wPutE x = 0
  | [], _, x, hx => by simp at hx
  | y :: l, h, x, hx => by
    simp only [segPE] at h
    split at h
    · rename_i hy
      rcases List.mem_cons.1 hx with rfl | hx
      · exact hy
      · exact segPE_all h x hx
    · rename_i hy; exact absurd h hy
theorem segPE_of : ∀ {l : List (List Sp)}, (∀ x ∈ l, wPutE x = 0) → segPE l = 0
  | [], _ => rfl
  | y :: l, h => by simp only [segPE]; rw [if_pos (h y (by simp))]; exact segPE_of fun x hx => h x (by simp [hx])
def totW (l : List (List Sp)) : Nat := (l.map fun x => tbs x + 4 * x.length + 4).sum
theorem totW_cons (x : List Sp) (l : List (List Sp)) : totW (x :: l) = tbs x + 4 * x.length + 4 + totW l := by simp [totW]
theorem totW_mem : ∀ {l : List (List Sp)} {x : List Sp}, x ∈ l → tbs x + 4 * x.length + 4 ≤ totW l
  | [], x, h => by simp at h
  | y :: l, x, h => by
    rw [totW_cons]
    rcases List.mem_cons.1 h with rfl | h
    · omega
    · have := totW_mem h; omega
theorem totW_take (l : List (List Sp)) (i : Nat) : totW (l.take i) ≤ totW l := by
  have : totW l = totW (l.take i) + totW (l.drop i) := by
    conv => lhs; rw [← List.take_append_drop i l]
    unfold totW; rw [List.map_append, List.sum_append]
  omega
theorem encW_le {x : List Sp} (h : wPutE x = 0) : (encW x).length ≤ tbs x + 4 * x.length + 4 := by
  obtain ⟨_, _, h3, h4⟩ := wPutE_ok h
  have h1 := flat_len x h4
  have h2 := (putN_len (n := x.length) (by omega)).2
  unfold encW; rw [List.length_append]; omega
theorem flatW_le : ∀ {l : List (List Sp)}, segPE l = 0 → (l.flatMap encW).length ≤ totW l
  | [], _ => by simp [totW]
  | x :: l, h => by
    have hx := segPE_all h x (by simp)
    have hl : segPE l = 0 := by simp only [segPE] at h; rwa [if_pos hx] at h
    have h1 := encW_le hx
    have h2 := flatW_le hl
    rw [List.flatMap_cons, List.length_append, totW_cons]; omega
def encFT (c : Lg) (i : Nat) : List UInt8 := encT c.base ++ encR c.revs ++ (c.segs.take i).flatMap encW
theorem encFT_succ {c : Lg} {i : Nat} (hi : i < c.segs.length) : encFT c (i + 1) = encFT c i ++ encW c.segs[i] := by
  unfold encFT; rw [List.take_succ_eq_append_getElem hi, List.flatMap_append]; simp
theorem encFT_all {c : Lg} {i : Nat} (hi : c.segs.length ≤ i) : encFT c i = encF c := by
  unfold encFT encF; rw [List.take_of_length_le hi]
theorem encT_len {t : ByteArray} (h : sPutE t = 0) : (encT t).length ≤ 65540 := by
  unfold sPutE at h
  split at h
  · split at h
    · cases h
    · have h2 := (putN_len (n := t.size) (by omega)).2
      have hdl : t.data.toList.length = t.size := by rw [Array.length_toList]; rfl
      unfold encT; rw [List.length_append, hdl]
      omega
  · cases h
theorem encR_len' {l : List Int} (h : rises l = true) : (encR l).length ≤ 300000 := by
  have h0 := h
  unfold rises at h
  simp only [Bool.and_eq_true, decide_eq_true_eq] at h
  rw [← rowTo_all (l := l) (i := l.length) (Nat.le_refl _)]
  exact rowTo_len h.1.2 (by rw [List.take_length]; exact h.2)
theorem encFT_len {c : Lg} {i : Nat} (h1 : sPutE c.base = 0) (h2 : rises c.revs = true) (h3 : segPE (c.segs.take i) = 0) : (encFT c i).length ≤ 400000 + totW c.segs := by
  have a1 := encT_len h1
  have a2 := encR_len' h2
  have a3 := flatW_le h3
  have a4 := totW_take c.segs i
  unfold encFT; rw [List.length_append, List.length_append]; omega
end Go.Proofs.YtadlnaljicikfaaDoor.Abs

namespace Go.Proofs.YtadlnaljicikfaaDoor.Abs
open Go
set_option maxRecDepth 100000
set_option linter.unusedSimpArgs false
set_option linter.unusedVariables false
attribute [local irreducible] Ev.Unr Ev.Go' Ev.bytK Ev.runK Ev.FinL Ev.brC Ev.Side Ev.Wp Ev.Again Ev.To Ev.Fin
open Go.Lib Go.RowKit
theorem comp40 : ∀ c, Tryd.f40.body = some c → comp c = (.seq (.reg 0 [I.n 0 1 (.box 27 (.tmp 0)), I.n 1 2 I.sn, I.n 2 3 (I.si 0)]) (.seq (.seq (.reg 1 [I.n 0 12 (I.ld 27 1), I.n 1 13 (I.c1 46 12 27), I.n 2 4 (I.sa 13)]) (.seq (.reg 2 [I.n 0 14 (I.mv 4), I.n 1 15 (I.bc .neq 30 14 0 30)]) (.cond (.tmp 15) (.seq (.reg 3 [I.n 0 16 (I.mv 4), I.n 1 2 I.sn, I.n 2 3 (I.sa 16)]) .ret) .skip))) (.seq (.reg 4 [I.n 0 18 (I.fa 27 1 0), I.n 1 19 (I.ld 9 18), I.n 2 20 (I.c1 47 19 9), I.n 3 17 (I.mv 20), I.n 4 21 (I.ex 17 0), I.n 5 22 (I.ex 17 1), I.n 6 5 (I.sa 21), I.n 7 6 (I.sa 22)]) (.seq (.seq (.reg 5 [I.n 0 23 (I.mv 6), I.n 1 24 (I.bc .neq 30 23 0 30)]) (.cond (.tmp 24) (.seq (.reg 6 [I.n 0 25 (I.mv 6), I.n 1 2 I.sn, I.n 2 3 (I.sa 25)]) .ret) .skip)) (.seq (.reg 7 [I.n 0 27 (I.fa 27 1 1), I.n 1 28 (I.ld 25 27), I.n 2 29 (I.c1 48 28 25), I.n 3 26 (I.mv 29), I.n 4 30 (I.ex 26 0), I.n 5 31 (I.ex 26 1), I.n 6 7 (I.sa 30), I.n 7 6 (I.sa 31)]) (.seq (.seq (.reg 8 [I.n 0 32 (I.mv 6), I.n 1 33 (I.bc .neq 30 32 0 30)]) (.cond (.tmp 33) (.seq (.reg 9 [I.n 0 34 (I.mv 6), I.n 1 2 I.sn, I.n 2 3 (I.sa 34)]) .ret) .skip)) (.seq (.reg 10 [I.n 0 35 (I.mv 5), I.n 1 36 (I.mv 7), I.n 2 37 (I.ap 35 36 56 56), I.n 3 5 (I.sa 37)]) (.seq (.seq (.reg 11 [I.n 0 38 (I.fa 27 1 2), I.n 1 39 (I.ld 22 38), I.n 2 40 (I.ln 39 22), I.n 3 41 (.move (.const (Value.int .i64 0)))]) (.block 0 (.loop (.seq (.reg 12 [I.n 0 42 (I.bo .lss 3 41 40 3)]) (.seq (.cond (.tmp 42) .skip (.exit 0)) (.seq (.block 1 (.seq (.reg 13 [I.n 0 43 (I.ia 22 39 41), I.n 1 44 (I.ld 23 43), I.n 2 9 (I.sa 44)]) (.seq (.reg 14 [I.n 0 46 (I.mv 9), I.n 1 47 (I.c1 49 46 23), I.n 2 45 (I.mv 47), I.n 3 48 (I.ex 45 0), I.n 4 49 (I.ex 45 1), I.n 5 10 (I.sa 48), I.n 6 11 (I.sa 49)]) (.seq (.seq (.reg 15 [I.n 0 50 (I.mv 11), I.n 1 51 (I.bc .neq 30 50 0 30)]) (.cond (.tmp 51) (.seq (.reg 16 [I.n 0 52 (I.mv 11), I.n 1 2 I.sn, I.n 2 3 (I.sa 52)]) .ret) .skip)) (.reg 17 [I.n 0 53 (I.mv 5), I.n 1 54 (I.mv 10), I.n 2 55 (I.ap 53 54 56 56), I.n 3 5 (I.sa 55)]))))) (.reg 18 [I.n 0 56 (I.bc .add 3 41 1 3), I.n 1 41 (I.mv 56)]))))))) (.seq (.seq (.reg 19 [I.n 0 57 (I.mv 5), I.n 1 58 (I.ln 57 56), I.n 2 59 (I.bc .gtr 3 58 65536 3)]) (.cond (.tmp 59) (.seq (.reg 20 [I.n 0 2 I.sn, I.n 1 3 (I.si 4)]) .ret) .skip)) (.seq (.reg 21 [I.n 0 60 (I.mv 5), I.n 1 61 (I.mv 5), I.n 2 62 (I.ln 61 56), I.n 3 63 (I.mv 5), I.n 4 64 (I.ln 63 56), I.n 5 65 (.slice 56 (.tmp 60) none (some (.tmp 62)) (some (.tmp 64))), I.n 6 2 (I.sa 65), I.n 7 3 (I.si 0)]) .ret)))))))))) := by
  intro c h
  have : c = Tryd.f40.body.get rfl := by rw [← Option.some_inj, ← h]; rfl
  rw [this]; rfl
theorem comp42 : ∀ c, Tryd.f42.body = some c → comp c = (.seq (.reg 0 [I.n 0 1 (.box 27 (.tmp 0)), I.n 1 2 I.sn, I.n 2 3 (I.si 0)]) (.seq (.reg 1 [I.n 0 12 (I.ld 27 1), I.n 1 13 (I.c1 85 12 27), I.n 2 4 (I.sa 13)]) (.seq (.seq (.reg 2 [I.n 0 14 (I.mv 4), I.n 1 15 (I.bc .neq 30 14 0 30)]) (.cond (.tmp 15) (.seq (.reg 3 [I.n 0 16 (I.mv 4), I.n 1 2 I.sn, I.n 2 3 (I.sa 16)]) .ret) .skip)) (.seq (.reg 4 [I.n 0 18 (I.fa 27 1 0), I.n 1 19 (I.ld 9 18), I.n 2 20 (I.c1 86 19 9), I.n 3 17 (I.mv 20), I.n 4 21 (I.ex 17 0), I.n 5 22 (I.ex 17 1), I.n 6 5 (I.sa 21), I.n 7 6 (I.sa 22)]) (.seq (.seq (.reg 5 [I.n 0 23 (I.mv 6), I.n 1 24 (I.bc .neq 30 23 0 30)]) (.cond (.tmp 24) (.seq (.reg 6 [I.n 0 25 (I.mv 6), I.n 1 2 I.sn, I.n 2 3 (I.sa 25)]) .ret) .skip)) (.seq (.reg 7 [I.n 0 27 (I.fa 27 1 1), I.n 1 28 (I.ld 25 27), I.n 2 29 (I.c1 87 28 25), I.n 3 26 (I.mv 29), I.n 4 30 (I.ex 26 0), I.n 5 31 (I.ex 26 1), I.n 6 7 (I.sa 30), I.n 7 8 (I.sa 31)]) (.seq (.seq (.reg 8 [I.n 0 32 (I.mv 8), I.n 1 33 (I.bc .neq 30 32 0 30)]) (.cond (.tmp 33) (.seq (.reg 9 [I.n 0 34 (I.mv 8), I.n 1 2 I.sn, I.n 2 3 (I.sa 34)]) .ret) .skip)) (.seq (.reg 10 [I.n 0 35 (I.mv 5), I.n 1 36 (I.mv 7), I.n 2 37 (I.ap 35 36 56 56), I.n 3 5 (I.sa 37)]) (.seq (.seq (.reg 11 [I.n 0 9 (I.si 0)]) (.block 0 (.loop (.seq (.seq (.reg 12 [I.n 0 38 (I.mv 9), I.n 1 39 (I.fa 27 1 2), I.n 2 40 (I.ld 22 39), I.n 3 41 (I.ln 40 22), I.n 4 42 (I.bo .lss 3 38 41 3)]) (.cond (.tmp 42) .skip (.exit 0))) (.seq (.block 1 (.seq (.reg 14 [I.n 0 46 (I.fa 27 1 2), I.n 1 47 (I.ld 22 46), I.n 2 48 (I.mv 9), I.n 3 49 (I.ia 22 47 48), I.n 4 50 (I.ld 23 49), I.n 5 51 (I.c1 88 50 23), I.n 6 45 (I.mv 51), I.n 7 52 (I.ex 45 0), I.n 8 53 (I.ex 45 1), I.n 9 10 (I.sa 52), I.n 10 11 (I.sa 53)]) (.seq (.seq (.reg 15 [I.n 0 54 (I.mv 11), I.n 1 55 (I.bc .neq 30 54 0 30)]) (.cond (.tmp 55) (.seq (.reg 16 [I.n 0 56 (I.mv 11), I.n 1 2 I.sn, I.n 2 3 (I.sa 56)]) .ret) .skip)) (.reg 17 [I.n 0 57 (I.mv 5), I.n 1 58 (I.mv 10), I.n 2 59 (I.ap 57 58 56 56), I.n 3 5 (I.sa 59)])))) (.reg 13 [I.n 0 43 (I.mv 9), I.n 1 44 (I.bc .add 3 43 1 3), I.n 2 9 (I.sa 44)])))))) (.seq (.seq (.reg 18 [I.n 0 60 (I.mv 5), I.n 1 61 (I.ln 60 56), I.n 2 62 (I.bc .gtr 3 61 65536 3)]) (.cond (.tmp 62) (.seq (.reg 19 [I.n 0 2 I.sn, I.n 1 3 (I.si 4)]) .ret) .skip)) (.seq (.reg 20 [I.n 0 63 (I.mv 5), I.n 1 2 (I.sa 63), I.n 2 3 (I.si 0)]) .ret))))))))))) := by
  intro c h
  have : c = Tryd.f42.body.get rfl := by rw [← Option.some_inj, ← h]; rfl
  rw [this]; rfl
theorem sput_own (t : ByteArray) (ht : t.size ≤ 1000000000) (he : sPutE t = 0) : CallW env 47 [.v (.string t)] (fun r hs => r = .tup [.own 0 0 0 (encT t).length, .v (.int .i64 0)] ∧ hs = [⟨1, 5, 0, 0, false, bts (encT t)⟩]) := by
  have hmx : 2000000003 ≤ maxLen := by decide
  have hV := pvalid_call t ht
  have h1 : validD t.data.toList = true := by
    refine Decidable.byContradiction fun h => ?_
    unfold sPutE at he; rw [if_neg h] at he; omega
  have h2 : ¬ 65536 < t.size := fun h => by
    unfold sPutE at he; rw [if_pos h1, if_pos h] at he; omega
  rw [h1] at hV
  have hln := (putN_len (n := t.size) (by omega)).2
  have hn : putN (t.size : Int).toNat = putN t.size := rfl
  have hdl : t.data.toList.length = t.size := by rw [Array.length_toList]; rfl
  refine Ev.fnO [0, 2, 3, 4, 5, 9] 0 [.tmp 2, .tmp 3] Tryd.func47 (comp47 _ rfl) ?_
  repeat' (first | ((with_reducible refine Ev.br0 ?_); (first | refine Ev.brp ?_ | refine Ev.brn ?_); conv => whnf) | ((with_reducible refine Ev.c0 ?_); first | refine Ev.cp ?_ | refine Ev.cn ?_) | ((refine Ev.sw ?_); conv => whnf) | refine Ev.sn ?_ | ((with_reducible refine Ev.chk_k ?_ ?_); rotate_left; exact Ev.bt; conv => whnf) | ((with_reducible (refine Ev.RI.run ?_; constructor)) <;> intro _) | ((refine Ev.sg ?_); conv => whnf) | ((with_reducible refine Ev.sided ?_ ?_); conv => whnf) | ((with_reducible refine Ev.kr (hs := [96]) (fun Q hQ => ?_)); (simp only [Ev.runE_cons, Ev.runE_nil]); conv => whnf) | (with_reducible refine hQ _ ?_; clear hQ Q) | ((refine Ev.sf ?_); intro F hF; conv => whnf) | (with_reducible refine hF _ ?_; clear hF F) | ((with_reducible refine Ev.go_k (fun c' => ?_)); conv => whnf) | ((with_reducible refine Ev.ca0 ?_); (first | refine Ev.call_det (nput_ok (show 0 ≤ (t.size : Int) ∧ (t.size : Int) ≤ 268435455 by omega)) rfl rfl ?_ | refine Ev.ca (hV) ?_ | refine Ev.ca (nput_ok (show 0 ≤ (t.size : Int) ∧ (t.size : Int) ≤ 268435455 by omega)) ?_); conv => whnf) | ((with_reducible refine Ev.il0 96 ?_); refine Ev.il 96 [0, 1, 4] [] Tryd.func96 (comp96 _ rfl) (fun ct' => ?_)) | ((first | refine Ev.el_map0 ?_ (fun hi => ?_) | refine Ev.el_mapN ?_ (fun hi => ?_)); rotate_left; conv => whnf) | ((with_reducible refine Ev.sd0 ?_); exact Ev.sd) | fail)
  · omega
  · refine Ev.finL [(202441264, c')] (by simp) (fun F hF => ?_)
    simp only [Ev.FinP.resK, get_cons, get_nil, Nat.reduceEqDiff, if_false, if_true, handed, rens, ren, idx, and_self, Option.map_some, resOf, Nat.reduceMul, Nat.zero_add, Nat.reduceAdd]
    refine hF _ ?_
    rw [hn, ← bts_app, bts_len, bts_len, ← List.length_append]
    exact ⟨rfl, rfl⟩
theorem rsput_own (t : ByteArray) (ht : t.size ≤ 1000000000) (he : sPutE t = 0) : CallW env 86 [.v (.string t)] (fun r hs => r = .tup [.own 0 0 0 (encT t).length, .v (.int .i64 0)] ∧ hs = [⟨1, 5, 0, 0, false, bts (encT t)⟩]) := by
  have hmx : 2000000003 ≤ maxLen := by decide
  have hV := rvalid_call t ht
  have h1 : validD t.data.toList = true := by
    refine Decidable.byContradiction fun h => ?_
    unfold sPutE at he; rw [if_neg h] at he; omega
  have h2 : ¬ 65536 < t.size := fun h => by
    unfold sPutE at he; rw [if_pos h1, if_pos h] at he; omega
  rw [h1] at hV
  have hln := (putN_len (n := t.size) (by omega)).2
  have hn : putN (t.size : Int).toNat = putN t.size := rfl
  have hdl : t.data.toList.length = t.size := by rw [Array.length_toList]; rfl
  have hp := rput_ok (n := (t.size : Int)) (by omega)
  refine Ev.fnO [0, 2, 3, 4, 8, 11] 0 [.tmp 2, .tmp 3] Tryd.func86 (comp86 _ rfl) ?_
  repeat' (first | ((with_reducible refine Ev.br0 ?_); (first | refine Ev.brp ?_ | refine Ev.brn ?_); conv => whnf) | ((with_reducible refine Ev.c0 ?_); first | refine Ev.cp ?_ | refine Ev.cn ?_) | ((refine Ev.sw ?_); conv => whnf) | refine Ev.sn ?_ | ((with_reducible refine Ev.chk_k ?_ ?_); rotate_left; exact Ev.bt; conv => whnf) | ((with_reducible (refine Ev.RI.run ?_; constructor)) <;> intro _) | ((refine Ev.sg ?_); conv => whnf) | ((with_reducible refine Ev.sided ?_ ?_); conv => whnf) | ((with_reducible refine Ev.kr (hs := []) (fun Q hQ => ?_)); (simp only [Ev.runE_cons, Ev.runE_nil]); conv => whnf) | (with_reducible refine hQ _ ?_; clear hQ Q) | ((refine Ev.sf ?_); intro F hF; conv => whnf) | (with_reducible refine hF _ ?_; clear hF F) | ((with_reducible refine Ev.go_k (fun c' => ?_)); conv => whnf) | ((with_reducible refine Ev.ca0 ?_); (first | refine Ev.ca (hV) ?_); conv => whnf) | ((refine Ev.call_own hp rfl (by simp) ⟨rfl, trivial⟩ ?_); conv => whnf) | ((first | refine Ev.el_map0 ?_ (fun hi => ?_) | refine Ev.el_mapN ?_ (fun hi => ?_)); rotate_left; conv => whnf) | ((with_reducible refine Ev.sd0 ?_); exact Ev.sd) | fail)
  · omega
  · refine Ev.finL [(2576, 1)] (by simp) (fun F hF => ?_)
    simp only [Ev.FinP.resK, get_cons, get_nil, Nat.reduceEqDiff, if_false, if_true, handed, rens, ren, idx, and_self, Option.map_some, resOf, Nat.reduceMul, Nat.zero_add, Nat.reduceAdd]
    refine hF _ ?_
    rw [hn, if_neg (by decide), ← bts_app, bts_len, ← List.length_append]
    exact ⟨rfl, rfl⟩
set_option maxHeartbeats 4000000 in
theorem fput_call (c : Lg) (hc : LgS c) (hb : totW c.segs ≤ 900000000) : CallW env 40 [lgA c] (fun r hs => r = fPutA c ∧ hs = []) := by
  have hM := cmay_call c hc
  have hmx : 2000000003 ≤ maxLen := by decide
  by_cases h0 : chE c = 0
  · rw [h0] at hM
    obtain ⟨h1, h2, h3, h4, h5⟩ := chE_zero h0
    have hR := prow_call c.revs hc.2.1
    rw [rPutA_ok h3] at hR
    by_cases hs : sPutE c.base = 0
    · have hS := sput_own c.base hc.1 hs
      have hrl := rowsA_len c.segs
      have hlt := encT_len hs
      have hlr := encR_len' h3
      refine Ev.fn [0, 1, 2, 3, 4, 5, 6, 7, 9, 10, 11, 15, 24, 33, 39, 40, 41, 42, 51, 59] 0 [.tmp 2, .tmp 3] Tryd.func40 (comp40 _ rfl) ?_
      repeat' (first | ((with_reducible refine Ev.br0 ?_); (first | refine Ev.brp ?_ | refine Ev.brn ?_); conv => whnf) | ((with_reducible refine Ev.c0 ?_); first | refine Ev.cp ?_ | refine Ev.cn ?_) | ((refine Ev.sw ?_); conv => whnf) | refine Ev.sn ?_ | ((with_reducible refine Ev.chk_k ?_ ?_); rotate_left; exact Ev.bt; conv => whnf) | ((with_reducible (refine Ev.RI.run ?_; constructor)) <;> intro _) | ((refine Ev.sg ?_); conv => whnf) | ((with_reducible refine Ev.sided ?_ ?_); conv => whnf) | ((with_reducible refine Ev.kr (hs := []) (fun Q hQ => ?_)); (simp only [Ev.runE_cons, Ev.runE_nil]); conv => whnf) | (with_reducible refine hQ _ ?_; clear hQ Q) | ((refine Ev.sf ?_); intro F hF; conv => whnf) | (with_reducible refine hF _ ?_; clear hF F) | ((with_reducible refine Ev.go_k (fun c' => ?_)); conv => whnf) | ((with_reducible refine Ev.ca0 ?_); (first | refine Ev.ca (hM) ?_ | refine Ev.ca (hR) ?_); conv => whnf) | ((refine Ev.call_own hS rfl (by simp) ⟨rfl, trivial⟩ ?_); conv => whnf) | ((first | refine Ev.el_map0 ?_ (fun hi => ?_) | refine Ev.el_mapN ?_ (fun hi => ?_)); rotate_left; conv => whnf) | ((with_reducible refine Ev.sd0 ?_); exact Ev.sd) | fail)
      refine Ev.loop (fun k s => ∃ i ct v : Nat, s = ⟨[(0, lgA c), (2, nilA), (3, .v (.int .i64 0)), (5, .own 2064 v 0 (encFT c i).length), (39, .lst 1 (rowsA c.segs)), (40, .v (.int .i64 (rowsA c.segs).length)), (41, .v (.int .i64 i))], [(2064, ⟨1, 5, v, 0, false, bts (encFT c i)⟩)], ct⟩ ∧ k + i = c.segs.length ∧ segPE (c.segs.take i) = 0) ?_ ?_
      · have ez : List.take (encT c.base).length (List.drop 0 (bts (encT c.base))) = bts (encT c.base) := by rw [List.drop_zero, List.take_of_length_le (by rw [bts_len]; exact Nat.le_refl _)]
        have e1 : (encT c.base).length + (bts (encR c.revs)).length = (encFT c 0).length := by unfold encFT; simp
        have e2 : bts (encT c.base) ++ bts (encR c.revs) = bts (encFT c 0) := by unfold encFT; rw [← bts_app]; simp
        (refine Ev.to _ ?hs1 ?hh1 ?hc1 ⟨c.segs.length, 0, ?_, ?_, rfl, ?hp1⟩; (case hs1 | hh1 => ((repeat' (first | exact trivial | refine And.intro ?_ ?_)) <;> (first | exact Ev.se | (refine Ev.slot_eq rfl ?_; first | (first | exact e1 | exact congrArg (fun n => Blk.mk 1 5 _ 0 false n) e2 | rfl) | ((first | refine Ev.int_eq ?_ | refine Ev.own_eq ?_ | refine Ev.blk_eq ?_); (first | exact e1 | exact congrArg (fun n => Blk.mk 1 5 _ 0 false n) e2 | rfl))) | exact Ev.sr))); (case hc1 => exact Nat.le_refl _))
        exact ⟨by omega, rfl⟩
      rintro k s1 ⟨i, ct, v, rfl, hk, hsp⟩
      have hle := encFT_len (c := c) (i := i) hs h3 hsp
      have hcl := hc.2.2.1
      by_cases hi : i < c.segs.length
      · have hi2 : (i : Int) < ((rowsA c.segs).length : Int) := by omega
        have hsm := hc.2.2.2 _ (List.getElem_mem hi)
        have htw := totW_mem (List.getElem_mem hi)
        have hW := wput_call c.segs[i] hsm.2 (by omega)
        by_cases hp : wPutE c.segs[i] = 0
        · rw [wPutA_ok hp] at hW
          have hwl := encW_le hp
          repeat' (first | ((with_reducible refine Ev.br0 ?_); (first | refine Ev.brp ?_ | refine Ev.brn ?_); conv => whnf) | ((with_reducible refine Ev.c0 ?_); first | refine Ev.cp ?_ | refine Ev.cn ?_) | (((with_reducible refine Ev.br_pos hi2 ?_); conv => whnf)) | (with_reducible refine Ev.c_pos hi2 ?_) | ((refine Ev.sw ?_); conv => whnf) | refine Ev.sn ?_ | ((with_reducible refine Ev.chk_k ?_ ?_); rotate_left; exact Ev.bt; conv => whnf) | ((with_reducible (refine Ev.RI.run ?_; constructor)) <;> intro _) | ((refine Ev.sg ?_); conv => whnf) | ((with_reducible refine Ev.sided ?_ ?_); conv => whnf) | ((with_reducible refine Ev.kr (hs := []) (fun Q hQ => ?_)); (simp only [Ev.runE_cons, Ev.runE_nil]); conv => whnf) | (with_reducible refine hQ _ ?_; clear hQ Q) | ((refine Ev.sf ?_); intro F hF; conv => whnf) | (with_reducible refine hF _ ?_; clear hF F) | ((with_reducible refine Ev.go_k (fun c' => ?_)); conv => whnf) | ((with_reducible refine Ev.ca0 ?_); (first | refine Ev.ca (hW) ?_); conv => whnf) | ((first | refine Ev.el_map0 ?_ (fun hi => ?_) | refine Ev.el_mapN ?_ (fun hi => ?_)); rotate_left; conv => whnf) | ((with_reducible refine Ev.sd0 ?_); exact Ev.sd) | fail)
          have e1 : (encFT c i).length + (bts (encW c.segs[i])).length = (encFT c (i + 1)).length := by rw [encFT_succ hi, bts_len, List.length_append]
          have e2 : bts (encFT c i) ++ bts (encW c.segs[i]) = bts (encFT c (i + 1)) := by rw [encFT_succ hi, bts_app]
          (refine Ev.again (k - 1) _ ?hm2 ?hs2 ?hh2 ?hc2 ⟨i + 1, ?_, ?_, rfl, ?hp2⟩; (case hs2 | hh2 => ((repeat' (first | exact trivial | refine And.intro ?_ ?_)) <;> (first | exact Ev.se | (refine Ev.slot_eq rfl ?_; first | (first | exact e1 | exact congrArg (fun n => Blk.mk 1 5 _ 0 false n) e2 | exact wrap_succ (by omega) | rfl) | ((first | refine Ev.int_eq ?_ | refine Ev.own_eq ?_ | refine Ev.blk_eq ?_); (first | exact e1 | exact congrArg (fun n => Blk.mk 1 5 _ 0 false n) e2 | exact wrap_succ (by omega) | rfl))) | exact Ev.sr))); (case hc2 => exact Nat.le_refl _); (case hm2 => omega))
          exact ⟨by omega, segPE_next hi hsp hp⟩
        · rw [wPutA_bad rfl hp] at hW
          repeat' (first | ((with_reducible refine Ev.br0 ?_); (first | refine Ev.brp ?_ | refine Ev.brn ?_); conv => whnf) | ((with_reducible refine Ev.c0 ?_); first | refine Ev.cp ?_ | refine Ev.cn ?_) | (((with_reducible refine Ev.br_pos hi2 ?_); conv => whnf)) | (with_reducible refine Ev.c_pos hi2 ?_) | ((refine Ev.sw ?_); conv => whnf) | refine Ev.sn ?_ | ((with_reducible refine Ev.chk_k ?_ ?_); rotate_left; exact Ev.bt; conv => whnf) | ((with_reducible (refine Ev.RI.run ?_; constructor)) <;> intro _) | ((refine Ev.sg ?_); conv => whnf) | ((with_reducible refine Ev.sided ?_ ?_); conv => whnf) | ((with_reducible refine Ev.kr (hs := []) (fun Q hQ => ?_)); (simp only [Ev.runE_cons, Ev.runE_nil]); conv => whnf) | (with_reducible refine hQ _ ?_; clear hQ Q) | ((refine Ev.sf ?_); intro F hF; conv => whnf) | (with_reducible refine hF _ ?_; clear hF F) | ((with_reducible refine Ev.go_k (fun c' => ?_)); conv => whnf) | ((with_reducible refine Ev.ca0 ?_); (first | refine Ev.ca (hW) ?_); conv => whnf) | ((first | refine Ev.el_map0 ?_ (fun hi => ?_) | refine Ev.el_mapN ?_ (fun hi => ?_)); rotate_left; conv => whnf) | ((with_reducible refine Ev.sd0 ?_); exact Ev.sd) | fail)
          · exact absurd (by assumption) hp
          · have hsg := segPE_at hi hsp rfl hp
            exact ⟨(fPutA_bad (by unfold fPutE; rw [if_neg (by simp [h0]), if_neg (by simp [hs]), if_pos (by rw [hsg]; exact hp)]; exact hsg) hp).symm, rfl⟩
      · have hi2 : ¬ (i : Int) < ((rowsA c.segs).length : Int) := by omega
        repeat' (first | ((with_reducible refine Ev.br0 ?_); (first | refine Ev.brp ?_ | refine Ev.brn ?_); conv => whnf) | ((with_reducible refine Ev.c0 ?_); first | refine Ev.cp ?_ | refine Ev.cn ?_) | (refine Ev.freeze_at 21 5 rfl rfl ?_ ?_) | (((with_reducible refine Ev.br_neg hi2 ?_); conv => whnf)) | (with_reducible refine Ev.c_neg hi2 ?_) | ((refine Ev.sw ?_); conv => whnf) | refine Ev.sn ?_ | ((with_reducible refine Ev.chk_k ?_ ?_); rotate_left; exact Ev.bt; conv => whnf) | ((with_reducible (refine Ev.RI.run ?_; constructor)) <;> intro _) | ((refine Ev.sg ?_); conv => whnf) | ((with_reducible refine Ev.sided ?_ ?_); conv => whnf) | ((with_reducible refine Ev.kr (hs := []) (fun Q hQ => ?_)); (simp only [Ev.runE_cons, Ev.runE_nil]); conv => whnf) | (with_reducible refine hQ _ ?_; clear hQ Q) | ((refine Ev.sf ?_); intro F hF; conv => whnf) | (with_reducible refine hF _ ?_; clear hF F) | ((with_reducible refine Ev.go_k (fun c' => ?_)); conv => whnf) | ((first | refine Ev.el_map0 ?_ (fun hi => ?_) | refine Ev.el_mapN ?_ (fun hi => ?_)); rotate_left; conv => whnf) | ((with_reducible refine Ev.sd0 ?_); exact Ev.sd) | fail)
        · rename_i hx
          have hall := encFT_all (c := c) (i := i) (by omega)
          rw [List.take_of_length_le (by omega)] at hsp
          rw [hall] at hx
          exact ⟨(fPutA_bad (by unfold fPutE; rw [if_neg (by simp [h0]), if_neg (by simp [hs]), if_neg (by simp [hsp]), if_pos (by omega)]) (by decide)).symm, rfl⟩
        · rename_i hx
          have hall := encFT_all (c := c) (i := i) (by omega)
          rw [List.take_of_length_le (by omega)] at hsp
          rw [hall] at hx ⊢
          refine ⟨?_, rfl⟩
          rw [fPutA_ok (by unfold fPutE; rw [if_neg (by simp [h0]), if_neg (by simp [hs]), if_neg (by simp [hsp]), if_neg (by omega)])]
          refine Ev.tup2_eq (Ev.lst_eq ?_) rfl
          have ez : List.take (encF c).length (List.drop 0 (bts (encF c))) = bts (encF c) := by rw [List.drop_zero, List.take_of_length_le (by rw [bts_len]; exact Nat.le_refl _)]
          rw [ez, List.drop_zero, List.take_of_length_le (by simp)]
    · have hS := sput_call c.base hc.1
      rw [sPutA_bad rfl hs] at hS
      refine Ev.fn [0, 1, 2, 3, 4, 5, 6, 7, 9, 10, 11, 15, 24, 33, 39, 40, 41, 42, 51, 59] 0 [.tmp 2, .tmp 3] Tryd.func40 (comp40 _ rfl) ?_
      repeat' (first | ((with_reducible refine Ev.br0 ?_); (first | refine Ev.brp ?_ | refine Ev.brn ?_); conv => whnf) | ((with_reducible refine Ev.c0 ?_); first | refine Ev.cp ?_ | refine Ev.cn ?_) | ((refine Ev.sw ?_); conv => whnf) | refine Ev.sn ?_ | ((with_reducible refine Ev.chk_k ?_ ?_); rotate_left; exact Ev.bt; conv => whnf) | ((with_reducible (refine Ev.RI.run ?_; constructor)) <;> intro _) | ((refine Ev.sg ?_); conv => whnf) | ((with_reducible refine Ev.sided ?_ ?_); conv => whnf) | ((with_reducible refine Ev.kr (hs := []) (fun Q hQ => ?_)); (simp only [Ev.runE_cons, Ev.runE_nil]); conv => whnf) | (with_reducible refine hQ _ ?_; clear hQ Q) | ((refine Ev.sf ?_); intro F hF; conv => whnf) | (with_reducible refine hF _ ?_; clear hF F) | ((with_reducible refine Ev.go_k (fun c' => ?_)); conv => whnf) | ((with_reducible refine Ev.ca0 ?_); (first | refine Ev.ca (hM) ?_ | refine Ev.ca (hS) ?_); conv => whnf) | ((first | refine Ev.el_map0 ?_ (fun hi => ?_) | refine Ev.el_mapN ?_ (fun hi => ?_)); rotate_left; conv => whnf) | ((with_reducible refine Ev.sd0 ?_); exact Ev.sd) | fail)
      · exact absurd (by assumption) hs
      · exact ⟨(fPutA_bad (by unfold fPutE; rw [if_neg (by simp [h0]), if_pos hs]) hs).symm, rfl⟩
  · have : fPutE c = chE c := by unfold fPutE; rw [if_pos h0]
    refine Ev.fn [0, 1, 2, 3, 4, 5, 6, 7, 9, 10, 11, 15, 24, 33, 39, 40, 41, 42, 51, 59] 0 [.tmp 2, .tmp 3] Tryd.func40 (comp40 _ rfl) ?_
    repeat' (first | ((with_reducible refine Ev.br0 ?_); (first | refine Ev.brp ?_ | refine Ev.brn ?_); conv => whnf) | ((with_reducible refine Ev.c0 ?_); first | refine Ev.cp ?_ | refine Ev.cn ?_) | ((refine Ev.sw ?_); conv => whnf) | refine Ev.sn ?_ | ((with_reducible refine Ev.chk_k ?_ ?_); rotate_left; exact Ev.bt; conv => whnf) | ((with_reducible (refine Ev.RI.run ?_; constructor)) <;> intro _) | ((refine Ev.sg ?_); conv => whnf) | ((with_reducible refine Ev.sided ?_ ?_); conv => whnf) | ((with_reducible refine Ev.kr (hs := []) (fun Q hQ => ?_)); (simp only [Ev.runE_cons, Ev.runE_nil]); conv => whnf) | (with_reducible refine hQ _ ?_; clear hQ Q) | ((refine Ev.sf ?_); intro F hF; conv => whnf) | (with_reducible refine hF _ ?_; clear hF F) | ((with_reducible refine Ev.go_k (fun c' => ?_)); conv => whnf) | ((with_reducible refine Ev.ca0 ?_); (first | refine Ev.ca (hM) ?_); conv => whnf) | ((first | refine Ev.el_map0 ?_ (fun hi => ?_) | refine Ev.el_mapN ?_ (fun hi => ?_)); rotate_left; conv => whnf) | ((with_reducible refine Ev.sd0 ?_); exact Ev.sd) | fail)
    · exact absurd (by assumption) h0
    · exact ⟨(fPutA_bad this h0).symm, rfl⟩
set_option maxHeartbeats 4000000 in
theorem rfput_call (c : Lg) (hc : LgS c) (hb : totW c.segs ≤ 900000000) : CallW env 42 [lgA c] (fun r hs => r = fPutA c ∧ hs = []) := by
  have hM := r16may_call c hc
  have hmx : 2000000003 ≤ maxLen := by decide
  by_cases h0 : chE c = 0
  · rw [h0] at hM
    obtain ⟨h1, h2, h3, h4, h5⟩ := chE_zero h0
    have hR := rprow_call c.revs hc.2.1
    rw [rPutA_ok h3] at hR
    by_cases hs : sPutE c.base = 0
    · have hS := rsput_own c.base hc.1 hs
      have hrl := rowsA_len c.segs
      have hlt := encT_len hs
      have hlr := encR_len' h3
      refine Ev.fn [0, 1, 2, 3, 4, 5, 6, 7, 8, 9, 10, 11, 15, 24, 33, 42, 55, 62] 0 [.tmp 2, .tmp 3] Tryd.func42 (comp42 _ rfl) ?_
      repeat' (first | ((with_reducible refine Ev.br0 ?_); (first | refine Ev.brp ?_ | refine Ev.brn ?_); conv => whnf) | ((with_reducible refine Ev.c0 ?_); first | refine Ev.cp ?_ | refine Ev.cn ?_) | ((refine Ev.sw ?_); conv => whnf) | refine Ev.sn ?_ | ((with_reducible refine Ev.chk_k ?_ ?_); rotate_left; exact Ev.bt; conv => whnf) | ((with_reducible (refine Ev.RI.run ?_; constructor)) <;> intro _) | ((refine Ev.sg ?_); conv => whnf) | ((with_reducible refine Ev.sided ?_ ?_); conv => whnf) | ((with_reducible refine Ev.kr (hs := []) (fun Q hQ => ?_)); (simp only [Ev.runE_cons, Ev.runE_nil]); conv => whnf) | (with_reducible refine hQ _ ?_; clear hQ Q) | ((refine Ev.sf ?_); intro F hF; conv => whnf) | (with_reducible refine hF _ ?_; clear hF F) | ((with_reducible refine Ev.go_k (fun c' => ?_)); conv => whnf) | ((with_reducible refine Ev.ca0 ?_); (first | refine Ev.ca (hM) ?_ | refine Ev.ca (hR) ?_); conv => whnf) | ((refine Ev.call_own hS rfl (by simp) ⟨rfl, trivial⟩ ?_); conv => whnf) | ((first | refine Ev.el_map0 ?_ (fun hi => ?_) | refine Ev.el_mapN ?_ (fun hi => ?_)); rotate_left; conv => whnf) | ((with_reducible refine Ev.sd0 ?_); exact Ev.sd) | fail)
      refine Ev.loop (fun k s => ∃ i ct v : Nat, s = ⟨[(0, lgA c), (1, .ptr 0 0 0 0), (2, nilA), (3, .v (.int .i64 0)), (5, .own 2064 v 0 (encFT c i).length), (9, .v (.int .i64 i))], [(0, ⟨3, 27, 0, 0, true, [[.v (.string c.base), .lst 1 (ints c.revs), .lst 1 (rowsA c.segs)]]⟩), (2064, ⟨1, 5, v, 0, false, bts (encFT c i)⟩)], ct⟩ ∧ k + i = c.segs.length ∧ segPE (c.segs.take i) = 0) ?_ ?_
      · have ez : List.take (encT c.base).length (List.drop 0 (bts (encT c.base))) = bts (encT c.base) := by rw [List.drop_zero, List.take_of_length_le (by rw [bts_len]; exact Nat.le_refl _)]
        have e1 : (encT c.base).length + (bts (encR c.revs)).length = (encFT c 0).length := by unfold encFT; simp
        have e2 : bts (encT c.base) ++ bts (encR c.revs) = bts (encFT c 0) := by unfold encFT; rw [← bts_app]; simp
        (refine Ev.to _ ?hs3 ?hh3 ?hc3 ⟨c.segs.length, 0, ?_, ?_, rfl, ?hp3⟩; (case hs3 | hh3 => ((repeat' (first | exact trivial | refine And.intro ?_ ?_)) <;> (first | exact Ev.se | (refine Ev.slot_eq rfl ?_; first | (first | exact e1 | exact congrArg (fun n => Blk.mk 1 5 _ 0 false n) e2 | rfl) | ((first | refine Ev.int_eq ?_ | refine Ev.own_eq ?_ | refine Ev.blk_eq ?_); (first | exact e1 | exact congrArg (fun n => Blk.mk 1 5 _ 0 false n) e2 | rfl))) | exact Ev.sr))); (case hc3 => exact Nat.le_refl _))
        exact ⟨by omega, rfl⟩
      rintro k s1 ⟨i, ct, v, rfl, hk, hsp⟩
      have hle := encFT_len (c := c) (i := i) hs h3 hsp
      have hcl := hc.2.2.1
      by_cases hi : i < c.segs.length
      · have hi2 : (i : Int) < ((rowsA c.segs).length : Int) := by omega
        have hsm := hc.2.2.2 _ (List.getElem_mem hi)
        have htw := totW_mem (List.getElem_mem hi)
        have hW := rwput_call c.segs[i] hsm.2 (by omega)
        by_cases hp : wPutE c.segs[i] = 0
        · rw [wPutA_ok hp] at hW
          have hwl := encW_le hp
          repeat' (first | ((with_reducible refine Ev.br0 ?_); (first | refine Ev.brp ?_ | refine Ev.brn ?_); conv => whnf) | ((with_reducible refine Ev.c0 ?_); first | refine Ev.cp ?_ | refine Ev.cn ?_) | (((with_reducible refine Ev.br_pos hi2 ?_); conv => whnf)) | (with_reducible refine Ev.c_pos hi2 ?_) | ((refine Ev.sw ?_); conv => whnf) | refine Ev.sn ?_ | ((with_reducible refine Ev.chk_k ?_ ?_); rotate_left; exact Ev.bt; conv => whnf) | ((with_reducible (refine Ev.RI.run ?_; constructor)) <;> intro _) | ((refine Ev.sg ?_); conv => whnf) | ((with_reducible refine Ev.sided ?_ ?_); conv => whnf) | ((with_reducible refine Ev.kr (hs := []) (fun Q hQ => ?_)); (simp only [Ev.runE_cons, Ev.runE_nil]); conv => whnf) | (with_reducible refine hQ _ ?_; clear hQ Q) | ((refine Ev.sf ?_); intro F hF; conv => whnf) | (with_reducible refine hF _ ?_; clear hF F) | ((with_reducible refine Ev.go_k (fun c' => ?_)); conv => whnf) | ((with_reducible refine Ev.ca0 ?_); (first | refine Ev.ca (hW) ?_); conv => whnf) | ((first | refine Ev.el_map0 ?_ (fun hi => ?_) | refine Ev.el_mapN ?_ (fun hi => ?_)); rotate_left; conv => whnf) | ((with_reducible refine Ev.sd0 ?_); exact Ev.sd) | fail)
          have e1 : (encFT c i).length + (bts (encW c.segs[i])).length = (encFT c (i + 1)).length := by rw [encFT_succ hi, bts_len, List.length_append]
          have e2 : bts (encFT c i) ++ bts (encW c.segs[i]) = bts (encFT c (i + 1)) := by rw [encFT_succ hi, bts_app]
          (refine Ev.again (k - 1) _ ?hm4 ?hs4 ?hh4 ?hc4 ⟨i + 1, ?_, ?_, rfl, ?hp4⟩; (case hs4 | hh4 => ((repeat' (first | exact trivial | refine And.intro ?_ ?_)) <;> (first | exact Ev.se | (refine Ev.slot_eq rfl ?_; first | (first | exact e1 | exact congrArg (fun n => Blk.mk 1 5 _ 0 false n) e2 | exact wrap_succ (by omega) | rfl) | ((first | refine Ev.int_eq ?_ | refine Ev.own_eq ?_ | refine Ev.blk_eq ?_); (first | exact e1 | exact congrArg (fun n => Blk.mk 1 5 _ 0 false n) e2 | exact wrap_succ (by omega) | rfl))) | exact Ev.sr))); (case hc4 => exact Nat.le_refl _); (case hm4 => omega))
          exact ⟨by omega, segPE_next hi hsp hp⟩
        · rw [wPutA_bad rfl hp] at hW
          repeat' (first | ((with_reducible refine Ev.br0 ?_); (first | refine Ev.brp ?_ | refine Ev.brn ?_); conv => whnf) | ((with_reducible refine Ev.c0 ?_); first | refine Ev.cp ?_ | refine Ev.cn ?_) | (((with_reducible refine Ev.br_pos hi2 ?_); conv => whnf)) | (with_reducible refine Ev.c_pos hi2 ?_) | ((refine Ev.sw ?_); conv => whnf) | refine Ev.sn ?_ | ((with_reducible refine Ev.chk_k ?_ ?_); rotate_left; exact Ev.bt; conv => whnf) | ((with_reducible (refine Ev.RI.run ?_; constructor)) <;> intro _) | ((refine Ev.sg ?_); conv => whnf) | ((with_reducible refine Ev.sided ?_ ?_); conv => whnf) | ((with_reducible refine Ev.kr (hs := []) (fun Q hQ => ?_)); (simp only [Ev.runE_cons, Ev.runE_nil]); conv => whnf) | (with_reducible refine hQ _ ?_; clear hQ Q) | ((refine Ev.sf ?_); intro F hF; conv => whnf) | (with_reducible refine hF _ ?_; clear hF F) | ((with_reducible refine Ev.go_k (fun c' => ?_)); conv => whnf) | ((with_reducible refine Ev.ca0 ?_); (first | refine Ev.ca (hW) ?_); conv => whnf) | ((first | refine Ev.el_map0 ?_ (fun hi => ?_) | refine Ev.el_mapN ?_ (fun hi => ?_)); rotate_left; conv => whnf) | ((with_reducible refine Ev.sd0 ?_); exact Ev.sd) | fail)
          · exact absurd (by assumption) hp
          · have hsg := segPE_at hi hsp rfl hp
            exact ⟨(fPutA_bad (by unfold fPutE; rw [if_neg (by simp [h0]), if_neg (by simp [hs]), if_pos (by rw [hsg]; exact hp)]; exact hsg) hp).symm, rfl⟩
      · have hi2 : ¬ (i : Int) < ((rowsA c.segs).length : Int) := by omega
        repeat' (first | ((with_reducible refine Ev.br0 ?_); (first | refine Ev.brp ?_ | refine Ev.brn ?_); conv => whnf) | ((with_reducible refine Ev.c0 ?_); first | refine Ev.cp ?_ | refine Ev.cn ?_) | (((with_reducible refine Ev.br_neg hi2 ?_); conv => whnf)) | (with_reducible refine Ev.c_neg hi2 ?_) | ((refine Ev.sw ?_); conv => whnf) | refine Ev.sn ?_ | ((with_reducible refine Ev.chk_k ?_ ?_); rotate_left; exact Ev.bt; conv => whnf) | ((with_reducible (refine Ev.RI.run ?_; constructor)) <;> intro _) | ((refine Ev.sg ?_); conv => whnf) | ((with_reducible refine Ev.sided ?_ ?_); conv => whnf) | ((with_reducible refine Ev.kr (hs := []) (fun Q hQ => ?_)); (simp only [Ev.runE_cons, Ev.runE_nil]); conv => whnf) | (with_reducible refine hQ _ ?_; clear hQ Q) | ((refine Ev.sf ?_); intro F hF; conv => whnf) | (with_reducible refine hF _ ?_; clear hF F) | ((with_reducible refine Ev.go_k (fun c' => ?_)); conv => whnf) | ((first | refine Ev.el_map0 ?_ (fun hi => ?_) | refine Ev.el_mapN ?_ (fun hi => ?_)); rotate_left; conv => whnf) | ((with_reducible refine Ev.sd0 ?_); exact Ev.sd) | fail)
        · rename_i hx
          have hall := encFT_all (c := c) (i := i) (by omega)
          rw [List.take_of_length_le (by omega)] at hsp
          rw [hall] at hx
          exact ⟨(fPutA_bad (by unfold fPutE; rw [if_neg (by simp [h0]), if_neg (by simp [hs]), if_neg (by simp [hsp]), if_pos (by omega)]) (by decide)).symm, rfl⟩
        · rename_i hx
          have hall := encFT_all (c := c) (i := i) (by omega)
          rw [List.take_of_length_le (by omega)] at hsp
          rw [hall] at hx ⊢
          refine ⟨?_, rfl⟩
          rw [fPutA_ok (by unfold fPutE; rw [if_neg (by simp [h0]), if_neg (by simp [hs]), if_neg (by simp [hsp]), if_neg (by omega)])]
          exact Ev.tup2_eq (Ev.lst_eq (Ev.take_all (by simp) rfl)) rfl
    · have hS := rsput_call c.base hc.1
      rw [sPutA_bad rfl hs] at hS
      refine Ev.fn [0, 1, 2, 3, 4, 5, 6, 7, 8, 9, 10, 11, 15, 24, 33, 42, 55, 62] 0 [.tmp 2, .tmp 3] Tryd.func42 (comp42 _ rfl) ?_
      repeat' (first | ((with_reducible refine Ev.br0 ?_); (first | refine Ev.brp ?_ | refine Ev.brn ?_); conv => whnf) | ((with_reducible refine Ev.c0 ?_); first | refine Ev.cp ?_ | refine Ev.cn ?_) | ((refine Ev.sw ?_); conv => whnf) | refine Ev.sn ?_ | ((with_reducible refine Ev.chk_k ?_ ?_); rotate_left; exact Ev.bt; conv => whnf) | ((with_reducible (refine Ev.RI.run ?_; constructor)) <;> intro _) | ((refine Ev.sg ?_); conv => whnf) | ((with_reducible refine Ev.sided ?_ ?_); conv => whnf) | ((with_reducible refine Ev.kr (hs := []) (fun Q hQ => ?_)); (simp only [Ev.runE_cons, Ev.runE_nil]); conv => whnf) | (with_reducible refine hQ _ ?_; clear hQ Q) | ((refine Ev.sf ?_); intro F hF; conv => whnf) | (with_reducible refine hF _ ?_; clear hF F) | ((with_reducible refine Ev.go_k (fun c' => ?_)); conv => whnf) | ((with_reducible refine Ev.ca0 ?_); (first | refine Ev.ca (hM) ?_ | refine Ev.ca (hS) ?_); conv => whnf) | ((first | refine Ev.el_map0 ?_ (fun hi => ?_) | refine Ev.el_mapN ?_ (fun hi => ?_)); rotate_left; conv => whnf) | ((with_reducible refine Ev.sd0 ?_); exact Ev.sd) | fail)
      · exact absurd (by assumption) hs
      · exact ⟨(fPutA_bad (by unfold fPutE; rw [if_neg (by simp [h0]), if_pos hs]) hs).symm, rfl⟩
  · have : fPutE c = chE c := by unfold fPutE; rw [if_pos h0]
    refine Ev.fn [0, 1, 2, 3, 4, 5, 6, 7, 8, 9, 10, 11, 15, 24, 33, 42, 55, 62] 0 [.tmp 2, .tmp 3] Tryd.func42 (comp42 _ rfl) ?_
    repeat' (first | ((with_reducible refine Ev.br0 ?_); (first | refine Ev.brp ?_ | refine Ev.brn ?_); conv => whnf) | ((with_reducible refine Ev.c0 ?_); first | refine Ev.cp ?_ | refine Ev.cn ?_) | ((refine Ev.sw ?_); conv => whnf) | refine Ev.sn ?_ | ((with_reducible refine Ev.chk_k ?_ ?_); rotate_left; exact Ev.bt; conv => whnf) | ((with_reducible (refine Ev.RI.run ?_; constructor)) <;> intro _) | ((refine Ev.sg ?_); conv => whnf) | ((with_reducible refine Ev.sided ?_ ?_); conv => whnf) | ((with_reducible refine Ev.kr (hs := []) (fun Q hQ => ?_)); (simp only [Ev.runE_cons, Ev.runE_nil]); conv => whnf) | (with_reducible refine hQ _ ?_; clear hQ Q) | ((refine Ev.sf ?_); intro F hF; conv => whnf) | (with_reducible refine hF _ ?_; clear hF F) | ((with_reducible refine Ev.go_k (fun c' => ?_)); conv => whnf) | ((with_reducible refine Ev.ca0 ?_); (first | refine Ev.ca (hM) ?_); conv => whnf) | ((first | refine Ev.el_map0 ?_ (fun hi => ?_) | refine Ev.el_mapN ?_ (fun hi => ?_)); rotate_left; conv => whnf) | ((with_reducible refine Ev.sd0 ?_); exact Ev.sd) | fail)
    · exact absurd (by assumption) h0
    · exact ⟨(fPutA_bad this h0).symm, rfl⟩
end Go.Proofs.YtadlnaljicikfaaDoor.Abs

namespace Go.Proofs.YtadlnaljicikfaaDoor.Abs
open Go Go.Lib
set_option linter.unusedSimpArgs false
set_option linter.unusedVariables false
def sgTake : Nat → List UInt8 → Except Int (List (List Sp) × List UInt8)
  | 0, b => .ok ([], b)
  | n + 1, b => match wTake b with
    | .error e => .error e
    | .ok (l, k) => match sgTake n (b.drop k.toNat) with
      | .error e => .error e
      | .ok (ls, r) => .ok (l :: ls, r)
def fTake2 (t : ByteArray) (revs : List Int) : Except Int (List (List Sp) × List UInt8) → Except Int Lg
  | .error e => .error e
  | .ok (segs, r) => if r ≠ [] then .error 9 else if chE ⟨t, revs, segs⟩ ≠ 0 then .error 8 else .ok ⟨t, revs, segs⟩
def fTake (b : List UInt8) : Except Int Lg :=
  if 65536 < b.length then .error 4 else
  match sTake b with
  | .error e => .error e
  | .ok (t, n) => match rTake (b.drop n.toNat) with
    | .error e => .error e
    | .ok (revs, k) => fTake2 t revs (sgTake (revs.length - 1) ((b.drop n.toNat).drop k.toNat))
def lg0 : Lg := ⟨⟨#[]⟩, [], []⟩
def fTakeE (b : List UInt8) : Int := match fTake b with | .error e => e | .ok _ => 0
def fTakeC (b : List UInt8) : Lg := match fTake b with | .error _ => lg0 | .ok c => c
def joinS (done : List (List Sp)) : Except Int (List (List Sp) × List UInt8) → Except Int (List (List Sp) × List UInt8)
  | .error e => .error e
  | .ok (ls, r) => .ok (done ++ ls, r)
theorem joinS_nil (x : Except Int (List (List Sp) × List UInt8)) : joinS [] x = x := by
  cases x with
  | error e => rfl
  | ok p => rfl
theorem sg_bad {n : Nat} {b : List UInt8} {done : List (List Sp)} {e : Int} (h : wTake b = .error e) : joinS done (sgTake (n + 1) b) = .error e := by
  simp only [sgTake, h]; rfl
theorem sg_step {n : Nat} {b : List UInt8} {done : List (List Sp)} {l : List Sp} {k : Int} (h : wTake b = .ok (l, k)) : joinS done (sgTake (n + 1) b) = joinS (done ++ [l]) (sgTake n (b.drop k.toNat)) := by
  simp only [sgTake, h]
  cases sgTake n (b.drop k.toNat) with
  | error e => rfl
  | ok p => simp [joinS]
theorem sg_end {b : List UInt8} {done : List (List Sp)} : joinS done (sgTake 0 b) = .ok (done, b) := by simp [sgTake, joinS]
theorem sgTake_put : ∀ (l : List (List Sp)) (rest : List UInt8), (∀ x ∈ l, wPutE x = 0) → sgTake l.length (l.flatMap encW ++ rest) = .ok (l, rest)
  | [], rest, _ => rfl
  | x :: l, rest, h => by
    rw [List.length_cons, List.flatMap_cons, List.append_assoc]
    simp only [sgTake]
    rw [wTake_put (h x (by simp))]
    simp only [Int.toNat_natCast, List.drop_left]
    rw [sgTake_put l rest (fun y hy => h y (by simp [hy]))]
theorem sgTake_inv : ∀ (n : Nat) (b : List UInt8) (l : List (List Sp)) (r : List UInt8), sgTake n b = .ok (l, r) → b = l.flatMap encW ++ r ∧ (∀ x ∈ l, wPutE x = 0) ∧ l.length = n
  | 0, b, l, r, h => by simp only [sgTake, Except.ok.injEq, Prod.mk.injEq] at h; obtain ⟨rfl, rfl⟩ := h; exact ⟨rfl, fun x hx => by simp at hx, rfl⟩
  | n + 1, b, l, r, h => by
    simp only [sgTake] at h
    cases hw : wTake b with
    | error e => rw [hw] at h; cases h
    | ok p =>
      obtain ⟨x, k⟩ := p
      rw [hw] at h
      simp only at h
      cases hs : sgTake n (b.drop k.toNat) with
      | error e => rw [hs] at h; cases h
      | ok q =>
        obtain ⟨ls, r'⟩ := q
        rw [hs] at h
        simp only [Except.ok.injEq, Prod.mk.injEq] at h
        obtain ⟨rfl, rfl⟩ := h
        obtain ⟨i1, i2, i3⟩ := sgTake_inv n _ _ _ hs
        obtain ⟨w1, w2, w3, w4, w5⟩ := wTake_inv hw
        refine ⟨?_, ?_, by rw [List.length_cons, i3]⟩
        · rw [List.flatMap_cons, List.append_assoc, ← i1, ← w3, List.take_append_drop]
        · intro y hy
          rcases List.mem_cons.1 hy with rfl | hy
          · exact w1
          · exact i2 y hy
theorem sgTake_bad : ∀ (n : Nat) (b : List UInt8) (e : Int), sgTake n b = .error e → e = 7 ∨ e = 8
  | 0, b, e, h => by simp [sgTake] at h
  | n + 1, b, e, h => by
    simp only [sgTake] at h
    cases hw : wTake b with
    | error e' => rw [hw] at h; simp only [Except.error.injEq] at h; subst h; exact wTake_bad hw
    | ok p =>
      obtain ⟨x, k⟩ := p
      rw [hw] at h
      simp only at h
      cases hs : sgTake n (b.drop k.toNat) with
      | error e' => rw [hs] at h; simp only [Except.error.injEq] at h; subst h; exact sgTake_bad n _ _ hs
      | ok q => rw [hs] at h; cases h
theorem fPutE_zero {c : Lg} (h : fPutE c = 0) : chE c = 0 ∧ sPutE c.base = 0 ∧ (∀ x ∈ c.segs, wPutE x = 0) ∧ (encF c).length ≤ 65536 := by
  unfold fPutE at h
  by_cases h1 : chE c = 0
  · rw [if_neg (by simp [h1])] at h
    by_cases h2 : sPutE c.base = 0
    · rw [if_neg (by simp [h2])] at h
      by_cases h3 : segPE c.segs = 0
      · rw [if_neg (by simp [h3])] at h
        refine ⟨h1, h2, segPE_all h3, ?_⟩
        refine Decidable.byContradiction fun hn => ?_
        rw [if_pos (by omega)] at h; cases h
      · rw [if_pos h3] at h; exact absurd h h3
    · rw [if_pos h2] at h; exact absurd h h2
  · rw [if_pos h1] at h; exact absurd h h1
theorem fPutE_of {c : Lg} (h1 : chE c = 0) (h2 : sPutE c.base = 0) (h3 : ∀ x ∈ c.segs, wPutE x = 0) (h4 : (encF c).length ≤ 65536) : fPutE c = 0 := by
  unfold fPutE; rw [if_neg (by simp [h1]), if_neg (by simp [h2]), if_neg (by simp [segPE_of h3]), if_neg (by omega)]
theorem fTake_put {c : Lg} (h : fPutE c = 0) (rest : List UInt8) (hr : (encF c ++ rest).length ≤ 65536) : fTake (encF c ++ rest) = if rest = [] then .ok c else .error 9 := by
  obtain ⟨h1, h2, h3, h4⟩ := fPutE_zero h
  obtain ⟨c1, c2, c3, c4, c5⟩ := chE_zero h1
  unfold fTake
  rw [if_neg (by omega)]
  have e1 : encF c ++ rest = encT c.base ++ (encR c.revs ++ (c.segs.flatMap encW ++ rest)) := by unfold encF; simp [List.append_assoc]
  rw [e1, sTake_put h2]
  simp only [Int.toNat_natCast, List.drop_left]
  rw [rTake_put c3]
  simp only [Int.toNat_natCast, List.drop_left]
  rw [show c.revs.length - 1 = c.segs.length by omega, sgTake_put _ _ h3]
  simp only [fTake2]
  by_cases hn : rest = []
  · rw [if_neg (by simp [hn]), if_pos hn, if_neg]
    intro hh; exact hh h1
  · rw [if_pos hn, if_neg hn]
theorem fTake_inv {b : List UInt8} {c : Lg} (h : fTake b = .ok c) : fPutE c = 0 ∧ encF c = b := by
  unfold fTake at h
  by_cases hb : 65536 < b.length
  · rw [if_pos hb] at h; cases h
  rw [if_neg hb] at h
  cases hs : sTake b with
  | error e => rw [hs] at h; cases h
  | ok p =>
    obtain ⟨t, n⟩ := p
    rw [hs] at h
    simp only at h
    cases hr : rTake (b.drop n.toNat) with
    | error e => rw [hr] at h; cases h
    | ok q =>
      obtain ⟨revs, k⟩ := q
      rw [hr] at h
      simp only at h
      cases hg : sgTake (revs.length - 1) ((b.drop n.toNat).drop k.toNat) with
      | error e => rw [hg] at h; cases h
      | ok u =>
        obtain ⟨segs, r⟩ := u
        rw [hg] at h
        simp only [fTake2] at h
        by_cases hr0 : r = []
        · rw [if_neg (by simp [hr0])] at h
          by_cases hc : chE ⟨t, revs, segs⟩ = 0
          · rw [if_neg (by simp [hc])] at h
            simp only [Except.ok.injEq] at h
            subst h
            obtain ⟨s1, s2, s3, _⟩ := sTake_inv hs
            obtain ⟨r1, r2, r3, _⟩ := rTake_inv hr
            obtain ⟨g1, g2, g3⟩ := sgTake_inv _ _ _ _ hg
            have e : encF ⟨t, revs, segs⟩ = b := by
              unfold encF
              simp only
              rw [hr0, List.append_nil] at g1
              rw [← g1, List.append_assoc, ← r3, List.take_append_drop, ← s3, List.take_append_drop]
            exact ⟨fPutE_of hc s1 g2 (by rw [e]; omega), e⟩
          · rw [if_pos hc] at h; cases h
        · rw [if_pos hr0] at h; cases h
theorem fTake_bad {b : List UInt8} {e : Int} (h : fTake b = .error e) : (65536 < b.length ∧ e = 4) ∨ (b.length ≤ 65536 ∧ (e = 7 ∨ e = 8 ∨ e = 9)) := by
  unfold fTake at h
  by_cases hb : 65536 < b.length
  · rw [if_pos hb] at h; simp only [Except.error.injEq] at h; exact .inl ⟨hb, h.symm⟩
  rw [if_neg hb] at h
  refine .inr ⟨by omega, ?_⟩
  cases hs : sTake b with
  | error e' => rw [hs] at h; simp only [Except.error.injEq] at h; subst h; rcases sTake_bad hs with h | h <;> omega
  | ok p =>
    obtain ⟨t, n⟩ := p
    rw [hs] at h
    simp only at h
    cases hr : rTake (b.drop n.toNat) with
    | error e' => rw [hr] at h; simp only [Except.error.injEq] at h; subst h; rcases rTake_bad hr with h | h <;> omega
    | ok q =>
      obtain ⟨revs, k⟩ := q
      rw [hr] at h
      simp only at h
      cases hg : sgTake (revs.length - 1) ((b.drop n.toNat).drop k.toNat) with
      | error e' => rw [hg] at h; simp only [fTake2, Except.error.injEq] at h; subst h; rcases sgTake_bad _ _ _ hg with h | h <;> omega
      | ok u =>
        obtain ⟨segs, r⟩ := u
        rw [hg] at h
        simp only [fTake2] at h
        by_cases hr0 : r = []
        · rw [if_neg (by simp [hr0])] at h
          by_cases hc : chE ⟨t, revs, segs⟩ = 0
          · rw [if_neg (by simp [hc])] at h; cases h
          · rw [if_pos hc] at h; simp only [Except.error.injEq] at h; omega
        · rw [if_pos hr0] at h; simp only [Except.error.injEq] at h; omega
end Go.Proofs.YtadlnaljicikfaaDoor.Abs

namespace Go.Proofs.YtadlnaljicikfaaDoor.Abs
open Go
set_option maxRecDepth 100000
set_option linter.unusedSimpArgs false
set_option linter.unusedVariables false
attribute [local irreducible] Ev.Unr Ev.Go' Ev.bytK Ev.runK Ev.FinL Ev.brC Ev.Side Ev.Wp Ev.Again Ev.To Ev.Fin
open Go.Lib Go.RowKit
theorem comp43 : ∀ c, Tryd.f43.body = some c → comp c = (.seq (.reg 0 [I.n 0 2 (.alloc 27), I.n 1 3 (I.si 0)]) (.seq (.seq (.reg 1 [I.n 0 12 (I.mv 0), I.n 1 13 (I.ln 12 56), I.n 2 14 (I.bc .gtr 3 13 65536 3)]) (.cond (.tmp 14) (.seq (.reg 2 [I.n 0 15 (.build 27 #[]), I.u 1 (I.st 27 2 15), I.n 2 3 (I.si 4)]) .ret) .skip)) (.seq (.reg 3 [I.n 0 17 (I.mv 0), I.n 1 18 (I.c1 89 17 56), I.n 2 16 (I.mv 18), I.n 3 19 (I.ex 16 0), I.n 4 20 (I.ex 16 1), I.n 5 21 (I.ex 16 2), I.n 6 4 (I.sa 19), I.n 7 5 (I.sa 20), I.n 8 6 (I.sa 21)]) (.seq (.seq (.reg 4 [I.n 0 22 (I.mv 6), I.n 1 23 (I.bc .neq 30 22 0 30)]) (.cond (.tmp 23) (.seq (.reg 5 [I.n 0 24 (.build 27 #[]), I.n 1 25 (I.mv 6), I.u 2 (I.st 27 2 24), I.n 3 3 (I.sa 25)]) .ret) .skip)) (.seq (.reg 6 [I.n 0 26 (I.mv 0), I.n 1 27 (I.mv 5), I.n 2 28 (.slice 56 (.tmp 26) (some (.tmp 27)) none none), I.n 3 0 (I.sa 28)]) (.seq (.reg 7 [I.n 0 30 (I.mv 0), I.n 1 31 (I.c1 90 30 56), I.n 2 29 (I.mv 31), I.n 3 32 (I.ex 29 0), I.n 4 33 (I.ex 29 1), I.n 5 34 (I.ex 29 2), I.n 6 7 (I.sa 32), I.n 7 5 (I.sa 33), I.n 8 6 (I.sa 34)]) (.seq (.seq (.reg 8 [I.n 0 35 (I.mv 6), I.n 1 36 (I.bc .neq 30 35 0 30)]) (.cond (.tmp 36) (.seq (.reg 9 [I.n 0 37 (.build 27 #[]), I.n 1 38 (I.mv 6), I.u 2 (I.st 27 2 37), I.n 3 3 (I.sa 38)]) .ret) .skip)) (.seq (.reg 10 [I.n 0 39 (I.mv 0), I.n 1 40 (I.mv 5), I.n 2 41 (.slice 56 (.tmp 39) (some (.tmp 40)) none none), I.n 3 0 (I.sa 41)]) (.seq (.reg 11 [I.n 0 42 (I.mv 4), I.n 1 43 (I.mv 7), I.n 2 44 (.build 27 #[(0, .tmp 42), (1, .tmp 43)]), I.n 3 8 (.alloc 27), I.u 4 (I.st 27 8 44)]) (.seq (.seq (.reg 12 [I.n 0 45 (I.mv 7), I.n 1 46 (I.ln 45 25), I.n 2 47 (I.bc .sub 3 46 1 3), I.n 3 48 (.move (.const (Value.int .i64 0)))]) (.block 0 (.loop (.seq (.reg 13 [I.n 0 49 (I.bo .lss 3 48 47 3)]) (.seq (.cond (.tmp 49) .skip (.exit 0)) (.seq (.block 1 (.seq (.reg 14 [I.n 0 51 (I.mv 0), I.n 1 52 (I.c1 91 51 56), I.n 2 50 (I.mv 52), I.n 3 53 (I.ex 50 0), I.n 4 54 (I.ex 50 1), I.n 5 55 (I.ex 50 2), I.n 6 9 (I.sa 53), I.n 7 10 (I.sa 54), I.n 8 11 (I.sa 55)]) (.seq (.seq (.reg 15 [I.n 0 56 (I.mv 11), I.n 1 57 (I.bc .neq 30 56 0 30)]) (.cond (.tmp 57) (.seq (.reg 16 [I.n 0 58 (.build 27 #[]), I.n 1 59 (I.mv 11), I.u 2 (I.st 27 2 58), I.n 3 3 (I.sa 59)]) .ret) .skip)) (.seq (.reg 17 [I.n 0 60 (I.mv 0), I.n 1 61 (I.mv 10), I.n 2 62 (.slice 56 (.tmp 60) (some (.tmp 61)) none none), I.n 3 0 (I.sa 62)]) (.reg 18 [I.n 0 63 (I.fa 27 8 2), I.n 1 64 (I.ld 22 63), I.n 2 65 (I.mv 9), I.n 3 66 (I.b1 22 65), I.n 4 67 (I.ap 64 66 22 22), I.n 5 68 (I.fa 27 8 2), I.u 6 (I.st 22 68 67)]))))) (.reg 19 [I.n 0 69 (I.bc .add 3 48 1 3), I.n 1 48 (I.mv 69)]))))))) (.seq (.block 2 (.seq (.reg 20 [I.n 0 71 (I.mv 0), I.n 1 72 (I.ln 71 56), I.n 2 73 (I.bc .gtr 3 72 0 3), I.n 3 70 (I.sa 73)]) (.cond (.tmp 70) (.seq (.reg 21 [I.n 0 74 (.build 27 #[]), I.u 1 (I.st 27 2 74), I.n 2 3 (I.si 9)]) .ret) (.seq (.reg 22 [I.n 0 76 (I.ld 27 8), I.n 1 77 (I.c1 46 76 27), I.n 2 78 (I.bc .neq 30 77 0 30), I.n 3 75 (I.sa 78)]) (.cond (.tmp 75) (.seq (.reg 23 [I.n 0 79 (.build 27 #[]), I.u 1 (I.st 27 2 79), I.n 2 3 (I.si 8)]) .ret) .skip))))) (.seq (.reg 24 [I.n 0 80 (I.ld 27 8), I.u 1 (I.st 27 2 80), I.n 2 3 (I.si 0)]) .ret)))))))))))) := by
  intro c h
  have : c = Tryd.f43.body.get rfl := by rw [← Option.some_inj, ← h]; rfl
  rw [this]; rfl
theorem comp45 : ∀ c, Tryd.f45.body = some c → comp c = (.seq (.reg 0 [I.n 0 2 (.alloc 27), I.n 1 3 (I.si 0)]) (.seq (.seq (.reg 1 [I.n 0 15 (I.mv 0), I.n 1 16 (I.ln 15 56), I.n 2 17 (I.bc .gtr 3 16 65536 3)]) (.cond (.tmp 17) (.seq (.reg 2 [I.n 0 18 (.build 27 #[]), I.u 1 (I.st 27 2 18), I.n 2 3 (I.si 4)]) .ret) .skip)) (.seq (.reg 3 [I.n 0 19 (.build 27 #[]), I.n 1 4 (.alloc 27), I.u 2 (I.st 27 4 19)]) (.seq (.reg 4 [I.n 0 21 (I.mv 0), I.n 1 22 (I.c1 92 21 56), I.n 2 20 (I.mv 22), I.n 3 23 (I.ex 20 0), I.n 4 24 (I.ex 20 1), I.n 5 25 (I.ex 20 2), I.n 6 5 (I.sa 23), I.n 7 6 (I.sa 24), I.n 8 7 (I.sa 25)]) (.seq (.seq (.reg 5 [I.n 0 26 (I.mv 7), I.n 1 27 (I.bc .neq 30 26 0 30)]) (.cond (.tmp 27) (.seq (.reg 6 [I.n 0 28 (.build 27 #[]), I.n 1 29 (I.mv 7), I.u 2 (I.st 27 2 28), I.n 3 3 (I.sa 29)]) .ret) .skip)) (.seq (.reg 7 [I.n 0 30 (I.mv 5), I.n 1 31 (I.fa 27 4 0), I.u 2 (I.st 9 31 30)]) (.seq (.reg 8 [I.n 0 33 (I.mv 0), I.n 1 34 (I.mv 6), I.n 2 35 (.slice 56 (.tmp 33) (some (.tmp 34)) none none), I.n 3 36 (I.c1 93 35 56), I.n 4 32 (I.mv 36), I.n 5 37 (I.ex 32 0), I.n 6 38 (I.ex 32 1), I.n 7 39 (I.ex 32 2), I.n 8 8 (I.sa 37), I.n 9 9 (I.sa 38), I.n 10 10 (I.sa 39)]) (.seq (.seq (.reg 9 [I.n 0 40 (I.mv 10), I.n 1 41 (I.bc .neq 30 40 0 30)]) (.cond (.tmp 41) (.seq (.reg 10 [I.n 0 42 (.build 27 #[]), I.n 1 43 (I.mv 10), I.u 2 (I.st 27 2 42), I.n 3 3 (I.sa 43)]) .ret) .skip)) (.seq (.reg 11 [I.n 0 44 (I.mv 8), I.n 1 45 (I.fa 27 4 1), I.u 2 (I.st 25 45 44)]) (.seq (.reg 12 [I.n 0 46 (I.mv 6), I.n 1 47 (I.mv 9), I.n 2 48 (I.bo .add 3 46 47 3), I.n 3 6 (I.sa 48)]) (.seq (.seq (.reg 13 [I.n 0 11 (I.si 1)]) (.block 0 (.loop (.seq (.seq (.reg 14 [I.n 0 49 (I.mv 11), I.n 1 50 (I.mv 8), I.n 2 51 (I.ln 50 25), I.n 3 52 (I.bo .lss 3 49 51 3)]) (.cond (.tmp 52) .skip (.exit 0))) (.seq (.block 1 (.seq (.reg 16 [I.n 0 56 (I.mv 0), I.n 1 57 (I.mv 6), I.n 2 58 (.slice 56 (.tmp 56) (some (.tmp 57)) none none), I.n 3 59 (I.c1 94 58 56), I.n 4 55 (I.mv 59), I.n 5 60 (I.ex 55 0), I.n 6 61 (I.ex 55 1), I.n 7 62 (I.ex 55 2), I.n 8 12 (I.sa 60), I.n 9 13 (I.sa 61), I.n 10 14 (I.sa 62)]) (.seq (.seq (.reg 17 [I.n 0 63 (I.mv 14), I.n 1 64 (I.bc .neq 30 63 0 30)]) (.cond (.tmp 64) (.seq (.reg 18 [I.n 0 65 (.build 27 #[]), I.n 1 66 (I.mv 14), I.u 2 (I.st 27 2 65), I.n 3 3 (I.sa 66)]) .ret) .skip)) (.seq (.reg 19 [I.n 0 67 (I.fa 27 4 2), I.n 1 68 (I.ld 22 67), I.n 2 69 (I.mv 12), I.n 3 70 (I.b1 22 69), I.n 4 71 (I.ap 68 70 22 22), I.n 5 72 (I.fa 27 4 2), I.u 6 (I.st 22 72 71)]) (.reg 20 [I.n 0 73 (I.mv 6), I.n 1 74 (I.mv 13), I.n 2 75 (I.bo .add 3 73 74 3), I.n 3 6 (I.sa 75)]))))) (.reg 15 [I.n 0 53 (I.mv 11), I.n 1 54 (I.bc .add 3 53 1 3), I.n 2 11 (I.sa 54)])))))) (.seq (.seq (.reg 21 [I.n 0 76 (I.mv 6), I.n 1 77 (I.mv 0), I.n 2 78 (I.ln 77 56), I.n 3 79 (I.bo .lss 3 76 78 3)]) (.cond (.tmp 79) (.seq (.reg 22 [I.n 0 80 (.build 27 #[]), I.u 1 (I.st 27 2 80), I.n 2 3 (I.si 9)]) .ret) .skip)) (.seq (.seq (.reg 23 [I.n 0 81 (I.ld 27 4), I.n 1 82 (I.c1 85 81 27), I.n 2 83 (I.bc .neq 30 82 0 30)]) (.cond (.tmp 83) (.seq (.reg 24 [I.n 0 84 (.build 27 #[]), I.u 1 (I.st 27 2 84), I.n 2 3 (I.si 8)]) .ret) .skip)) (.seq (.reg 25 [I.n 0 85 (I.ld 27 4), I.u 1 (I.st 27 2 85), I.n 2 3 (I.si 0)]) .ret)))))))))))))) := by
  intro c h
  have : c = Tryd.f45.body.get rfl := by rw [← Option.some_inj, ← h]; rfl
  rw [this]; rfl
def FTakeR (b : List UInt8) (r : AV) (hs : List Blk) : Prop := LeR r (.tup [lgA (fTakeC b), .v (.int .i64 (fTakeE b))]) ∧ hs = []
theorem ftakeR_bad {b : List UInt8} {e : Int} (h : fTake b = .error e) : FTakeR b (.tup [.agg [.v (.string ⟨#[]⟩), nilA, nilA], .v (.int .i64 e)]) [] := by
  unfold FTakeR fTakeC fTakeE; rw [h]
  exact ⟨LeR.tup2 (LeR.agg3 (LeR.refl _) (LeR.nil 1) (LeR.nil 1)) (LeR.refl _), rfl⟩
theorem ftakeR_ok {b : List UInt8} {c : Lg} {x : AV} (h : fTake b = .ok c) (hx : LeR x (lgA c)) : FTakeR b (.tup [x, .v (.int .i64 0)]) [] := by
  unfold FTakeR fTakeC fTakeE; rw [h]
  exact ⟨LeR.tup2 hx (LeR.refl _), rfl⟩
theorem stake_ok {b : List UInt8} {t : ByteArray} {k : Int} (hb : b.length ≤ 1000000000) (h : sTake b = .ok (t, k)) : CallW env 89 [.lst 1 (bts b)] (fun r hs => r = .tup [.v (.string t), .v (.int .i64 k), .v (.int .i64 0)] ∧ hs = []) := by
  have := stake_call b hb
  rw [sTakeA_ok h] at this; exact this
theorem stake_no {b : List UInt8} {e : Int} (hb : b.length ≤ 1000000000) (h : sTake b = .error e) : CallW env 89 [.lst 1 (bts b)] (fun r hs => r = .tup [.v (.string ⟨#[]⟩), .v (.int .i64 0), .v (.int .i64 e)] ∧ hs = []) := by
  have := stake_call b hb
  rw [sTakeA_bad h] at this; exact this
theorem may_lg {t : ByteArray} {revs : List Int} {segs : List (List Sp)} {x : AV} (h : LgS ⟨t, revs, segs⟩) (hx : Le x (.lst 1 (rowsA segs))) : CallW env 46 [.agg [.v (.string t), .lst 1 (ints revs), x]] (fun r hs => r = .v (.int .i64 (chE ⟨t, revs, segs⟩)) ∧ hs = []) :=
  (cmay_call ⟨t, revs, segs⟩ h).arg1 (Le.agg3 (Le.refl _) (Le.refl _) hx)
theorem rmay_lg {t : ByteArray} {revs : List Int} {segs : List (List Sp)} {x : AV} (h : LgS ⟨t, revs, segs⟩) (hx : Le x (.lst 1 (rowsA segs))) : CallW env 85 [.agg [.v (.string t), .lst 1 (ints revs), x]] (fun r hs => r = .v (.int .i64 (chE ⟨t, revs, segs⟩)) ∧ hs = []) :=
  (r16may_call ⟨t, revs, segs⟩ h).arg1 (Le.agg3 (Le.refl _) (Le.refl _) hx)
theorem taken_small {b : List UInt8} (hb : b.length ≤ 65536) {n : Nat} {t : ByteArray} {k : Int} (hs : sTake b = .ok (t, k)) : t.size ≤ 65536 := by
  obtain ⟨s1, _⟩ := sTake_inv hs
  unfold sPutE at s1
  split at s1
  · split at s1
    · cases s1
    · omega
  · cases s1
theorem rises_len {l : List Int} (h : rises l = true) : l.length ≤ 65536 ∧ 1 ≤ l.length := by
  unfold rises at h
  simp only [Bool.and_eq_true, decide_eq_true_eq, Bool.not_eq_true', List.isEmpty_eq_false_iff] at h
  exact ⟨h.1.2, List.length_pos_iff.2 h.1.1⟩
theorem put_small {x : List Sp} (h : wPutE x = 0) : x.length ≤ 65536 ∧ Small x := by
  obtain ⟨_, _, h3, h4⟩ := wPutE_ok h
  exact ⟨h3, fun s hs => by have := (h4 s hs).2.2; omega⟩
set_option maxHeartbeats 4000000 in
theorem ftake_core (b : List UInt8) : CallW env 43 [.lst 1 (bts b)] (FTakeR b) := by
  have hbl := bts_len b
  by_cases hb : 65536 < b.length
  · have h : fTake b = .error 4 := by unfold fTake; rw [if_pos hb]
    refine Ev.fn [0, 2, 3, 4, 5, 6, 7, 8, 9, 10, 11, 14, 23, 36, 47, 48, 49, 57, 70, 75] 0 [.cell 2 27, .tmp 3] Tryd.func43 (comp43 _ rfl) ?_
    repeat' (first | ((with_reducible refine Ev.br0 ?_); (first | refine Ev.brp ?_ | refine Ev.brn ?_); conv => whnf) | ((with_reducible refine Ev.c0 ?_); first | refine Ev.cp ?_ | refine Ev.cn ?_) | ((refine Ev.sw ?_); conv => whnf) | refine Ev.sn ?_ | ((with_reducible refine Ev.chk_k ?_ ?_); rotate_left; exact Ev.bt; conv => whnf) | ((with_reducible (refine Ev.RI.run ?_; constructor)) <;> intro _) | ((refine Ev.sg ?_); conv => whnf) | ((with_reducible refine Ev.sided ?_ ?_); conv => whnf) | ((with_reducible refine Ev.kr (hs := []) (fun Q hQ => ?_)); (simp only [Ev.runE_cons, Ev.runE_nil]); conv => whnf) | (with_reducible refine hQ _ ?_; clear hQ Q) | ((refine Ev.sf ?_); intro F hF; conv => whnf) | (with_reducible refine hF _ ?_; clear hF F) | ((with_reducible refine Ev.go_k (fun c' => ?_)); conv => whnf) | ((first | refine Ev.el_map0 ?_ (fun hi => ?_) | refine Ev.el_mapN ?_ (fun hi => ?_)); rotate_left; conv => whnf) | ((with_reducible refine Ev.sd0 ?_); exact Ev.sd) | fail)
    · exact ftakeR_bad h
    · exfalso; omega
  cases hs : sTake b with
  | error e =>
    have h : fTake b = .error e := by unfold fTake; rw [if_neg hb, hs]
    have hS := stake_no (by omega) hs
    have he : e ≠ 0 := by rcases sTake_bad hs with h | h <;> omega
    refine Ev.fn [0, 2, 3, 4, 5, 6, 7, 8, 9, 10, 11, 14, 23, 36, 47, 48, 49, 57, 70, 75] 0 [.cell 2 27, .tmp 3] Tryd.func43 (comp43 _ rfl) ?_
    repeat' (first | ((with_reducible refine Ev.br0 ?_); (first | refine Ev.brp ?_ | refine Ev.brn ?_); conv => whnf) | ((with_reducible refine Ev.c0 ?_); first | refine Ev.cp ?_ | refine Ev.cn ?_) | ((refine Ev.sw ?_); conv => whnf) | refine Ev.sn ?_ | ((with_reducible refine Ev.chk_k ?_ ?_); rotate_left; exact Ev.bt; conv => whnf) | ((with_reducible (refine Ev.RI.run ?_; constructor)) <;> intro _) | ((refine Ev.sg ?_); conv => whnf) | ((with_reducible refine Ev.sided ?_ ?_); conv => whnf) | ((with_reducible refine Ev.kr (hs := []) (fun Q hQ => ?_)); (simp only [Ev.runE_cons, Ev.runE_nil]); conv => whnf) | (with_reducible refine hQ _ ?_; clear hQ Q) | ((refine Ev.sf ?_); intro F hF; conv => whnf) | (with_reducible refine hF _ ?_; clear hF F) | ((with_reducible refine Ev.go_k (fun c' => ?_)); conv => whnf) | ((with_reducible refine Ev.ca0 ?_); (first | refine Ev.ca (hS) ?_); conv => whnf) | ((first | refine Ev.el_map0 ?_ (fun hi => ?_) | refine Ev.el_mapN ?_ (fun hi => ?_)); rotate_left; conv => whnf) | ((with_reducible refine Ev.sd0 ?_); exact Ev.sd) | fail)
    · exfalso; omega
    · exact absurd (by assumption) he
    · exact ftakeR_bad h
  | ok p =>
    obtain ⟨t, n⟩ := p
    have hS := stake_ok (by omega) hs
    obtain ⟨s1, s2, s3, s4, s5⟩ := sTake_inv hs
    obtain ⟨n, rfl⟩ := Int.eq_ofNat_of_zero_le (show 0 ≤ n by omega)
    have hc := cut_from b n
    have hdl : (b.drop n).length = b.length - n := List.length_drop
    cases hr : rTake (b.drop n) with
    | error e =>
      have h : fTake b = .error e := by unfold fTake; rw [if_neg hb, hs]; simp only [Int.toNat_natCast]; rw [hr]
      have hR := rtakerow_call (b.drop n) (by omega)
      rw [rTakeA_bad hr, ← hc] at hR
      have he : e ≠ 0 := by rcases rTake_bad hr with h | h <;> omega
      refine Ev.fn [0, 2, 3, 4, 5, 6, 7, 8, 9, 10, 11, 14, 23, 36, 47, 48, 49, 57, 70, 75] 0 [.cell 2 27, .tmp 3] Tryd.func43 (comp43 _ rfl) ?_
      repeat' (first | ((with_reducible refine Ev.br0 ?_); (first | refine Ev.brp ?_ | refine Ev.brn ?_); conv => whnf) | ((with_reducible refine Ev.c0 ?_); first | refine Ev.cp ?_ | refine Ev.cn ?_) | ((refine Ev.sw ?_); conv => whnf) | refine Ev.sn ?_ | ((with_reducible refine Ev.chk_k ?_ ?_); rotate_left; exact Ev.bt; conv => whnf) | ((with_reducible (refine Ev.RI.run ?_; constructor)) <;> intro _) | ((refine Ev.sg ?_); conv => whnf) | ((with_reducible refine Ev.sided ?_ ?_); conv => whnf) | ((with_reducible refine Ev.kr (hs := []) (fun Q hQ => ?_)); (simp only [Ev.runE_cons, Ev.runE_nil]); conv => whnf) | (with_reducible refine hQ _ ?_; clear hQ Q) | ((refine Ev.sf ?_); intro F hF; conv => whnf) | (with_reducible refine hF _ ?_; clear hF F) | ((with_reducible refine Ev.go_k (fun c' => ?_)); conv => whnf) | ((with_reducible refine Ev.ca0 ?_); (first | refine Ev.ca (hS) ?_ | refine Ev.ca (hR) ?_); conv => whnf) | ((first | refine Ev.el_map0 ?_ (fun hi => ?_) | refine Ev.el_mapN ?_ (fun hi => ?_)); rotate_left; conv => whnf) | ((with_reducible refine Ev.sd0 ?_); exact Ev.sd) | fail)
      · exfalso; omega
      · exact absurd (by assumption) he
      · exact ftakeR_bad h
    | ok q =>
      obtain ⟨revs, k⟩ := q
      have hR := rtakerow_call (b.drop n) (by omega)
      rw [rTakeA_ok hr, ← hc] at hR
      obtain ⟨r1, r2, r3, r4, r5⟩ := rTake_inv hr
      obtain ⟨k, rfl⟩ := Int.eq_ofNat_of_zero_le (show 0 ≤ k by omega)
      obtain ⟨v1, v2⟩ := rises_len r1
      have hil := ints_len revs
      have hF : fTake b = fTake2 t revs (sgTake (revs.length - 1) ((b.drop n).drop k)) := by
        unfold fTake; rw [if_neg hb, hs]; simp only [Int.toNat_natCast]; rw [hr]
        simp only [Int.toNat_natCast]
      obtain ⟨N, hN⟩ : ∃ N, revs.length = N + 1 := ⟨revs.length - 1, by omega⟩
      rw [hN, Nat.add_sub_cancel] at hF
      have hts := taken_small (n := n) (by omega : b.length ≤ 65536) hs
      refine Ev.fn [0, 2, 3, 4, 5, 6, 7, 8, 9, 10, 11, 14, 23, 36, 47, 48, 49, 57, 70, 75] 0 [.cell 2 27, .tmp 3] Tryd.func43 (comp43 _ rfl) ?_
      repeat' (first | ((with_reducible refine Ev.br0 ?_); (first | refine Ev.brp ?_ | refine Ev.brn ?_); conv => whnf) | ((with_reducible refine Ev.c0 ?_); first | refine Ev.cp ?_ | refine Ev.cn ?_) | ((refine Ev.sw ?_); conv => whnf) | refine Ev.sn ?_ | ((with_reducible refine Ev.chk_k ?_ ?_); rotate_left; exact Ev.bt; conv => whnf) | ((with_reducible (refine Ev.RI.run ?_; constructor)) <;> intro _) | ((refine Ev.sg ?_); conv => whnf) | ((with_reducible refine Ev.sided ?_ ?_); conv => whnf) | ((with_reducible refine Ev.kr (hs := []) (fun Q hQ => ?_)); (simp only [Ev.runE_cons, Ev.runE_nil]); conv => whnf) | (with_reducible refine hQ _ ?_; clear hQ Q) | ((refine Ev.sf ?_); intro F hF; conv => whnf) | (with_reducible refine hF _ ?_; clear hF F) | ((with_reducible refine Ev.go_k (fun c' => ?_)); conv => whnf) | ((with_reducible refine Ev.ca0 ?_); (first | refine Ev.ca (hS) ?_ | refine Ev.ca (hR) ?_); conv => whnf) | ((first | refine Ev.el_map0 ?_ (fun hi => ?_) | refine Ev.el_mapN ?_ (fun hi => ?_)); rotate_left; conv => whnf) | ((with_reducible refine Ev.sd0 ?_); exact Ev.sd) | fail)
      · exfalso; omega
      refine Ev.loop (fun m s => ∃ (i c w : Nat) (left : List UInt8) (done : List (List Sp)) (sg : AV) (hx : List (Nat × Blk)), s = ⟨[(0, .lst 1 (bts left)), (2, .ptr 0 0 0 0), (3, .v (.int .i64 0)), (8, .ptr 5656 w 0 0), (47, .v (.int .i64 N)), (48, .v (.int .i64 i))],
          (5656, ⟨3, 27, w, 0, true, [[.v (.string t), .lst 1 (ints revs), sg]]⟩) :: (0, ⟨3, 27, 0, 0, true, [[.v (.string ⟨#[]⟩), nilA, nilA]]⟩) :: hx, c⟩ ∧
          ((i = 0 ∧ sg = nilA ∧ hx = []) ∨ (0 < i ∧ ∃ u, sg = .own 9248 u 0 i ∧ hx = [(9248, ⟨1, 23, u, 0, false, rowsA done⟩)])) ∧ done.length = i ∧ m + i = N ∧ left.length ≤ 65536 ∧ (∀ x ∈ done, wPutE x = 0) ∧ sgTake N ((b.drop n).drop k) = joinS done (sgTake m left)) ?_ ?_
      · have hc2 := cut_from2 b n k
        (refine Ev.to _ ?hs1 ?hh1 ?hc1 ⟨N, 0, ?_, ?_, (b.drop n).drop k, [], nilA, [], rfl, ?hp1⟩; (case hs1 | hh1 => ((repeat' (first | exact trivial | refine And.intro ?_ ?_)) <;> (first | exact Ev.se | (refine Ev.slot_eq rfl ?_; first | (first | exact congrArg (AV.lst 1) hc2 | rfl | (simp; omega)) | ((first | refine Ev.int_eq ?_ | refine Ev.own_eq ?_ | refine Ev.blk_eq ?_); (first | exact congrArg (AV.lst 1) hc2 | rfl | (simp; omega)))) | exact Ev.sr))); (case hc1 => exact Nat.le_refl _))
        exact ⟨.inl ⟨rfl, rfl, rfl⟩, rfl, by omega, by rw [List.length_drop]; omega, fun x hx => by simp at hx, (joinS_nil _).symm⟩
      rintro m s1 ⟨i, c, w, left, done, sg, hx, rfl, hsg, hdn, hm, hll, hput, hg⟩
      have hlb := bts_len left
      have hrd := rowsA_len done
      by_cases hi : i = N
      · have hm0 : m = 0 := by omega
        subst hm0
        rw [sg_end] at hg
        rw [hg] at hF
        simp only [fTake2] at hF
        have hiN : ¬ (i : Int) < (N : Int) := by omega
        have hLS : LgS ⟨t, revs, done⟩ := by
          refine ⟨by show t.size ≤ _; omega, by show revs.length ≤ _; omega, by show done.length ≤ _; omega, fun x hx => ?_⟩
          have := put_small (hput x hx)
          exact ⟨by omega, this.2⟩
        rcases hsg with ⟨rfl, rfl, rfl⟩ | ⟨h0, u, rfl, rfl⟩
        · obtain rfl : done = [] := List.length_eq_zero_iff.1 hdn
          have hM := may_lg hLS (Le.nil 1)
          repeat' (first | ((with_reducible refine Ev.br0 ?_); (first | refine Ev.brp ?_ | refine Ev.brn ?_); conv => whnf) | ((with_reducible refine Ev.c0 ?_); first | refine Ev.cp ?_ | refine Ev.cn ?_) | (((with_reducible refine Ev.br_neg hiN ?_); conv => whnf)) | (with_reducible refine Ev.c_neg hiN ?_) | ((refine Ev.sw ?_); conv => whnf) | refine Ev.sn ?_ | ((with_reducible refine Ev.chk_k ?_ ?_); rotate_left; exact Ev.bt; conv => whnf) | ((with_reducible (refine Ev.RI.run ?_; constructor)) <;> intro _) | ((refine Ev.sg ?_); conv => whnf) | ((with_reducible refine Ev.sided ?_ ?_); conv => whnf) | ((with_reducible refine Ev.kr (hs := []) (fun Q hQ => ?_)); (simp only [Ev.runE_cons, Ev.runE_nil]); conv => whnf) | (with_reducible refine hQ _ ?_; clear hQ Q) | ((refine Ev.sf ?_); intro F hF; conv => whnf) | (with_reducible refine hF _ ?_; clear hF F) | ((with_reducible refine Ev.go_k (fun c' => ?_)); conv => whnf) | ((with_reducible refine Ev.ca0 ?_); (first | refine Ev.ca (hM) ?_); conv => whnf) | ((first | refine Ev.el_map0 ?_ (fun hi => ?_) | refine Ev.el_mapN ?_ (fun hi => ?_)); rotate_left; conv => whnf) | ((with_reducible refine Ev.sd0 ?_); exact Ev.sd) | fail)
          · rename_i h9
            exact ftakeR_bad (by rw [hF, if_pos (fun e => by rw [e, bts_len] at h9; simp at h9)])
          · rename_i h0 hc0
            exact ftakeR_ok (c := ⟨t, revs, []⟩) (by rw [hF, if_neg (by simp; exact List.length_eq_zero_iff.1 (by omega)), if_neg (by simp [hc0])]) (LeR.agg3 (LeR.refl _) (LeR.refl _) (LeR.nil 1))
          · rename_i h0 hc0
            exact ftakeR_bad (by rw [hF, if_neg (by simp; exact List.length_eq_zero_iff.1 (by omega)), if_pos hc0])
        · have htk : List.take i (List.drop 0 (rowsA done)) = rowsA done := by rw [List.drop_zero, List.take_of_length_le (by omega)]
          have hM := may_lg hLS (Le.refl _)
          rw [← htk] at hM
          repeat' (first | ((with_reducible refine Ev.br0 ?_); (first | refine Ev.brp ?_ | refine Ev.brn ?_); conv => whnf) | ((with_reducible refine Ev.c0 ?_); first | refine Ev.cp ?_ | refine Ev.cn ?_) | (((with_reducible refine Ev.br_neg hiN ?_); conv => whnf)) | (with_reducible refine Ev.c_neg hiN ?_) | ((refine Ev.sw ?_); conv => whnf) | refine Ev.sn ?_ | ((with_reducible refine Ev.chk_k ?_ ?_); rotate_left; exact Ev.bt; conv => whnf) | ((with_reducible (refine Ev.RI.run ?_; constructor)) <;> intro _) | ((refine Ev.sg ?_); conv => whnf) | ((with_reducible refine Ev.sided ?_ ?_); conv => whnf) | ((with_reducible refine Ev.kr (hs := []) (fun Q hQ => ?_)); (simp only [Ev.runE_cons, Ev.runE_nil]); conv => whnf) | (with_reducible refine hQ _ ?_; clear hQ Q) | ((refine Ev.sf ?_); intro F hF; conv => whnf) | (with_reducible refine hF _ ?_; clear hF F) | ((with_reducible refine Ev.go_k (fun c' => ?_)); conv => whnf) | ((with_reducible refine Ev.ca0 ?_); (first | refine Ev.ca (hM) ?_); conv => whnf) | ((first | refine Ev.el_map0 ?_ (fun hi => ?_) | refine Ev.el_mapN ?_ (fun hi => ?_)); rotate_left; conv => whnf) | ((with_reducible refine Ev.sd0 ?_); exact Ev.sd) | fail)
          · rename_i h9
            exact ftakeR_bad (by rw [hF, if_pos (fun e => by rw [e, bts_len] at h9; simp at h9)])
          · rename_i h00 hc0
            exact ftakeR_ok (by rw [hF, if_neg (by simp; exact List.length_eq_zero_iff.1 (by omega)), if_neg (by simp [hc0])]) (by rw [htk]; exact LeR.refl _)
          · rename_i h00 hc0
            exact ftakeR_bad (by rw [hF, if_neg (by simp; exact List.length_eq_zero_iff.1 (by omega)), if_pos hc0])
      have hiN : (i : Int) < (N : Int) := by omega
      obtain ⟨m, rfl⟩ : ∃ m', m = m' + 1 := ⟨m - 1, by omega⟩
      cases hw : wTake left with
      | error e =>
        have hW := wtake_no (by omega) hw
        have he : e ≠ 0 := by rcases wTake_bad hw with h | h <;> omega
        rw [sg_bad hw] at hg
        rw [hg] at hF
        repeat' (first | ((with_reducible refine Ev.br0 ?_); (first | refine Ev.brp ?_ | refine Ev.brn ?_); conv => whnf) | ((with_reducible refine Ev.c0 ?_); first | refine Ev.cp ?_ | refine Ev.cn ?_) | (((with_reducible refine Ev.br_pos hiN ?_); conv => whnf)) | (with_reducible refine Ev.c_pos hiN ?_) | ((refine Ev.sw ?_); conv => whnf) | refine Ev.sn ?_ | ((with_reducible refine Ev.chk_k ?_ ?_); rotate_left; exact Ev.bt; conv => whnf) | ((with_reducible (refine Ev.RI.run ?_; constructor)) <;> intro _) | ((refine Ev.sg ?_); conv => whnf) | ((with_reducible refine Ev.sided ?_ ?_); conv => whnf) | ((with_reducible refine Ev.kr (hs := []) (fun Q hQ => ?_)); (simp only [Ev.runE_cons, Ev.runE_nil]); conv => whnf) | (with_reducible refine hQ _ ?_; clear hQ Q) | ((refine Ev.sf ?_); intro F hF; conv => whnf) | (with_reducible refine hF _ ?_; clear hF F) | ((with_reducible refine Ev.go_k (fun c' => ?_)); conv => whnf) | ((with_reducible refine Ev.ca0 ?_); (first | refine Ev.ca (hW) ?_); conv => whnf) | ((first | refine Ev.el_map0 ?_ (fun hi => ?_) | refine Ev.el_mapN ?_ (fun hi => ?_)); rotate_left; conv => whnf) | ((with_reducible refine Ev.sd0 ?_); exact Ev.sd) | fail)
        · exact absurd (by assumption) he
        · exact ftakeR_bad (by rw [hF]; rfl)
      | ok p =>
        obtain ⟨x, k'⟩ := p
        have hW := wtake_ok (by omega) hw
        obtain ⟨w1, w2, w3, w4, w5⟩ := wTake_inv hw
        obtain ⟨k', rfl⟩ := Int.eq_ofNat_of_zero_le (show 0 ≤ k' by omega)
        rw [sg_step hw] at hg
        have hc3 := cut_from left k'
        rcases hsg with ⟨rfl, rfl, rfl⟩ | ⟨h0, u, rfl, rfl⟩
        · obtain rfl : done = [] := List.length_eq_zero_iff.1 hdn
          repeat' (first | ((with_reducible refine Ev.br0 ?_); (first | refine Ev.brp ?_ | refine Ev.brn ?_); conv => whnf) | ((with_reducible refine Ev.c0 ?_); first | refine Ev.cp ?_ | refine Ev.cn ?_) | (((with_reducible refine Ev.br_pos hiN ?_); conv => whnf)) | (with_reducible refine Ev.c_pos hiN ?_) | ((refine Ev.sw ?_); conv => whnf) | refine Ev.sn ?_ | ((with_reducible refine Ev.chk_k ?_ ?_); rotate_left; exact Ev.bt; conv => whnf) | ((with_reducible (refine Ev.RI.run ?_; constructor)) <;> intro _) | ((refine Ev.sg ?_); conv => whnf) | ((with_reducible refine Ev.sided ?_ ?_); conv => whnf) | ((with_reducible refine Ev.kr (hs := []) (fun Q hQ => ?_)); (simp only [Ev.runE_cons, Ev.runE_nil]); conv => whnf) | (with_reducible refine hQ _ ?_; clear hQ Q) | ((refine Ev.sf ?_); intro F hF; conv => whnf) | (with_reducible refine hF _ ?_; clear hF F) | ((with_reducible refine Ev.go_k (fun c' => ?_)); conv => whnf) | ((with_reducible refine Ev.ca0 ?_); (first | refine Ev.ca (hW) ?_); conv => whnf) | ((first | refine Ev.el_map0 ?_ (fun hi => ?_) | refine Ev.el_mapN ?_ (fun hi => ?_)); rotate_left; conv => whnf) | ((with_reducible refine Ev.sd0 ?_); exact Ev.sd) | fail)
          have hr2 : List.take 1 (List.drop 0 [[AV.lst 3 (sps x)]]) = rowsA ([] ++ [x]) := rfl
          (refine Ev.again (m) _ ?hm2 ?hs2 ?hh2 ?hc2 ⟨0 + 1, ?_, w, left.drop k', [] ++ [x], .own 9248 (c + 8) 0 (0 + 1), [(9248, ⟨1, 23, c + 8, 0, false, rowsA ([] ++ [x])⟩)], rfl, ?hp2⟩; (case hs2 | hh2 => ((repeat' (first | exact trivial | refine And.intro ?_ ?_)) <;> (first | exact Ev.se | (refine Ev.slot_eq rfl ?_; first | (first | exact congrArg (AV.lst 1) hc3 | exact wrap_succ (by omega) | exact congrArg (fun n => Blk.mk 1 23 _ 0 false n) hr2 | rfl) | ((first | refine Ev.int_eq ?_ | refine Ev.own_eq ?_ | refine Ev.blk_eq ?_); (first | exact congrArg (AV.lst 1) hc3 | exact wrap_succ (by omega) | exact congrArg (fun n => Blk.mk 1 23 _ 0 false n) hr2 | rfl))) | exact Ev.sr))); (case hc2 => exact Nat.le_refl _); (case hm2 => omega))
          exact ⟨.inr ⟨by omega, _, rfl, rfl⟩, rfl, by omega, by rw [List.length_drop]; omega, fun y hy => (by simp at hy; rw [hy]; exact w1), hg⟩
        · repeat' (first | ((with_reducible refine Ev.br0 ?_); (first | refine Ev.brp ?_ | refine Ev.brn ?_); conv => whnf) | ((with_reducible refine Ev.c0 ?_); first | refine Ev.cp ?_ | refine Ev.cn ?_) | (((with_reducible refine Ev.br_pos hiN ?_); conv => whnf)) | (with_reducible refine Ev.c_pos hiN ?_) | ((refine Ev.sw ?_); conv => whnf) | refine Ev.sn ?_ | ((with_reducible refine Ev.chk_k ?_ ?_); rotate_left; exact Ev.bt; conv => whnf) | ((with_reducible (refine Ev.RI.run ?_; constructor)) <;> intro _) | ((refine Ev.sg ?_); conv => whnf) | ((with_reducible refine Ev.sided ?_ ?_); conv => whnf) | ((with_reducible refine Ev.kr (hs := []) (fun Q hQ => ?_)); (simp only [Ev.runE_cons, Ev.runE_nil]); conv => whnf) | (with_reducible refine hQ _ ?_; clear hQ Q) | ((refine Ev.sf ?_); intro F hF; conv => whnf) | (with_reducible refine hF _ ?_; clear hF F) | ((with_reducible refine Ev.go_k (fun c' => ?_)); conv => whnf) | ((with_reducible refine Ev.ca0 ?_); (first | refine Ev.ca (hW) ?_); conv => whnf) | ((first | refine Ev.el_map0 ?_ (fun hi => ?_) | refine Ev.el_mapN ?_ (fun hi => ?_)); rotate_left; conv => whnf) | ((with_reducible refine Ev.sd0 ?_); exact Ev.sd) | fail)
          have hr2 : rowsA done ++ List.take 1 (List.drop 0 [[AV.lst 3 (sps x)]]) = rowsA (done ++ [x]) := by rw [rowsA_app]; rfl
          (refine Ev.again (m) _ ?hm3 ?hs3 ?hh3 ?hc3 ⟨i + 1, ?_, w, left.drop k', done ++ [x], .own 9248 (c + 8) 0 (i + 1), [(9248, ⟨1, 23, c + 8, 0, false, rowsA (done ++ [x])⟩)], rfl, ?hp3⟩; (case hs3 | hh3 => ((repeat' (first | exact trivial | refine And.intro ?_ ?_)) <;> (first | exact Ev.se | (refine Ev.slot_eq rfl ?_; first | (first | exact congrArg (AV.lst 1) hc3 | exact wrap_succ (by omega) | exact congrArg (fun n => Blk.mk 1 23 _ 0 false n) hr2 | rfl) | ((first | refine Ev.int_eq ?_ | refine Ev.own_eq ?_ | refine Ev.blk_eq ?_); (first | exact congrArg (AV.lst 1) hc3 | exact wrap_succ (by omega) | exact congrArg (fun n => Blk.mk 1 23 _ 0 false n) hr2 | rfl))) | exact Ev.sr))); (case hc3 => exact Nat.le_refl _); (case hm3 => omega))
          refine ⟨.inr ⟨by omega, _, rfl, rfl⟩, by simp [hdn], by omega, by rw [List.length_drop]; omega, fun y hy => ?_, hg⟩
          rcases List.mem_append.1 hy with hy | hy
          · exact hput y hy
          · simp at hy; rw [hy]; exact w1
theorem takeR_ok' {b : List UInt8} {f : FuncId} {l : List Sp} {k : Int} (hc : CallW env f [.lst 1 (bts b)] (TakeR b)) (h : wTake b = .ok (l, k)) : CallW env f [.lst 1 (bts b)] (fun r hs => r = .tup [.lst 3 (sps l), .v (.int .i64 k), .v (.int .i64 0)] ∧ hs = []) := by
  refine hc.res ?_
  rintro r hs ⟨⟨x, rfl, hx⟩, rfl⟩
  have h1 : wTakeE b = 0 := by unfold wTakeE; rw [h]
  have h2 : wTakeK b = k := by unfold wTakeK; rw [h]
  have h3 : wTakeL b = l := by unfold wTakeL; rw [h]
  rw [h3] at hx
  exact ⟨_, ⟨rfl, rfl⟩, by rw [h1, h2]; exact LeR.tup3 hx (LeR.refl _) (LeR.refl _)⟩
theorem takeR_no' {b : List UInt8} {f : FuncId} {e : Int} (hc : CallW env f [.lst 1 (bts b)] (TakeR b)) (h : wTake b = .error e) : CallW env f [.lst 1 (bts b)] (fun r hs => r = .tup [.lst 3 (sps []), .v (.int .i64 0), .v (.int .i64 e)] ∧ hs = []) := by
  refine hc.res ?_
  rintro r hs ⟨⟨x, rfl, hx⟩, rfl⟩
  have h1 : wTakeE b = e := by unfold wTakeE; rw [h]
  have h2 : wTakeK b = 0 := by unfold wTakeK; rw [h]
  have h3 : wTakeL b = [] := by unfold wTakeL; rw [h]
  rw [h3] at hx
  exact ⟨_, ⟨rfl, rfl⟩, by rw [h1, h2]; exact LeR.tup3 hx (LeR.refl _) (LeR.refl _)⟩
set_option maxHeartbeats 4000000 in
theorem rftake_core (b : List UInt8) : CallW env 45 [.lst 1 (bts b)] (FTakeR b) := by
  have hbl := bts_len b
  by_cases hb : 65536 < b.length
  · have h : fTake b = .error 4 := by unfold fTake; rw [if_pos hb]
    refine Ev.fn [0, 2, 3, 4, 5, 6, 7, 8, 9, 10, 11, 12, 13, 14, 17, 27, 41, 52, 64, 79, 83] 0 [.cell 2 27, .tmp 3] Tryd.func45 (comp45 _ rfl) ?_
    repeat' (first | ((with_reducible refine Ev.br0 ?_); (first | refine Ev.brp ?_ | refine Ev.brn ?_); conv => whnf) | ((with_reducible refine Ev.c0 ?_); first | refine Ev.cp ?_ | refine Ev.cn ?_) | ((refine Ev.sw ?_); conv => whnf) | refine Ev.sn ?_ | ((with_reducible refine Ev.chk_k ?_ ?_); rotate_left; exact Ev.bt; conv => whnf) | ((with_reducible (refine Ev.RI.run ?_; constructor)) <;> intro _) | ((refine Ev.sg ?_); conv => whnf) | ((with_reducible refine Ev.sided ?_ ?_); conv => whnf) | ((with_reducible refine Ev.kr (hs := []) (fun Q hQ => ?_)); (simp only [Ev.runE_cons, Ev.runE_nil]); conv => whnf) | (with_reducible refine hQ _ ?_; clear hQ Q) | ((refine Ev.sf ?_); intro F hF; conv => whnf) | (with_reducible refine hF _ ?_; clear hF F) | ((with_reducible refine Ev.go_k (fun c' => ?_)); conv => whnf) | ((first | refine Ev.el_map0 ?_ (fun hi => ?_) | refine Ev.el_mapN ?_ (fun hi => ?_)); rotate_left; conv => whnf) | ((with_reducible refine Ev.sd0 ?_); exact Ev.sd) | fail)
    · exact ftakeR_bad h
    · exfalso; omega
  cases hs : sTake b with
  | error e =>
    have h : fTake b = .error e := by unfold fTake; rw [if_neg hb, hs]
    have hS := rstake_call b (by omega)
    rw [sTakeA_bad hs] at hS
    have he : e ≠ 0 := by rcases sTake_bad hs with h | h <;> omega
    refine Ev.fn [0, 2, 3, 4, 5, 6, 7, 8, 9, 10, 11, 12, 13, 14, 17, 27, 41, 52, 64, 79, 83] 0 [.cell 2 27, .tmp 3] Tryd.func45 (comp45 _ rfl) ?_
    repeat' (first | ((with_reducible refine Ev.br0 ?_); (first | refine Ev.brp ?_ | refine Ev.brn ?_); conv => whnf) | ((with_reducible refine Ev.c0 ?_); first | refine Ev.cp ?_ | refine Ev.cn ?_) | ((refine Ev.sw ?_); conv => whnf) | refine Ev.sn ?_ | ((with_reducible refine Ev.chk_k ?_ ?_); rotate_left; exact Ev.bt; conv => whnf) | ((with_reducible (refine Ev.RI.run ?_; constructor)) <;> intro _) | ((refine Ev.sg ?_); conv => whnf) | ((with_reducible refine Ev.sided ?_ ?_); conv => whnf) | ((with_reducible refine Ev.kr (hs := []) (fun Q hQ => ?_)); (simp only [Ev.runE_cons, Ev.runE_nil]); conv => whnf) | (with_reducible refine hQ _ ?_; clear hQ Q) | ((refine Ev.sf ?_); intro F hF; conv => whnf) | (with_reducible refine hF _ ?_; clear hF F) | ((with_reducible refine Ev.go_k (fun c' => ?_)); conv => whnf) | ((with_reducible refine Ev.ca0 ?_); (first | refine Ev.ca (hS) ?_); conv => whnf) | ((first | refine Ev.el_map0 ?_ (fun hi => ?_) | refine Ev.el_mapN ?_ (fun hi => ?_)); rotate_left; conv => whnf) | ((with_reducible refine Ev.sd0 ?_); exact Ev.sd) | fail)
    · exfalso; omega
    · exact absurd (by assumption) he
    · exact ftakeR_bad h
  | ok p =>
    obtain ⟨t, n⟩ := p
    have hS := rstake_call b (by omega)
    rw [sTakeA_ok hs] at hS
    obtain ⟨s1, s2, s3, s4, s5⟩ := sTake_inv hs
    obtain ⟨n, rfl⟩ := Int.eq_ofNat_of_zero_le (show 0 ≤ n by omega)
    have hc := cut_from b n
    have hdl : (b.drop n).length = b.length - n := List.length_drop
    cases hr : rTake (b.drop n) with
    | error e =>
      have h : fTake b = .error e := by unfold fTake; rw [if_neg hb, hs]; simp only [Int.toNat_natCast]; rw [hr]
      have hR := rrtakerow_call (b.drop n) (by omega)
      rw [rTakeA_bad hr, ← hc] at hR
      have he : e ≠ 0 := by rcases rTake_bad hr with h | h <;> omega
      refine Ev.fn [0, 2, 3, 4, 5, 6, 7, 8, 9, 10, 11, 12, 13, 14, 17, 27, 41, 52, 64, 79, 83] 0 [.cell 2 27, .tmp 3] Tryd.func45 (comp45 _ rfl) ?_
      repeat' (first | ((with_reducible refine Ev.br0 ?_); (first | refine Ev.brp ?_ | refine Ev.brn ?_); conv => whnf) | ((with_reducible refine Ev.c0 ?_); first | refine Ev.cp ?_ | refine Ev.cn ?_) | ((refine Ev.sw ?_); conv => whnf) | refine Ev.sn ?_ | ((with_reducible refine Ev.chk_k ?_ ?_); rotate_left; exact Ev.bt; conv => whnf) | ((with_reducible (refine Ev.RI.run ?_; constructor)) <;> intro _) | ((refine Ev.sg ?_); conv => whnf) | ((with_reducible refine Ev.sided ?_ ?_); conv => whnf) | ((with_reducible refine Ev.kr (hs := []) (fun Q hQ => ?_)); (simp only [Ev.runE_cons, Ev.runE_nil]); conv => whnf) | (with_reducible refine hQ _ ?_; clear hQ Q) | ((refine Ev.sf ?_); intro F hF; conv => whnf) | (with_reducible refine hF _ ?_; clear hF F) | ((with_reducible refine Ev.go_k (fun c' => ?_)); conv => whnf) | ((with_reducible refine Ev.ca0 ?_); (first | refine Ev.ca (hS) ?_ | refine Ev.ca (hR) ?_); conv => whnf) | ((first | refine Ev.el_map0 ?_ (fun hi => ?_) | refine Ev.el_mapN ?_ (fun hi => ?_)); rotate_left; conv => whnf) | ((with_reducible refine Ev.sd0 ?_); exact Ev.sd) | fail)
      · exfalso; omega
      · exact absurd (by assumption) he
      · exact ftakeR_bad h
    | ok q =>
      obtain ⟨revs, k⟩ := q
      have hR := rrtakerow_call (b.drop n) (by omega)
      rw [rTakeA_ok hr, ← hc] at hR
      obtain ⟨r1, r2, r3, r4, r5⟩ := rTake_inv hr
      obtain ⟨k, rfl⟩ := Int.eq_ofNat_of_zero_le (show 0 ≤ k by omega)
      obtain ⟨v1, v2⟩ := rises_len r1
      have hil := ints_len revs
      have hF : fTake b = fTake2 t revs (sgTake (revs.length - 1) ((b.drop n).drop k)) := by
        unfold fTake; rw [if_neg hb, hs]; simp only [Int.toNat_natCast]; rw [hr]
        simp only [Int.toNat_natCast]
      obtain ⟨N, hN⟩ : ∃ N, revs.length = N + 1 := ⟨revs.length - 1, by omega⟩
      rw [hN, Nat.add_sub_cancel] at hF
      have hts := taken_small (n := n) (by omega : b.length ≤ 65536) hs
      refine Ev.fn [0, 2, 3, 4, 5, 6, 7, 8, 9, 10, 11, 12, 13, 14, 17, 27, 41, 52, 64, 79, 83] 0 [.cell 2 27, .tmp 3] Tryd.func45 (comp45 _ rfl) ?_
      repeat' (first | ((with_reducible refine Ev.br0 ?_); (first | refine Ev.brp ?_ | refine Ev.brn ?_); conv => whnf) | ((with_reducible refine Ev.c0 ?_); first | refine Ev.cp ?_ | refine Ev.cn ?_) | ((refine Ev.sw ?_); conv => whnf) | refine Ev.sn ?_ | ((with_reducible refine Ev.chk_k ?_ ?_); rotate_left; exact Ev.bt; conv => whnf) | ((with_reducible (refine Ev.RI.run ?_; constructor)) <;> intro _) | ((refine Ev.sg ?_); conv => whnf) | ((with_reducible refine Ev.sided ?_ ?_); conv => whnf) | ((with_reducible refine Ev.kr (hs := []) (fun Q hQ => ?_)); (simp only [Ev.runE_cons, Ev.runE_nil]); conv => whnf) | (with_reducible refine hQ _ ?_; clear hQ Q) | ((refine Ev.sf ?_); intro F hF; conv => whnf) | (with_reducible refine hF _ ?_; clear hF F) | ((with_reducible refine Ev.go_k (fun c' => ?_)); conv => whnf) | ((with_reducible refine Ev.ca0 ?_); (first | refine Ev.ca (hS) ?_ | refine Ev.ca (hR) ?_); conv => whnf) | ((first | refine Ev.el_map0 ?_ (fun hi => ?_) | refine Ev.el_mapN ?_ (fun hi => ?_)); rotate_left; conv => whnf) | ((with_reducible refine Ev.sd0 ?_); exact Ev.sd) | fail)
      · exfalso; omega
      refine Ev.loop (fun m s => ∃ (i c w at' : Nat) (done : List (List Sp)) (sg : AV) (hx : List (Nat × Blk)), s = ⟨[(0, .lst 1 (bts b)), (2, .ptr 0 0 0 0), (3, .v (.int .i64 0)), (4, .ptr 1544 w 0 0), (6, .v (.int .i64 at')), (8, .lst 1 (ints revs)), (11, .v (.int .i64 (i + 1)))],
          (1544, ⟨3, 27, w, 0, true, [[.v (.string t), .lst 1 (ints revs), sg]]⟩) :: (0, ⟨3, 27, 0, 0, true, [[.v (.string ⟨#[]⟩), nilA, nilA]]⟩) :: hx, c⟩ ∧
          ((i = 0 ∧ sg = nilA ∧ hx = []) ∨ (0 < i ∧ ∃ u, sg = .own 9760 u 0 i ∧ hx = [(9760, ⟨1, 23, u, 0, false, rowsA done⟩)])) ∧ done.length = i ∧ m + i = N ∧ at' ≤ b.length ∧ (∀ x ∈ done, wPutE x = 0) ∧ sgTake N ((b.drop n).drop k) = joinS done (sgTake m (b.drop at'))) ?_ ?_
      · (refine Ev.to _ ?hs4 ?hh4 ?hc4 ⟨N, 0, ?_, ?_, n + k, [], nilA, [], rfl, ?hp4⟩; (case hs4 | hh4 => ((repeat' (first | exact trivial | refine And.intro ?_ ?_)) <;> (first | exact Ev.se | (refine Ev.slot_eq rfl ?_; first | (first | rfl | (simp; omega)) | ((first | refine Ev.int_eq ?_ | refine Ev.own_eq ?_ | refine Ev.blk_eq ?_); (first | rfl | (simp; omega)))) | exact Ev.sr))); (case hc4 => exact Nat.le_refl _))
        exact ⟨.inl ⟨rfl, rfl, rfl⟩, rfl, by omega, by omega, fun x hx => by simp at hx, by rw [joinS_nil, List.drop_drop]⟩
      rintro m s1 ⟨i, c, w, at', done, sg, hx, rfl, hsg, hdn, hm, hll, hput, hg⟩
      have hda : (b.drop at').length = b.length - at' := List.length_drop
      have hrd := rowsA_len done
      by_cases hi : i = N
      · have hm0 : m = 0 := by omega
        subst hm0
        rw [sg_end] at hg
        rw [hg] at hF
        simp only [fTake2] at hF
        have hiN : ¬ (i : Int) + 1 < ((ints revs).length : Int) := by omega
        have hLS : LgS ⟨t, revs, done⟩ := by
          refine ⟨by show t.size ≤ _; omega, by show revs.length ≤ _; omega, by show done.length ≤ _; omega, fun x hx => ?_⟩
          have := put_small (hput x hx)
          exact ⟨by omega, this.2⟩
        rcases hsg with ⟨rfl, rfl, rfl⟩ | ⟨h0, u, rfl, rfl⟩
        · obtain rfl : done = [] := List.length_eq_zero_iff.1 hdn
          have hM := rmay_lg hLS (Le.nil 1)
          repeat' (first | ((with_reducible refine Ev.br0 ?_); (first | refine Ev.brp ?_ | refine Ev.brn ?_); conv => whnf) | ((with_reducible refine Ev.c0 ?_); first | refine Ev.cp ?_ | refine Ev.cn ?_) | (((with_reducible refine Ev.br_neg hiN ?_); conv => whnf)) | (with_reducible refine Ev.c_neg hiN ?_) | ((refine Ev.sw ?_); conv => whnf) | refine Ev.sn ?_ | ((with_reducible refine Ev.chk_k ?_ ?_); rotate_left; exact Ev.bt; conv => whnf) | ((with_reducible (refine Ev.RI.run ?_; constructor)) <;> intro _) | ((refine Ev.sg ?_); conv => whnf) | ((with_reducible refine Ev.sided ?_ ?_); conv => whnf) | ((with_reducible refine Ev.kr (hs := []) (fun Q hQ => ?_)); (simp only [Ev.runE_cons, Ev.runE_nil]); conv => whnf) | (with_reducible refine hQ _ ?_; clear hQ Q) | ((refine Ev.sf ?_); intro F hF; conv => whnf) | (with_reducible refine hF _ ?_; clear hF F) | ((with_reducible refine Ev.go_k (fun c' => ?_)); conv => whnf) | ((with_reducible refine Ev.ca0 ?_); (first | refine Ev.ca (hM) ?_); conv => whnf) | ((first | refine Ev.el_map0 ?_ (fun hi => ?_) | refine Ev.el_mapN ?_ (fun hi => ?_)); rotate_left; conv => whnf) | ((with_reducible refine Ev.sd0 ?_); exact Ev.sd) | fail)
          · rename_i h9
            exact ftakeR_bad (by rw [hF, if_pos (fun e => by rw [e] at hda; simp at hda; omega)])
          · rename_i h0 hc0
            exact ftakeR_ok (c := ⟨t, revs, []⟩) (by rw [hF, if_neg (by simp; omega), if_neg (by simp [hc0])]) (LeR.agg3 (LeR.refl _) (LeR.refl _) (LeR.nil 1))
          · rename_i h0 hc0
            exact ftakeR_bad (by rw [hF, if_neg (by simp; omega), if_pos hc0])
        · have htk : List.take i (List.drop 0 (rowsA done)) = rowsA done := by rw [List.drop_zero, List.take_of_length_le (by omega)]
          have hM := rmay_lg hLS (Le.refl _)
          rw [← htk] at hM
          repeat' (first | ((with_reducible refine Ev.br0 ?_); (first | refine Ev.brp ?_ | refine Ev.brn ?_); conv => whnf) | ((with_reducible refine Ev.c0 ?_); first | refine Ev.cp ?_ | refine Ev.cn ?_) | (((with_reducible refine Ev.br_neg hiN ?_); conv => whnf)) | (with_reducible refine Ev.c_neg hiN ?_) | ((refine Ev.sw ?_); conv => whnf) | refine Ev.sn ?_ | ((with_reducible refine Ev.chk_k ?_ ?_); rotate_left; exact Ev.bt; conv => whnf) | ((with_reducible (refine Ev.RI.run ?_; constructor)) <;> intro _) | ((refine Ev.sg ?_); conv => whnf) | ((with_reducible refine Ev.sided ?_ ?_); conv => whnf) | ((with_reducible refine Ev.kr (hs := []) (fun Q hQ => ?_)); (simp only [Ev.runE_cons, Ev.runE_nil]); conv => whnf) | (with_reducible refine hQ _ ?_; clear hQ Q) | ((refine Ev.sf ?_); intro F hF; conv => whnf) | (with_reducible refine hF _ ?_; clear hF F) | ((with_reducible refine Ev.go_k (fun c' => ?_)); conv => whnf) | ((with_reducible refine Ev.ca0 ?_); (first | refine Ev.ca (hM) ?_); conv => whnf) | ((first | refine Ev.el_map0 ?_ (fun hi => ?_) | refine Ev.el_mapN ?_ (fun hi => ?_)); rotate_left; conv => whnf) | ((with_reducible refine Ev.sd0 ?_); exact Ev.sd) | fail)
          · rename_i h9
            exact ftakeR_bad (by rw [hF, if_pos (fun e => by rw [e] at hda; simp at hda; omega)])
          · rename_i h00 hc0
            exact ftakeR_ok (by rw [hF, if_neg (by simp; omega), if_neg (by simp [hc0])]) (by rw [htk]; exact LeR.refl _)
          · rename_i h00 hc0
            exact ftakeR_bad (by rw [hF, if_neg (by simp; omega), if_pos hc0])
      have hiN : (i : Int) + 1 < ((ints revs).length : Int) := by omega
      obtain ⟨m, rfl⟩ : ∃ m', m = m' + 1 := ⟨m - 1, by omega⟩
      have hc3 := cut_from b at'
      cases hw : wTake (b.drop at') with
      | error e =>
        have hW := takeR_no' (rwtake_core (b.drop at') (by omega)) hw
        rw [← hc3] at hW
        have he : e ≠ 0 := by rcases wTake_bad hw with h | h <;> omega
        rw [sg_bad hw] at hg
        rw [hg] at hF
        repeat' (first | ((with_reducible refine Ev.br0 ?_); (first | refine Ev.brp ?_ | refine Ev.brn ?_); conv => whnf) | ((with_reducible refine Ev.c0 ?_); first | refine Ev.cp ?_ | refine Ev.cn ?_) | (((with_reducible refine Ev.br_pos hiN ?_); conv => whnf)) | (with_reducible refine Ev.c_pos hiN ?_) | ((refine Ev.sw ?_); conv => whnf) | refine Ev.sn ?_ | ((with_reducible refine Ev.chk_k ?_ ?_); rotate_left; exact Ev.bt; conv => whnf) | ((with_reducible (refine Ev.RI.run ?_; constructor)) <;> intro _) | ((refine Ev.sg ?_); conv => whnf) | ((with_reducible refine Ev.sided ?_ ?_); conv => whnf) | ((with_reducible refine Ev.kr (hs := []) (fun Q hQ => ?_)); (simp only [Ev.runE_cons, Ev.runE_nil]); conv => whnf) | (with_reducible refine hQ _ ?_; clear hQ Q) | ((refine Ev.sf ?_); intro F hF; conv => whnf) | (with_reducible refine hF _ ?_; clear hF F) | ((with_reducible refine Ev.go_k (fun c' => ?_)); conv => whnf) | ((with_reducible refine Ev.ca0 ?_); (first | refine Ev.ca (hW) ?_); conv => whnf) | ((first | refine Ev.el_map0 ?_ (fun hi => ?_) | refine Ev.el_mapN ?_ (fun hi => ?_)); rotate_left; conv => whnf) | ((with_reducible refine Ev.sd0 ?_); exact Ev.sd) | fail)
        · exact absurd (by assumption) he
        · exact ftakeR_bad (by rw [hF]; rfl)
      | ok p =>
        obtain ⟨x, k'⟩ := p
        have hW := takeR_ok' (rwtake_core (b.drop at') (by omega)) hw
        rw [← hc3] at hW
        obtain ⟨w1, w2, w3, w4, w5⟩ := wTake_inv hw
        obtain ⟨k', rfl⟩ := Int.eq_ofNat_of_zero_le (show 0 ≤ k' by omega)
        rw [sg_step hw, Int.toNat_natCast] at hg
        rcases hsg with ⟨rfl, rfl, rfl⟩ | ⟨h0, u, rfl, rfl⟩
        · obtain rfl : done = [] := List.length_eq_zero_iff.1 hdn
          repeat' (first | ((with_reducible refine Ev.br0 ?_); (first | refine Ev.brp ?_ | refine Ev.brn ?_); conv => whnf) | ((with_reducible refine Ev.c0 ?_); first | refine Ev.cp ?_ | refine Ev.cn ?_) | (((with_reducible refine Ev.br_pos hiN ?_); conv => whnf)) | (with_reducible refine Ev.c_pos hiN ?_) | ((refine Ev.sw ?_); conv => whnf) | refine Ev.sn ?_ | ((with_reducible refine Ev.chk_k ?_ ?_); rotate_left; exact Ev.bt; conv => whnf) | ((with_reducible (refine Ev.RI.run ?_; constructor)) <;> intro _) | ((refine Ev.sg ?_); conv => whnf) | ((with_reducible refine Ev.sided ?_ ?_); conv => whnf) | ((with_reducible refine Ev.kr (hs := []) (fun Q hQ => ?_)); (simp only [Ev.runE_cons, Ev.runE_nil]); conv => whnf) | (with_reducible refine hQ _ ?_; clear hQ Q) | ((refine Ev.sf ?_); intro F hF; conv => whnf) | (with_reducible refine hF _ ?_; clear hF F) | ((with_reducible refine Ev.go_k (fun c' => ?_)); conv => whnf) | ((with_reducible refine Ev.ca0 ?_); (first | refine Ev.ca (hW) ?_); conv => whnf) | ((first | refine Ev.el_map0 ?_ (fun hi => ?_) | refine Ev.el_mapN ?_ (fun hi => ?_)); rotate_left; conv => whnf) | ((with_reducible refine Ev.sd0 ?_); exact Ev.sd) | fail)
          have hr2 : List.take 1 (List.drop 0 [[AV.lst 3 (sps x)]]) = rowsA ([] ++ [x]) := rfl
          (refine Ev.again (m) _ ?hm5 ?hs5 ?hh5 ?hc5 ⟨0 + 1, ?_, w, at' + k', [] ++ [x], .own 9760 (c + 8) 0 (0 + 1), [(9760, ⟨1, 23, c + 8, 0, false, rowsA ([] ++ [x])⟩)], rfl, ?hp5⟩; (case hs5 | hh5 => ((repeat' (first | exact trivial | refine And.intro ?_ ?_)) <;> (first | exact Ev.se | (refine Ev.slot_eq rfl ?_; first | (first | exact congrArg (fun n => Blk.mk 1 23 _ 0 false n) hr2 | rfl) | ((first | refine Ev.int_eq ?_ | refine Ev.own_eq ?_ | refine Ev.blk_eq ?_); (first | exact congrArg (fun n => Blk.mk 1 23 _ 0 false n) hr2 | rfl))) | exact Ev.sr))); (case hc5 => exact Nat.le_refl _); (case hm5 => omega))
          exact ⟨.inr ⟨by omega, _, rfl, rfl⟩, rfl, by omega, by omega, fun y hy => (by simp at hy; rw [hy]; exact w1), by rw [← List.drop_drop]; exact hg⟩
        · repeat' (first | ((with_reducible refine Ev.br0 ?_); (first | refine Ev.brp ?_ | refine Ev.brn ?_); conv => whnf) | ((with_reducible refine Ev.c0 ?_); first | refine Ev.cp ?_ | refine Ev.cn ?_) | (((with_reducible refine Ev.br_pos hiN ?_); conv => whnf)) | (with_reducible refine Ev.c_pos hiN ?_) | ((refine Ev.sw ?_); conv => whnf) | refine Ev.sn ?_ | ((with_reducible refine Ev.chk_k ?_ ?_); rotate_left; exact Ev.bt; conv => whnf) | ((with_reducible (refine Ev.RI.run ?_; constructor)) <;> intro _) | ((refine Ev.sg ?_); conv => whnf) | ((with_reducible refine Ev.sided ?_ ?_); conv => whnf) | ((with_reducible refine Ev.kr (hs := []) (fun Q hQ => ?_)); (simp only [Ev.runE_cons, Ev.runE_nil]); conv => whnf) | (with_reducible refine hQ _ ?_; clear hQ Q) | ((refine Ev.sf ?_); intro F hF; conv => whnf) | (with_reducible refine hF _ ?_; clear hF F) | ((with_reducible refine Ev.go_k (fun c' => ?_)); conv => whnf) | ((with_reducible refine Ev.ca0 ?_); (first | refine Ev.ca (hW) ?_); conv => whnf) | ((first | refine Ev.el_map0 ?_ (fun hi => ?_) | refine Ev.el_mapN ?_ (fun hi => ?_)); rotate_left; conv => whnf) | ((with_reducible refine Ev.sd0 ?_); exact Ev.sd) | fail)
          have hr2 : rowsA done ++ List.take 1 (List.drop 0 [[AV.lst 3 (sps x)]]) = rowsA (done ++ [x]) := by rw [rowsA_app]; rfl
          (refine Ev.again (m) _ ?hm6 ?hs6 ?hh6 ?hc6 ⟨i + 1, ?_, w, at' + k', done ++ [x], .own 9760 (c + 8) 0 (i + 1), [(9760, ⟨1, 23, c + 8, 0, false, rowsA (done ++ [x])⟩)], rfl, ?hp6⟩; (case hs6 | hh6 => ((repeat' (first | exact trivial | refine And.intro ?_ ?_)) <;> (first | exact Ev.se | (refine Ev.slot_eq rfl ?_; first | (first | exact congrArg (fun n => Blk.mk 1 23 _ 0 false n) hr2 | rfl) | ((first | refine Ev.int_eq ?_ | refine Ev.own_eq ?_ | refine Ev.blk_eq ?_); (first | exact congrArg (fun n => Blk.mk 1 23 _ 0 false n) hr2 | rfl))) | exact Ev.sr))); (case hc6 => exact Nat.le_refl _); (case hm6 => omega))
          refine ⟨.inr ⟨by omega, _, rfl, rfl⟩, by simp [hdn], by omega, by omega, fun y hy => ?_, by rw [← List.drop_drop]; exact hg⟩
          rcases List.mem_append.1 hy with hy | hy
          · exact hput y hy
          · simp at hy; rw [hy]; exact w1
theorem ftake_call (b : List UInt8) : CallW env 43 [.lst 1 (bts b)] (fun r hs => r = .tup [lgA (fTakeC b), .v (.int .i64 (fTakeE b))] ∧ hs = []) :=
  (ftake_core b).res (fun r hs h => ⟨_, ⟨rfl, h.2⟩, h.1⟩)
theorem rftake_call (b : List UInt8) : CallW env 45 [.lst 1 (bts b)] (fun r hs => r = .tup [lgA (fTakeC b), .v (.int .i64 (fTakeE b))] ∧ hs = []) :=
  (rftake_core b).res (fun r hs h => ⟨_, ⟨rfl, h.2⟩, h.1⟩)
end Go.Proofs.YtadlnaljicikfaaDoor.Abs

namespace Go.Proofs.YtadlnaljicikfaaDoor.Abs
open Go
set_option maxRecDepth 100000
set_option linter.unusedSimpArgs false
set_option linter.unusedVariables false
attribute [local irreducible] Ev.Unr Ev.Go' Ev.bytK Ev.runK Ev.FinL Ev.brC Ev.Side Ev.Wp Ev.Again Ev.To Ev.Fin
open Go.Lib Go.RowKit
end Go.Proofs.YtadlnaljicikfaaDoor.Abs

namespace Go.Proofs.YtadlnaljicikfaaDoor.Abs
open Go
set_option maxRecDepth 100000
set_option linter.unusedSimpArgs false
set_option linter.unusedVariables false
attribute [local irreducible] Ev.Unr Ev.Go' Ev.bytK Ev.runK Ev.FinL Ev.brC Ev.Side Ev.Wp Ev.Again Ev.To Ev.Fin
open Go.Lib Go.RowKit
theorem comp76 : ∀ c, Tryd.f76.body = some c → comp c = (.seq (.reg 0 [I.n 0 4 (I.sb false)]) (.seq (.seq (.reg 1 [I.n 0 6 (I.mv 0), I.n 1 7 (I.ln 6 25), I.n 2 8 (I.mv 1), I.n 3 9 (I.ln 8 25), I.n 4 10 (I.bo .neq 3 7 9 3)]) (.cond (.tmp 10) (.seq (.reg 2 [I.n 0 4 (I.sb false)]) .ret) .skip)) (.seq (.seq (.reg 3 [I.n 0 5 (I.si 0)]) (.block 0 (.loop (.seq (.seq (.reg 4 [I.n 0 11 (I.mv 5), I.n 1 12 (I.mv 0), I.n 2 13 (I.ln 12 25), I.n 3 14 (I.bo .lss 3 11 13 3)]) (.cond (.tmp 14) .skip (.exit 0))) (.seq (.block 1 (.seq (.draw 6 [I.n 0 17 (I.mv 0), I.n 1 18 (I.mv 5), I.n 2 19 (I.ia 25 17 18), I.n 3 20 (I.ld 3 19), I.n 4 21 (I.mv 1), I.n 5 22 (I.mv 5), I.n 6 23 (I.ia 25 21 22), I.n 7 24 (I.ld 3 23), I.n 8 25 (I.bo .neq 3 20 24 3)] [[], [], [0, 1], [2], [], [], [4, 5], [6], [3, 7]]) (.cond (.tmp 25) (.seq (.reg 7 [I.n 0 4 (I.sb false)]) .ret) .skip))) (.reg 5 [I.n 0 15 (I.mv 5), I.n 1 16 (I.bc .add 3 15 1 3), I.n 2 5 (I.sa 16)])))))) (.seq (.reg 8 [I.n 0 4 (I.sb true)]) .ret)))) := by
  intro c h
  have : c = Tryd.f76.body.get rfl := by rw [← Option.some_inj, ← h]; rfl
  rw [this]; rfl
theorem samerow_call (l m : List Int) (hl : l.length ≤ 1000000000) : CallW env 76 [.lst 1 (ints l), .lst 1 (ints m)] (fun r hs => r = .v (.bool (decide (l = m))) ∧ hs = []) := by
  have hsl := ints_len l
  have hsm := ints_len m
  refine Ev.fn [0, 1, 4, 5, 10, 14, 25] 0 [.tmp 4] Tryd.func76 (comp76 _ rfl) ?_
  repeat' (first | ((refine Ev.sw ?_); conv => whnf) | refine Ev.sn ?_ | ((with_reducible refine Ev.chk_k ?_ ?_); rotate_left; exact Ev.bt; conv => whnf) | ((with_reducible (refine Ev.RI.run ?_; constructor)) <;> intro _) | ((refine Ev.sg ?_); conv => whnf) | ((with_reducible refine Ev.sided ?_ ?_); conv => whnf) | ((with_reducible refine Ev.kr (hs := []) (fun Q hQ => ?_)); (simp only [Ev.runE_cons, Ev.runE_nil]); conv => whnf) | (with_reducible refine hQ _ ?_; clear hQ Q) | ((refine Ev.sf ?_); intro F hF; conv => whnf) | (with_reducible refine hF _ ?_; clear hF F) | ((with_reducible refine Ev.go_k (fun c' => ?_)); conv => whnf) | ((with_reducible refine Ev.dr0 ?_); (first | refine Ev.dr 6 [] [0, 1, 2, 3, 4, 5, 6, 7, 8] ?_); intro Q hQ; (simp only [Ev.runE_cons, Ev.runE_nil]); conv => whnf) | ((first | refine Ev.el_map0 ?_ (fun hi => ?_) | refine Ev.el_mapN ?_ (fun hi => ?_)); rotate_left; conv => whnf) | ((with_reducible refine Ev.sd0 ?_); exact Ev.sd) | fail)
  rotate_left
  · exact ⟨congrArg (fun b => AV.v (Value.bool b)) (decide_eq_false (by rintro rfl; omega)).symm, rfl⟩
  have hlen : l.length = m.length := by omega
  refine Ev.loop (fun k s => ∃ i : Nat, s = ⟨[(0, .lst 1 (ints l)), (1, .lst 1 (ints m)), (4, .v (.bool false)), (5, .v (.int .i64 i))], [], 0⟩ ∧ k + i = l.length ∧ l.take i = m.take i) ?_ ?_
  · exact Ev.to ⟨[(0, _), (1, _), (4, _), (5, .v (.int .i64 ((0 : Nat) : Int)))], [], 0⟩ ⟨rfl, rfl, rfl, rfl, trivial⟩ trivial (Nat.le_refl _) ⟨l.length, 0, rfl, by omega, rfl⟩
  rintro k s1 ⟨i, rfl, hk, hf⟩
  repeat' (first | ((refine Ev.sw ?_); conv => whnf) | refine Ev.sn ?_ | ((with_reducible refine Ev.chk_k ?_ ?_); rotate_left; exact Ev.bt; conv => whnf) | ((with_reducible (refine Ev.RI.run ?_; constructor)) <;> intro _) | ((refine Ev.sg ?_); conv => whnf) | ((with_reducible refine Ev.sided ?_ ?_); conv => whnf) | ((with_reducible refine Ev.kr (hs := []) (fun Q hQ => ?_)); (simp only [Ev.runE_cons, Ev.runE_nil]); conv => whnf) | (with_reducible refine hQ _ ?_; clear hQ Q) | ((refine Ev.sf ?_); intro F hF; conv => whnf) | (with_reducible refine hF _ ?_; clear hF F) | ((with_reducible refine Ev.go_k (fun c' => ?_)); conv => whnf) | ((with_reducible refine Ev.dr0 ?_); (first | refine Ev.dr 6 [] [0, 1, 2, 3, 4, 5, 6, 7, 8] ?_); intro Q hQ; (simp only [Ev.runE_cons, Ev.runE_nil]); conv => whnf) | ((first | refine Ev.el_map0 ?_ (fun hi => ?_) | refine Ev.el_mapN ?_ (fun hi => ?_)); rotate_left; conv => whnf) | ((with_reducible refine Ev.sd0 ?_); exact Ev.sd) | fail)
  · rename_i heq
    have hm' : i < m.length := by omega
    exact Ev.again (k - 1) ⟨[(0, _), (1, _), (4, _), (5, .v (.int .i64 ((i + 1 : Nat) : Int)))], [], 0⟩ (by omega) ⟨rfl, rfl, rfl, Ev.slot_int rfl (by rw [Ev.wrap64]; omega), trivial⟩ trivial (Nat.le_refl _) ⟨i + 1, rfl, by omega, by
      rw [List.take_succ_eq_append_getElem (by omega), List.take_succ_eq_append_getElem hm', hf, heq]⟩
  · rename_i hne
    exact ⟨congrArg (fun b => AV.v (Value.bool b)) (decide_eq_false (by rintro rfl; simp at hne)).symm, rfl⟩
  · have : i = l.length := by omega
    subst this
    rw [List.take_of_length_le (Nat.le_refl _), List.take_of_length_le (by omega)] at hf
    exact ⟨congrArg (fun b => AV.v (Value.bool b)) (decide_eq_true hf).symm, rfl⟩
end Go.Proofs.YtadlnaljicikfaaDoor.Abs

namespace Go.Proofs.YtadlnaljicikfaaDoor.Abs
open Go
set_option maxRecDepth 100000
set_option linter.unusedSimpArgs false
set_option linter.unusedVariables false
attribute [local irreducible] Ev.Unr Ev.Go' Ev.bytK Ev.runK Ev.FinL Ev.brC Ev.Side Ev.Wp Ev.Again Ev.To Ev.Fin
open Go.Lib Go.RowKit
theorem comp41 : ∀ c, Tryd.f41.body = some c → comp c = (.seq (.reg 0 [I.n 0 1 (.box 27 (.tmp 0)), I.n 1 2 (.alloc 27)]) (.seq (.draw 1 [I.n 0 8 (I.fa 27 1 0), I.n 1 9 (I.ld 9 8), I.n 2 10 (I.fa 27 1 0), I.n 3 11 (I.ld 9 10), I.n 4 12 (I.ln 11 9), I.n 5 13 (.call { callee := .builtin .min, args := #[.tmp 12, .const (Value.int .i64 60)], argTypes := #[3, 3] }), I.n 6 14 (.slice 9 (.tmp 9) none (some (.tmp 13)) none), I.n 7 15 (I.fa 27 1 1), I.n 8 16 (I.ld 25 15), I.n 9 17 (I.fa 27 1 1), I.n 10 18 (I.ld 25 17), I.n 11 19 (I.ln 18 25), I.n 12 20 (.call { callee := .builtin .min, args := #[.tmp 19, .const (Value.int .i64 9)], argTypes := #[3, 3] }), I.n 13 21 (.slice 25 (.tmp 16) none (some (.tmp 20)) none), I.n 14 22 (.build 27 #[(0, .tmp 14), (1, .tmp 21)]), I.n 15 3 (.alloc 27), I.u 16 (I.st 27 3 22)] [[], [0], [], [2], [3], [4], [1, 5], [], [7], [], [9], [10], [11], [8, 12], [6, 13], [], [15, 14, 0, 1, 2, 3, 4, 5, 6, 7, 8, 9, 10, 11, 12, 13, 14, 15]]) (.seq (.seq (.reg 2 [I.n 0 4 (I.si 0)]) (.block 0 (.loop (.seq (.seq (.reg 3 [I.n 0 23 (I.mv 4), I.n 1 24 (I.fa 27 1 2), I.n 2 25 (I.ld 22 24), I.n 3 26 (I.ln 25 22), I.n 4 27 (I.bo .lss 3 23 26 3), I.n 5 28 (I.mv 27), I.w 6 29 (I.mv 4) 28 true, I.w 7 30 (I.bc .lss 3 29 8 3) 28 true, I.n 8 31 (I.pc 28 30 false)]) (.cond (.tmp 31) .skip (.exit 0))) (.seq (.block 1 (.seq (.reg 5 [I.n 0 34 (.buildSlice 23 0 #[]), I.n 1 5 (I.sa 34)]) (.seq (.seq (.reg 6 [I.n 0 6 (I.si 0)]) (.block 2 (.loop (.seq (.seq (.reg 7 [I.n 0 35 (I.mv 6), I.n 1 36 (I.fa 27 1 2), I.n 2 37 (I.ld 22 36), I.n 3 38 (I.mv 4), I.n 4 39 (I.ia 22 37 38), I.n 5 40 (I.ld 23 39), I.n 6 41 (I.ln 40 23), I.n 7 42 (I.bo .lss 3 35 41 3), I.n 8 43 (I.mv 42), I.w 9 44 (I.mv 6) 43 true, I.w 10 45 (I.bc .lss 3 44 20 3) 43 true, I.n 11 46 (I.pc 43 45 false)]) (.cond (.tmp 46) .skip (.exit 2))) (.seq (.block 3 (.seq (.reg 9 [I.n 0 49 (I.fa 27 1 2), I.n 1 50 (I.ld 22 49), I.n 2 51 (I.mv 4), I.n 3 52 (I.ia 22 50 51), I.n 4 53 (I.ld 23 52), I.n 5 54 (I.mv 6), I.n 6 55 (I.ia 23 53 54), I.n 7 56 (I.ld 35 55), I.n 8 7 (.alloc 35), I.u 9 (I.st 35 7 56)]) (.seq (.reg 10 [I.n 0 57 (I.fa 35 7 2), I.n 1 58 (I.ld 9 57), I.n 2 59 (I.fa 35 7 2), I.n 3 60 (I.ld 9 59), I.n 4 61 (I.ln 60 9), I.n 5 62 (.call { callee := .builtin .min, args := #[.tmp 61, .const (Value.int .i64 60)], argTypes := #[3, 3] }), I.n 6 63 (.slice 9 (.tmp 58) none (some (.tmp 62)) none), I.n 7 64 (I.fa 35 7 2), I.u 8 (I.st 9 64 63)]) (.reg 11 [I.n 0 65 (I.mv 5), I.n 1 66 (I.ld 35 7), I.n 2 67 (I.b1 23 66), I.n 3 68 (I.ap 65 67 23 23), I.n 4 5 (I.sa 68)])))) (.reg 8 [I.n 0 47 (I.mv 6), I.n 1 48 (I.bc .add 3 47 1 3), I.n 2 6 (I.sa 48)])))))) (.reg 12 [I.n 0 69 (I.fa 27 3 2), I.n 1 70 (I.ld 22 69), I.n 2 71 (I.mv 5), I.n 3 72 (I.b1 22 71), I.n 4 73 (I.ap 70 72 22 22), I.n 5 74 (I.fa 27 3 2), I.u 6 (I.st 22 74 73)])))) (.reg 4 [I.n 0 32 (I.mv 4), I.n 1 33 (I.bc .add 3 32 1 3), I.n 2 4 (I.sa 33)])))))) (.seq (.reg 13 [I.n 0 75 (I.ld 27 3), I.u 1 (I.st 27 2 75)]) .ret)))) := by
  intro c h
  have : c = Tryd.f41.body.get rfl := by rw [← Option.some_inj, ← h]; rfl
  rw [this]; rfl
def fewS (x : List Sp) : List Sp := (x.take 20).map (cutS 60)
def fewC (c : Lg) : Lg := ⟨c.base.extract 0 (min c.base.size 60), c.revs.take 9, (c.segs.take 8).map fewS⟩
theorem fewC_small (c : Lg) : LgS (fewC c) ∧ (fewC c).base.size + totb (fewC c).segs ≤ 100000 := by
  have h1 : (fewC c).base.size ≤ 60 := by show (c.base.extract 0 (min c.base.size 60)).size ≤ 60; rw [ByteArray.size_extract]; omega
  have h2 : (fewC c).revs.length ≤ 9 := by show (c.revs.take 9).length ≤ 9; rw [List.length_take]; omega
  have h3 : (fewC c).segs.length ≤ 8 := by show ((c.segs.take 8).map fewS).length ≤ 8; rw [List.length_map, List.length_take]; omega
  have htb : ∀ W : List (List Sp), totb (W.map fewS) ≤ 1200 * W.length := by
    intro W
    induction W with
    | nil => simp [totb]
    | cons x W ih =>
      have h1 : tbs (fewS x) ≤ 1200 := few_tbs x
      rw [List.map_cons, totb_cons, List.length_cons, Nat.mul_succ]; omega
  have h4 : totb (fewC c).segs ≤ 9600 := by
    have := htb (c.segs.take 8)
    have h5 : (c.segs.take 8).length ≤ 8 := by rw [List.length_take]; omega
    show totb ((c.segs.take 8).map fewS) ≤ _; omega
  refine ⟨⟨by omega, by omega, by omega, fun x hx => ?_⟩, by omega⟩
  obtain ⟨y, _, rfl⟩ := List.mem_map.1 hx
  exact ⟨by have := few_len y; show ((y.take 20).map (cutS 60)).length ≤ _; omega, few_small y⟩
set_option maxHeartbeats 8000000 in
theorem few21_core (c : Lg) : CallW env 41 [lgA c] (fun r hs => LeR r (lgA (fewC c)) ∧ hs = []) := by
  have hrl := rowsA_len c.segs
  have hil := ints_len c.revs
  have hx : (min (c.base.size : Int) 60).toNat = min c.base.size 60 := by omega
  refine Ev.fn [0, 1, 2, 3, 4, 5, 6, 7, 31, 46] 0 [.cell 2 27] Tryd.func41 (comp41 _ rfl) ?_
  repeat' (first | ((with_reducible refine Ev.br0 ?_); (first | refine Ev.brp ?_ | refine Ev.brn ?_); conv => whnf) | ((with_reducible refine Ev.c0 ?_); first | refine Ev.cp ?_ | refine Ev.cn ?_) | ((refine Ev.sw ?_); conv => whnf) | refine Ev.sn ?_ | ((with_reducible refine Ev.chk_k ?_ ?_); rotate_left; exact Ev.bt; conv => whnf) | ((with_reducible (refine Ev.RI.run ?_; constructor)) <;> intro _) | ((refine Ev.sg ?_); conv => whnf) | ((with_reducible refine Ev.sided ?_ ?_); conv => whnf) | ((with_reducible refine Ev.kr (hs := []) (fun Q hQ => ?_)); (simp only [Ev.runE_cons, Ev.runE_nil]); conv => whnf) | (with_reducible refine hQ _ ?_; clear hQ Q) | ((refine Ev.sf ?_); intro F hF; conv => whnf) | (with_reducible refine hF _ ?_; clear hF F) | ((with_reducible refine Ev.go_k (fun c' => ?_)); conv => whnf) | ((with_reducible refine Ev.dr0 ?_); (first | refine Ev.drv 1 [] [(0, false), (1, false), (2, false), (3, false), (4, false), (5, true), (6, true), (7, false), (8, false), (9, false), (10, false), (11, false), (12, true), (13, true), (14, true), (15, false), (16, false)] ?_); intro Q hQ; (simp only [Ev.runV_consF, Ev.runV_consT, Ev.runV_nil]); conv => whnf) | ((first | refine Ev.el_map0 ?_ (fun hi => ?_) | refine Ev.el_mapN ?_ (fun hi => ?_)); rotate_left; conv => whnf) | ((with_reducible refine Ev.sd0 ?_); exact Ev.sd) | fail)
  have e9 : List.take ((min ((ints c.revs).length : Int) 9).toNat - 0) (List.drop 0 (ints c.revs)) = ints (c.revs.take 9) := by
    rw [List.drop_zero, hil]
    have : (min (c.revs.length : Int) 9).toNat - 0 = min c.revs.length 9 := by omega
    rw [this]
    rcases Nat.le_total c.revs.length 9 with h | h
    · rw [Nat.min_eq_left h, List.take_of_length_le (by omega), List.take_of_length_le h]
    · rw [Nat.min_eq_right h]; simp [ints, List.map_take]
  obtain ⟨B, hB⟩ : ∃ B, c.base.extract 0 (min (c.base.size : Int) 60).toNat = B := ⟨_, rfl⟩
  have hB2 : (fewC c).base = B := by rw [← hB, hx]; rfl
  refine Ev.loop (fun k s => ∃ (i m w b : Nat) (sg : AV) (hz : List (Nat × Blk)), s = ⟨[(1, .ptr 0 0 0 0), (2, .ptr 8 b 0 0), (3, .ptr 632 w 0 0), (4, .v (.int .i64 i))],
      (632, ⟨3, 27, w, 0, true, [[.v (.string B), .lst 1 (ints (c.revs.take 9)), sg]]⟩) :: (8, ⟨3, 27, b, 0, true, [[.v (.string ⟨#[]⟩), nilA, nilA]]⟩) :: (0, ⟨3, 27, 0, 0, true, [[.v (.string c.base), .lst 1 (ints c.revs), .lst 1 (rowsA c.segs)]]⟩) :: hz, m⟩ ∧
      ((i = 0 ∧ sg = nilA ∧ hz = []) ∨ (0 < i ∧ ∃ u, sg = .own 6176 u 0 i ∧ hz = [(6176, ⟨1, 23, u, 0, false, rowsA ((c.segs.take i).map fewS)⟩)])) ∧ k + i = 8 ∧ i ≤ c.segs.length) ?_ ?_
  · have hb1 : [[AV.v (.string (c.base.extract 0 (min (c.base.size : Int) 60).toNat)), AV.lst 1 (List.take ((min ((ints c.revs).length : Int) 9).toNat - 0) (List.drop 0 (ints c.revs))), nilA]] = [[AV.v (.string B), AV.lst 1 (ints (c.revs.take 9)), nilA]] := by rw [hB, e9]
    (refine Ev.to _ ?hs10 ?hh10 ?hc10 ⟨8, 0, ?_, ?_, ?_, nilA, [], rfl, ?hp10⟩; (case hs10 | hh10 => ((repeat' (first | exact trivial | refine And.intro ?_ ?_)) <;> (first | exact Ev.se | (refine Ev.slot_eq rfl ?_; first | (first | (exact congrArg (fun n => Blk.mk 3 27 _ 0 true n) hb1) | rfl | (simp; done)) | ((first | refine Ev.int_eq ?_ | refine Ev.own_eq ?_ | refine Ev.blk_eq ?_); (first | (exact congrArg (fun n => Blk.mk 3 27 _ 0 true n) hb1) | rfl | (simp; done)))) | exact Ev.sr))); (case hc10 => exact Nat.le_refl _))
    exact ⟨.inl ⟨rfl, rfl, rfl⟩, rfl, by omega⟩
  rintro k s1 ⟨i, m, w, b, sg, hz, rfl, hsg, hk, hil2⟩
  by_cases hi : i < c.segs.length ∧ i < 8
  · obtain ⟨hi, hi8⟩ := hi
    have hi1 : (i : Int) < ((rowsA c.segs).length : Int) := by omega
    have hi2 : (i : Int) < 8 := by omega
    have hxl := sps_len c.segs[i]
    have hml := rowsA_len ((c.segs.take i).map fewS)
    rw [List.length_map, List.length_take] at hml
    have he : ∀ (x : List Sp) (j : Nat) (h : j < x.length), (x.take (j + 1)).map (cutS 60) = (x.take j).map (cutS 60) ++ [cutS 60 x[j]] := fun x j h => by rw [List.take_succ_eq_append_getElem h, List.map_append]; rfl
    have hto : (c.segs.take (i + 1)).map fewS = (c.segs.take i).map fewS ++ [fewS c.segs[i]] := by rw [List.take_succ_eq_append_getElem hi, List.map_append]; rfl
    rcases hsg with ⟨rfl, rfl, rfl⟩ | ⟨h0, u, rfl, rfl⟩
    · repeat' (first | ((with_reducible refine Ev.br0 ?_); (first | refine Ev.brp ?_ | refine Ev.brn ?_); conv => whnf) | ((with_reducible refine Ev.c0 ?_); first | refine Ev.cp ?_ | refine Ev.cn ?_) | (((with_reducible refine Ev.br_pos hi1 ?_); conv => whnf)) | (with_reducible refine Ev.c_pos hi1 ?_) | (((with_reducible refine Ev.br_pos hi2 ?_); conv => whnf)) | (with_reducible refine Ev.c_pos hi2 ?_) | ((refine Ev.sw ?_); conv => whnf) | refine Ev.sn ?_ | ((with_reducible refine Ev.chk_k ?_ ?_); rotate_left; exact Ev.bt; conv => whnf) | ((with_reducible (refine Ev.RI.run ?_; constructor)) <;> intro _) | ((refine Ev.sg ?_); conv => whnf) | ((with_reducible refine Ev.sided ?_ ?_); conv => whnf) | ((with_reducible refine Ev.kr (hs := []) (fun Q hQ => ?_)); (simp only [Ev.runE_cons, Ev.runE_nil]); conv => whnf) | (with_reducible refine hQ _ ?_; clear hQ Q) | ((refine Ev.sf ?_); intro F hF; conv => whnf) | (with_reducible refine hF _ ?_; clear hF F) | ((with_reducible refine Ev.go_k (fun c' => ?_)); conv => whnf) | ((with_reducible refine Ev.dr0 ?_); (first | refine Ev.drv 1 [] [(0, false), (1, false), (2, false), (3, false), (4, false), (5, true), (6, true), (7, false), (8, false), (9, false), (10, false), (11, false), (12, true), (13, true), (14, true), (15, false), (16, false)] ?_); intro Q hQ; (simp only [Ev.runV_consF, Ev.runV_consT, Ev.runV_nil]); conv => whnf) | ((first | refine Ev.el_map0 ?_ (fun hi => ?_) | refine Ev.el_mapN ?_ (fun hi => ?_)); rotate_left; conv => whnf) | ((with_reducible refine Ev.sd0 ?_); exact Ev.sd) | fail)
      refine Ev.loop (fun k s => ∃ (j m v : Nat), s = ⟨[(1, .ptr 0 0 0 0), (2, .ptr 8 b 0 0), (3, .ptr 632 w 0 0), (4, .v (.int .i64 (0 : Nat))), (5, .own 2560 v 0 j), (6, .v (.int .i64 j))],
        [(632, ⟨3, 27, w, 0, true, [[.v (.string B), .lst 1 (ints (c.revs.take 9)), nilA]]⟩), (8, ⟨3, 27, b, 0, true, [[.v (.string ⟨#[]⟩), nilA, nilA]]⟩), (0, ⟨3, 27, 0, 0, true, [[.v (.string c.base), .lst 1 (ints c.revs), .lst 1 (rowsA c.segs)]]⟩), (2560, ⟨3, 35, v, 0, false, sps ((c.segs[0].take j).map (cutS 60))⟩)], m⟩ ∧ k + j = 20 ∧ j ≤ c.segs[0].length) ?_ ?_
      · (refine Ev.to _ ?hs11 ?hh11 ?hc11 ⟨20, 0, ?_, ?_, rfl, ?hp11⟩; (case hs11 | hh11 => ((repeat' (first | exact trivial | refine And.intro ?_ ?_)) <;> (first | exact Ev.se | (refine Ev.slot_eq rfl ?_; first | (first | rfl | (simp; done)) | ((first | refine Ev.int_eq ?_ | refine Ev.own_eq ?_ | refine Ev.blk_eq ?_); (first | rfl | (simp; done)))) | exact Ev.sr))); (case hc11 => exact Nat.le_refl _))
        exact ⟨rfl, by omega⟩
      rintro k2 s2 ⟨j, m2, v, rfl, hk2, hjl⟩
      have hlen : (sps ((c.segs[0].take j).map (cutS 60))).length = j := by simp; omega
      by_cases hj : j < c.segs[0].length ∧ j < 20
      · obtain ⟨hj, hj20⟩ := hj
        have hj1 : (j : Int) < ((sps c.segs[0]).length : Int) := by omega
        have hj2 : (j : Int) < 20 := by omega
        have hx2 : (min (c.segs[0][j].t.size : Int) 60).toNat = min c.segs[0][j].t.size 60 := by omega
        repeat' (first | ((with_reducible refine Ev.br0 ?_); (first | refine Ev.brp ?_ | refine Ev.brn ?_); conv => whnf) | ((with_reducible refine Ev.c0 ?_); first | refine Ev.cp ?_ | refine Ev.cn ?_) | (((with_reducible refine Ev.br_pos hj1 ?_); conv => whnf)) | (with_reducible refine Ev.c_pos hj1 ?_) | (((with_reducible refine Ev.br_pos hj2 ?_); conv => whnf)) | (with_reducible refine Ev.c_pos hj2 ?_) | ((refine Ev.sw ?_); conv => whnf) | refine Ev.sn ?_ | ((with_reducible refine Ev.chk_k ?_ ?_); rotate_left; exact Ev.bt; conv => whnf) | ((with_reducible (refine Ev.RI.run ?_; constructor)) <;> intro _) | ((refine Ev.sg ?_); conv => whnf) | ((with_reducible refine Ev.sided ?_ ?_); conv => whnf) | ((with_reducible refine Ev.kr (hs := []) (fun Q hQ => ?_)); (simp only [Ev.runE_cons, Ev.runE_nil]); conv => whnf) | (with_reducible refine hQ _ ?_; clear hQ Q) | ((refine Ev.sf ?_); intro F hF; conv => whnf) | (with_reducible refine hF _ ?_; clear hF F) | ((with_reducible refine Ev.go_k (fun c' => ?_)); conv => whnf) | ((with_reducible refine Ev.dr0 ?_); (first | refine Ev.drv 1 [] [(0, false), (1, false), (2, false), (3, false), (4, false), (5, true), (6, true), (7, false), (8, false), (9, false), (10, false), (11, false), (12, true), (13, true), (14, true), (15, false), (16, false)] ?_); intro Q hQ; (simp only [Ev.runV_consF, Ev.runV_consT, Ev.runV_nil]); conv => whnf) | ((first | refine Ev.el_map0 ?_ (fun hi => ?_) | refine Ev.el_mapN ?_ (fun hi => ?_)); rotate_left; conv => whnf) | ((with_reducible refine Ev.sd0 ?_); exact Ev.sd) | fail)
        (refine Ev.again (k2 - 1) _ ?hm12 ?hs12 ?hh12 ?hc12 ⟨j + 1, ?_, ?_, rfl, ?hp12⟩; (case hs12 | hh12 => ((repeat' (first | exact trivial | refine And.intro ?_ ?_)) <;> (first | exact Ev.se | (refine Ev.slot_eq rfl ?_; first | (first | exact wrap_succ (by omega) | (simp; done) | (rw [he _ _ hj]; simp [sps, cutS, spC, hx2]; done) | rfl) | ((first | refine Ev.int_eq ?_ | refine Ev.own_eq ?_ | refine Ev.blk_eq ?_); (first | exact wrap_succ (by omega) | (simp; done) | (rw [he _ _ hj]; simp [sps, cutS, spC, hx2]; done) | rfl))) | exact Ev.sr))); (case hc12 => exact Nat.le_refl _); (case hm12 => omega))
        exact ⟨by omega, by omega⟩
      · have hfin : (c.segs[0].take j).map (cutS 60) = fewS c.segs[0] := by
          unfold fewS
          rcases Nat.lt_or_ge j 20 with h | h
          · rw [List.take_of_length_le (by omega), List.take_of_length_le (by omega)]
          · rw [show j = 20 by omega]
        by_cases hj1 : (j : Int) < ((sps c.segs[0]).length : Int)
        · have hj2 : ¬ (j : Int) < 20 := by omega
          repeat' (first | ((with_reducible refine Ev.br0 ?_); (first | refine Ev.brp ?_ | refine Ev.brn ?_); conv => whnf) | ((with_reducible refine Ev.c0 ?_); first | refine Ev.cp ?_ | refine Ev.cn ?_) | (((with_reducible refine Ev.br_pos hj1 ?_); conv => whnf)) | (with_reducible refine Ev.c_pos hj1 ?_) | (((with_reducible refine Ev.br_neg hj2 ?_); conv => whnf)) | (with_reducible refine Ev.c_neg hj2 ?_) | ((refine Ev.sw ?_); conv => whnf) | refine Ev.sn ?_ | ((with_reducible refine Ev.chk_k ?_ ?_); rotate_left; exact Ev.bt; conv => whnf) | ((with_reducible (refine Ev.RI.run ?_; constructor)) <;> intro _) | ((refine Ev.sg ?_); conv => whnf) | ((with_reducible refine Ev.sided ?_ ?_); conv => whnf) | ((with_reducible refine Ev.kr (hs := []) (fun Q hQ => ?_)); (simp only [Ev.runE_cons, Ev.runE_nil]); conv => whnf) | (with_reducible refine hQ _ ?_; clear hQ Q) | ((refine Ev.sf ?_); intro F hF; conv => whnf) | (with_reducible refine hF _ ?_; clear hF F) | ((with_reducible refine Ev.go_k (fun c' => ?_)); conv => whnf) | ((with_reducible refine Ev.dr0 ?_); (first | refine Ev.drv 1 [] [(0, false), (1, false), (2, false), (3, false), (4, false), (5, true), (6, true), (7, false), (8, false), (9, false), (10, false), (11, false), (12, true), (13, true), (14, true), (15, false), (16, false)] ?_); intro Q hQ; (simp only [Ev.runV_consF, Ev.runV_consT, Ev.runV_nil]); conv => whnf) | ((first | refine Ev.el_map0 ?_ (fun hi => ?_) | refine Ev.el_mapN ?_ (fun hi => ?_)); rotate_left; conv => whnf) | ((with_reducible refine Ev.sd0 ?_); exact Ev.sd) | fail)
          have hrow : AV.lst 3 (List.take j (List.drop 0 (sps ((c.segs[0].take j).map (cutS 60))))) = AV.lst 3 (sps (fewS c.segs[0])) := by rw [List.drop_zero, List.take_of_length_le (by omega), hfin]
          have hr2 : List.take 1 (List.drop 0 [[AV.lst 3 (List.take j (List.drop 0 (sps ((c.segs[0].take j).map (cutS 60)))))]]) = rowsA ((c.segs.take (0 + 1)).map fewS) := by rw [hrow, hto]; rfl
          (refine Ev.again (k - 1) _ ?hm13 ?hs13 ?hh13 ?hc13 ⟨0 + 1, ?_, w, b, .own 6176 ?_ 0 (0 + 1), [(6176, ⟨1, 23, ?_, 0, false, rowsA ((c.segs.take (0 + 1)).map fewS)⟩)], rfl, ?hp13⟩; (case hs13 | hh13 => ((repeat' (first | exact trivial | refine And.intro ?_ ?_)) <;> (first | exact Ev.se | (refine Ev.slot_eq rfl ?_; first | (first | exact wrap_succ (by omega) | (exact congrArg (fun n => Blk.mk 1 23 _ 0 false n) hr2) | rfl | (simp; done)) | ((first | refine Ev.int_eq ?_ | refine Ev.own_eq ?_ | refine Ev.blk_eq ?_); (first | exact wrap_succ (by omega) | (exact congrArg (fun n => Blk.mk 1 23 _ 0 false n) hr2) | rfl | (simp; done)))) | exact Ev.sr))); (case hc13 => exact Nat.le_refl _); (case hm13 => omega))
          exact ⟨.inr ⟨by omega, _, rfl, rfl⟩, by omega, by omega⟩
        · repeat' (first | ((with_reducible refine Ev.br0 ?_); (first | refine Ev.brp ?_ | refine Ev.brn ?_); conv => whnf) | ((with_reducible refine Ev.c0 ?_); first | refine Ev.cp ?_ | refine Ev.cn ?_) | (((with_reducible refine Ev.br_neg hj1 ?_); conv => whnf)) | (with_reducible refine Ev.c_neg hj1 ?_) | ((refine Ev.sw ?_); conv => whnf) | refine Ev.sn ?_ | ((with_reducible refine Ev.chk_k ?_ ?_); rotate_left; exact Ev.bt; conv => whnf) | ((with_reducible (refine Ev.RI.run ?_; constructor)) <;> intro _) | ((refine Ev.sg ?_); conv => whnf) | ((with_reducible refine Ev.sided ?_ ?_); conv => whnf) | ((with_reducible refine Ev.kr (hs := []) (fun Q hQ => ?_)); (simp only [Ev.runE_cons, Ev.runE_nil]); conv => whnf) | (with_reducible refine hQ _ ?_; clear hQ Q) | ((refine Ev.sf ?_); intro F hF; conv => whnf) | (with_reducible refine hF _ ?_; clear hF F) | ((with_reducible refine Ev.go_k (fun c' => ?_)); conv => whnf) | ((with_reducible refine Ev.dr0 ?_); (first | refine Ev.drv 1 [] [(0, false), (1, false), (2, false), (3, false), (4, false), (5, true), (6, true), (7, false), (8, false), (9, false), (10, false), (11, false), (12, true), (13, true), (14, true), (15, false), (16, false)] ?_); intro Q hQ; (simp only [Ev.runV_consF, Ev.runV_consT, Ev.runV_nil]); conv => whnf) | ((first | refine Ev.el_map0 ?_ (fun hi => ?_) | refine Ev.el_mapN ?_ (fun hi => ?_)); rotate_left; conv => whnf) | ((with_reducible refine Ev.sd0 ?_); exact Ev.sd) | fail)
          have hrow : AV.lst 3 (List.take j (List.drop 0 (sps ((c.segs[0].take j).map (cutS 60))))) = AV.lst 3 (sps (fewS c.segs[0])) := by rw [List.drop_zero, List.take_of_length_le (by omega), hfin]
          have hr2 : List.take 1 (List.drop 0 [[AV.lst 3 (List.take j (List.drop 0 (sps ((c.segs[0].take j).map (cutS 60)))))]]) = rowsA ((c.segs.take (0 + 1)).map fewS) := by rw [hrow, hto]; rfl
          (refine Ev.again (k - 1) _ ?hm14 ?hs14 ?hh14 ?hc14 ⟨0 + 1, ?_, w, b, .own 6176 ?_ 0 (0 + 1), [(6176, ⟨1, 23, ?_, 0, false, rowsA ((c.segs.take (0 + 1)).map fewS)⟩)], rfl, ?hp14⟩; (case hs14 | hh14 => ((repeat' (first | exact trivial | refine And.intro ?_ ?_)) <;> (first | exact Ev.se | (refine Ev.slot_eq rfl ?_; first | (first | exact wrap_succ (by omega) | (exact congrArg (fun n => Blk.mk 1 23 _ 0 false n) hr2) | rfl | (simp; done)) | ((first | refine Ev.int_eq ?_ | refine Ev.own_eq ?_ | refine Ev.blk_eq ?_); (first | exact wrap_succ (by omega) | (exact congrArg (fun n => Blk.mk 1 23 _ 0 false n) hr2) | rfl | (simp; done)))) | exact Ev.sr))); (case hc14 => exact Nat.le_refl _); (case hm14 => omega))
          exact ⟨.inr ⟨by omega, _, rfl, rfl⟩, by omega, by omega⟩
    · repeat' (first | ((with_reducible refine Ev.br0 ?_); (first | refine Ev.brp ?_ | refine Ev.brn ?_); conv => whnf) | ((with_reducible refine Ev.c0 ?_); first | refine Ev.cp ?_ | refine Ev.cn ?_) | (((with_reducible refine Ev.br_pos hi1 ?_); conv => whnf)) | (with_reducible refine Ev.c_pos hi1 ?_) | (((with_reducible refine Ev.br_pos hi2 ?_); conv => whnf)) | (with_reducible refine Ev.c_pos hi2 ?_) | ((refine Ev.sw ?_); conv => whnf) | refine Ev.sn ?_ | ((with_reducible refine Ev.chk_k ?_ ?_); rotate_left; exact Ev.bt; conv => whnf) | ((with_reducible (refine Ev.RI.run ?_; constructor)) <;> intro _) | ((refine Ev.sg ?_); conv => whnf) | ((with_reducible refine Ev.sided ?_ ?_); conv => whnf) | ((with_reducible refine Ev.kr (hs := []) (fun Q hQ => ?_)); (simp only [Ev.runE_cons, Ev.runE_nil]); conv => whnf) | (with_reducible refine hQ _ ?_; clear hQ Q) | ((refine Ev.sf ?_); intro F hF; conv => whnf) | (with_reducible refine hF _ ?_; clear hF F) | ((with_reducible refine Ev.go_k (fun c' => ?_)); conv => whnf) | ((with_reducible refine Ev.dr0 ?_); (first | refine Ev.drv 1 [] [(0, false), (1, false), (2, false), (3, false), (4, false), (5, true), (6, true), (7, false), (8, false), (9, false), (10, false), (11, false), (12, true), (13, true), (14, true), (15, false), (16, false)] ?_); intro Q hQ; (simp only [Ev.runV_consF, Ev.runV_consT, Ev.runV_nil]); conv => whnf) | ((first | refine Ev.el_map0 ?_ (fun hi => ?_) | refine Ev.el_mapN ?_ (fun hi => ?_)); rotate_left; conv => whnf) | ((with_reducible refine Ev.sd0 ?_); exact Ev.sd) | fail)
      refine Ev.loop (fun k s => ∃ (j m v : Nat), s = ⟨[(1, .ptr 0 0 0 0), (2, .ptr 8 b 0 0), (3, .ptr 632 w 0 0), (4, .v (.int .i64 (i : Nat))), (5, .own 2560 v 0 j), (6, .v (.int .i64 j))],
        [(632, ⟨3, 27, w, 0, true, [[.v (.string B), .lst 1 (ints (c.revs.take 9)), .own 6176 u 0 i]]⟩), (8, ⟨3, 27, b, 0, true, [[.v (.string ⟨#[]⟩), nilA, nilA]]⟩), (0, ⟨3, 27, 0, 0, true, [[.v (.string c.base), .lst 1 (ints c.revs), .lst 1 (rowsA c.segs)]]⟩), (6176, ⟨1, 23, u, 0, false, rowsA ((c.segs.take i).map fewS)⟩), (2560, ⟨3, 35, v, 0, false, sps ((c.segs[i].take j).map (cutS 60))⟩)], m⟩ ∧ k + j = 20 ∧ j ≤ c.segs[i].length) ?_ ?_
      · (refine Ev.to _ ?hs15 ?hh15 ?hc15 ⟨20, 0, ?_, ?_, rfl, ?hp15⟩; (case hs15 | hh15 => ((repeat' (first | exact trivial | refine And.intro ?_ ?_)) <;> (first | exact Ev.se | (refine Ev.slot_eq rfl ?_; first | (first | rfl | (simp; done)) | ((first | refine Ev.int_eq ?_ | refine Ev.own_eq ?_ | refine Ev.blk_eq ?_); (first | rfl | (simp; done)))) | exact Ev.sr))); (case hc15 => exact Nat.le_refl _))
        exact ⟨rfl, by omega⟩
      rintro k2 s2 ⟨j, m2, v, rfl, hk2, hjl⟩
      have hlen : (sps ((c.segs[i].take j).map (cutS 60))).length = j := by simp; omega
      by_cases hj : j < c.segs[i].length ∧ j < 20
      · obtain ⟨hj, hj20⟩ := hj
        have hj1 : (j : Int) < ((sps c.segs[i]).length : Int) := by omega
        have hj2 : (j : Int) < 20 := by omega
        have hx2 : (min (c.segs[i][j].t.size : Int) 60).toNat = min c.segs[i][j].t.size 60 := by omega
        repeat' (first | ((with_reducible refine Ev.br0 ?_); (first | refine Ev.brp ?_ | refine Ev.brn ?_); conv => whnf) | ((with_reducible refine Ev.c0 ?_); first | refine Ev.cp ?_ | refine Ev.cn ?_) | (((with_reducible refine Ev.br_pos hj1 ?_); conv => whnf)) | (with_reducible refine Ev.c_pos hj1 ?_) | (((with_reducible refine Ev.br_pos hj2 ?_); conv => whnf)) | (with_reducible refine Ev.c_pos hj2 ?_) | ((refine Ev.sw ?_); conv => whnf) | refine Ev.sn ?_ | ((with_reducible refine Ev.chk_k ?_ ?_); rotate_left; exact Ev.bt; conv => whnf) | ((with_reducible (refine Ev.RI.run ?_; constructor)) <;> intro _) | ((refine Ev.sg ?_); conv => whnf) | ((with_reducible refine Ev.sided ?_ ?_); conv => whnf) | ((with_reducible refine Ev.kr (hs := []) (fun Q hQ => ?_)); (simp only [Ev.runE_cons, Ev.runE_nil]); conv => whnf) | (with_reducible refine hQ _ ?_; clear hQ Q) | ((refine Ev.sf ?_); intro F hF; conv => whnf) | (with_reducible refine hF _ ?_; clear hF F) | ((with_reducible refine Ev.go_k (fun c' => ?_)); conv => whnf) | ((with_reducible refine Ev.dr0 ?_); (first | refine Ev.drv 1 [] [(0, false), (1, false), (2, false), (3, false), (4, false), (5, true), (6, true), (7, false), (8, false), (9, false), (10, false), (11, false), (12, true), (13, true), (14, true), (15, false), (16, false)] ?_); intro Q hQ; (simp only [Ev.runV_consF, Ev.runV_consT, Ev.runV_nil]); conv => whnf) | ((first | refine Ev.el_map0 ?_ (fun hi => ?_) | refine Ev.el_mapN ?_ (fun hi => ?_)); rotate_left; conv => whnf) | ((with_reducible refine Ev.sd0 ?_); exact Ev.sd) | fail)
        (refine Ev.again (k2 - 1) _ ?hm16 ?hs16 ?hh16 ?hc16 ⟨j + 1, ?_, ?_, rfl, ?hp16⟩; (case hs16 | hh16 => ((repeat' (first | exact trivial | refine And.intro ?_ ?_)) <;> (first | exact Ev.se | (refine Ev.slot_eq rfl ?_; first | (first | exact wrap_succ (by omega) | (simp; done) | (rw [he _ _ hj]; simp [sps, cutS, spC, hx2]; done) | rfl) | ((first | refine Ev.int_eq ?_ | refine Ev.own_eq ?_ | refine Ev.blk_eq ?_); (first | exact wrap_succ (by omega) | (simp; done) | (rw [he _ _ hj]; simp [sps, cutS, spC, hx2]; done) | rfl))) | exact Ev.sr))); (case hc16 => exact Nat.le_refl _); (case hm16 => omega))
        exact ⟨by omega, by omega⟩
      · have hfin : (c.segs[i].take j).map (cutS 60) = fewS c.segs[i] := by
          unfold fewS
          rcases Nat.lt_or_ge j 20 with h | h
          · rw [List.take_of_length_le (by omega), List.take_of_length_le (by omega)]
          · rw [show j = 20 by omega]
        by_cases hj1 : (j : Int) < ((sps c.segs[i]).length : Int)
        · have hj2 : ¬ (j : Int) < 20 := by omega
          repeat' (first | ((with_reducible refine Ev.br0 ?_); (first | refine Ev.brp ?_ | refine Ev.brn ?_); conv => whnf) | ((with_reducible refine Ev.c0 ?_); first | refine Ev.cp ?_ | refine Ev.cn ?_) | (((with_reducible refine Ev.br_pos hj1 ?_); conv => whnf)) | (with_reducible refine Ev.c_pos hj1 ?_) | (((with_reducible refine Ev.br_neg hj2 ?_); conv => whnf)) | (with_reducible refine Ev.c_neg hj2 ?_) | ((refine Ev.sw ?_); conv => whnf) | refine Ev.sn ?_ | ((with_reducible refine Ev.chk_k ?_ ?_); rotate_left; exact Ev.bt; conv => whnf) | ((with_reducible (refine Ev.RI.run ?_; constructor)) <;> intro _) | ((refine Ev.sg ?_); conv => whnf) | ((with_reducible refine Ev.sided ?_ ?_); conv => whnf) | ((with_reducible refine Ev.kr (hs := []) (fun Q hQ => ?_)); (simp only [Ev.runE_cons, Ev.runE_nil]); conv => whnf) | (with_reducible refine hQ _ ?_; clear hQ Q) | ((refine Ev.sf ?_); intro F hF; conv => whnf) | (with_reducible refine hF _ ?_; clear hF F) | ((with_reducible refine Ev.go_k (fun c' => ?_)); conv => whnf) | ((with_reducible refine Ev.dr0 ?_); (first | refine Ev.drv 1 [] [(0, false), (1, false), (2, false), (3, false), (4, false), (5, true), (6, true), (7, false), (8, false), (9, false), (10, false), (11, false), (12, true), (13, true), (14, true), (15, false), (16, false)] ?_); intro Q hQ; (simp only [Ev.runV_consF, Ev.runV_consT, Ev.runV_nil]); conv => whnf) | ((first | refine Ev.el_map0 ?_ (fun hi => ?_) | refine Ev.el_mapN ?_ (fun hi => ?_)); rotate_left; conv => whnf) | ((with_reducible refine Ev.sd0 ?_); exact Ev.sd) | fail)
          have hrow : AV.lst 3 (List.take j (List.drop 0 (sps ((c.segs[i].take j).map (cutS 60))))) = AV.lst 3 (sps (fewS c.segs[i])) := by rw [List.drop_zero, List.take_of_length_le (by omega), hfin]
          have hr2 : rowsA ((c.segs.take i).map fewS) ++ List.take 1 (List.drop 0 [[AV.lst 3 (List.take j (List.drop 0 (sps ((c.segs[i].take j).map (cutS 60)))))]]) = rowsA ((c.segs.take (i + 1)).map fewS) := by rw [hrow, hto, rowsA_app]; rfl
          (refine Ev.again (k - 1) _ ?hm17 ?hs17 ?hh17 ?hc17 ⟨i + 1, ?_, w, b, .own 6176 ?_ 0 (i + 1), [(6176, ⟨1, 23, ?_, 0, false, rowsA ((c.segs.take (i + 1)).map fewS)⟩)], rfl, ?hp17⟩; (case hs17 | hh17 => ((repeat' (first | exact trivial | refine And.intro ?_ ?_)) <;> (first | exact Ev.se | (refine Ev.slot_eq rfl ?_; first | (first | exact wrap_succ (by omega) | (exact congrArg (fun n => Blk.mk 1 23 _ 0 false n) hr2) | rfl | (simp; done)) | ((first | refine Ev.int_eq ?_ | refine Ev.own_eq ?_ | refine Ev.blk_eq ?_); (first | exact wrap_succ (by omega) | (exact congrArg (fun n => Blk.mk 1 23 _ 0 false n) hr2) | rfl | (simp; done)))) | exact Ev.sr))); (case hc17 => exact Nat.le_refl _); (case hm17 => omega))
          exact ⟨.inr ⟨by omega, _, rfl, rfl⟩, by omega, by omega⟩
        · repeat' (first | ((with_reducible refine Ev.br0 ?_); (first | refine Ev.brp ?_ | refine Ev.brn ?_); conv => whnf) | ((with_reducible refine Ev.c0 ?_); first | refine Ev.cp ?_ | refine Ev.cn ?_) | (((with_reducible refine Ev.br_neg hj1 ?_); conv => whnf)) | (with_reducible refine Ev.c_neg hj1 ?_) | ((refine Ev.sw ?_); conv => whnf) | refine Ev.sn ?_ | ((with_reducible refine Ev.chk_k ?_ ?_); rotate_left; exact Ev.bt; conv => whnf) | ((with_reducible (refine Ev.RI.run ?_; constructor)) <;> intro _) | ((refine Ev.sg ?_); conv => whnf) | ((with_reducible refine Ev.sided ?_ ?_); conv => whnf) | ((with_reducible refine Ev.kr (hs := []) (fun Q hQ => ?_)); (simp only [Ev.runE_cons, Ev.runE_nil]); conv => whnf) | (with_reducible refine hQ _ ?_; clear hQ Q) | ((refine Ev.sf ?_); intro F hF; conv => whnf) | (with_reducible refine hF _ ?_; clear hF F) | ((with_reducible refine Ev.go_k (fun c' => ?_)); conv => whnf) | ((with_reducible refine Ev.dr0 ?_); (first | refine Ev.drv 1 [] [(0, false), (1, false), (2, false), (3, false), (4, false), (5, true), (6, true), (7, false), (8, false), (9, false), (10, false), (11, false), (12, true), (13, true), (14, true), (15, false), (16, false)] ?_); intro Q hQ; (simp only [Ev.runV_consF, Ev.runV_consT, Ev.runV_nil]); conv => whnf) | ((first | refine Ev.el_map0 ?_ (fun hi => ?_) | refine Ev.el_mapN ?_ (fun hi => ?_)); rotate_left; conv => whnf) | ((with_reducible refine Ev.sd0 ?_); exact Ev.sd) | fail)
          have hrow : AV.lst 3 (List.take j (List.drop 0 (sps ((c.segs[i].take j).map (cutS 60))))) = AV.lst 3 (sps (fewS c.segs[i])) := by rw [List.drop_zero, List.take_of_length_le (by omega), hfin]
          have hr2 : rowsA ((c.segs.take i).map fewS) ++ List.take 1 (List.drop 0 [[AV.lst 3 (List.take j (List.drop 0 (sps ((c.segs[i].take j).map (cutS 60)))))]]) = rowsA ((c.segs.take (i + 1)).map fewS) := by rw [hrow, hto, rowsA_app]; rfl
          (refine Ev.again (k - 1) _ ?hm18 ?hs18 ?hh18 ?hc18 ⟨i + 1, ?_, w, b, .own 6176 ?_ 0 (i + 1), [(6176, ⟨1, 23, ?_, 0, false, rowsA ((c.segs.take (i + 1)).map fewS)⟩)], rfl, ?hp18⟩; (case hs18 | hh18 => ((repeat' (first | exact trivial | refine And.intro ?_ ?_)) <;> (first | exact Ev.se | (refine Ev.slot_eq rfl ?_; first | (first | exact wrap_succ (by omega) | (exact congrArg (fun n => Blk.mk 1 23 _ 0 false n) hr2) | rfl | (simp; done)) | ((first | refine Ev.int_eq ?_ | refine Ev.own_eq ?_ | refine Ev.blk_eq ?_); (first | exact wrap_succ (by omega) | (exact congrArg (fun n => Blk.mk 1 23 _ 0 false n) hr2) | rfl | (simp; done)))) | exact Ev.sr))); (case hc18 => exact Nat.le_refl _); (case hm18 => omega))
          exact ⟨.inr ⟨by omega, _, rfl, rfl⟩, by omega, by omega⟩
  · have hT : c.segs.take 8 = c.segs.take i := by
      rcases Nat.lt_or_ge i 8 with h | h
      · rw [List.take_of_length_le (by omega), List.take_of_length_le (by omega)]
      · rw [show i = 8 by omega]
    have hC : lgA (fewC c) = .agg [.v (.string B), .lst 1 (ints (c.revs.take 9)), .lst 1 (rowsA ((c.segs.take i).map fewS))] := by
      rw [← hT, ← hB2]; rfl
    rw [hC]
    by_cases hi1 : (i : Int) < ((rowsA c.segs).length : Int)
    · have hi2 : ¬ (i : Int) < 8 := by omega
      rcases hsg with ⟨rfl, rfl, rfl⟩ | ⟨h0, u, rfl, rfl⟩
      · exfalso; omega
      · repeat' (first | ((with_reducible refine Ev.br0 ?_); (first | refine Ev.brp ?_ | refine Ev.brn ?_); conv => whnf) | ((with_reducible refine Ev.c0 ?_); first | refine Ev.cp ?_ | refine Ev.cn ?_) | (((with_reducible refine Ev.br_pos hi1 ?_); conv => whnf)) | (with_reducible refine Ev.c_pos hi1 ?_) | (((with_reducible refine Ev.br_neg hi2 ?_); conv => whnf)) | (with_reducible refine Ev.c_neg hi2 ?_) | ((refine Ev.sw ?_); conv => whnf) | refine Ev.sn ?_ | ((with_reducible refine Ev.chk_k ?_ ?_); rotate_left; exact Ev.bt; conv => whnf) | ((with_reducible (refine Ev.RI.run ?_; constructor)) <;> intro _) | ((refine Ev.sg ?_); conv => whnf) | ((with_reducible refine Ev.sided ?_ ?_); conv => whnf) | ((with_reducible refine Ev.kr (hs := []) (fun Q hQ => ?_)); (simp only [Ev.runE_cons, Ev.runE_nil]); conv => whnf) | (with_reducible refine hQ _ ?_; clear hQ Q) | ((refine Ev.sf ?_); intro F hF; conv => whnf) | (with_reducible refine hF _ ?_; clear hF F) | ((with_reducible refine Ev.go_k (fun c' => ?_)); conv => whnf) | ((with_reducible refine Ev.dr0 ?_); (first | refine Ev.drv 1 [] [(0, false), (1, false), (2, false), (3, false), (4, false), (5, true), (6, true), (7, false), (8, false), (9, false), (10, false), (11, false), (12, true), (13, true), (14, true), (15, false), (16, false)] ?_); intro Q hQ; (simp only [Ev.runV_consF, Ev.runV_consT, Ev.runV_nil]); conv => whnf) | ((first | refine Ev.el_map0 ?_ (fun hi => ?_) | refine Ev.el_mapN ?_ (fun hi => ?_)); rotate_left; conv => whnf) | ((with_reducible refine Ev.sd0 ?_); exact Ev.sd) | fail)
        have e : List.take i (List.drop 0 (rowsA ((c.segs.take i).map fewS))) = rowsA ((c.segs.take i).map fewS) := by rw [List.drop_zero, List.take_of_length_le (by rw [rowsA_len, List.length_map, List.length_take]; omega)]
        refine ⟨LeR.agg3 (LeR.refl _) (LeR.refl _) ?_, rfl⟩
        rw [e]; exact LeR.refl _
    · rcases hsg with ⟨rfl, rfl, rfl⟩ | ⟨h0, u, rfl, rfl⟩
      · repeat' (first | ((with_reducible refine Ev.br0 ?_); (first | refine Ev.brp ?_ | refine Ev.brn ?_); conv => whnf) | ((with_reducible refine Ev.c0 ?_); first | refine Ev.cp ?_ | refine Ev.cn ?_) | (((with_reducible refine Ev.br_neg hi1 ?_); conv => whnf)) | (with_reducible refine Ev.c_neg hi1 ?_) | ((refine Ev.sw ?_); conv => whnf) | refine Ev.sn ?_ | ((with_reducible refine Ev.chk_k ?_ ?_); rotate_left; exact Ev.bt; conv => whnf) | ((with_reducible (refine Ev.RI.run ?_; constructor)) <;> intro _) | ((refine Ev.sg ?_); conv => whnf) | ((with_reducible refine Ev.sided ?_ ?_); conv => whnf) | ((with_reducible refine Ev.kr (hs := []) (fun Q hQ => ?_)); (simp only [Ev.runE_cons, Ev.runE_nil]); conv => whnf) | (with_reducible refine hQ _ ?_; clear hQ Q) | ((refine Ev.sf ?_); intro F hF; conv => whnf) | (with_reducible refine hF _ ?_; clear hF F) | ((with_reducible refine Ev.go_k (fun c' => ?_)); conv => whnf) | ((with_reducible refine Ev.dr0 ?_); (first | refine Ev.drv 1 [] [(0, false), (1, false), (2, false), (3, false), (4, false), (5, true), (6, true), (7, false), (8, false), (9, false), (10, false), (11, false), (12, true), (13, true), (14, true), (15, false), (16, false)] ?_); intro Q hQ; (simp only [Ev.runV_consF, Ev.runV_consT, Ev.runV_nil]); conv => whnf) | ((first | refine Ev.el_map0 ?_ (fun hi => ?_) | refine Ev.el_mapN ?_ (fun hi => ?_)); rotate_left; conv => whnf) | ((with_reducible refine Ev.sd0 ?_); exact Ev.sd) | fail)
        exact ⟨LeR.agg3 (LeR.refl _) (LeR.refl _) (LeR.nil 1), rfl⟩
      · repeat' (first | ((with_reducible refine Ev.br0 ?_); (first | refine Ev.brp ?_ | refine Ev.brn ?_); conv => whnf) | ((with_reducible refine Ev.c0 ?_); first | refine Ev.cp ?_ | refine Ev.cn ?_) | (((with_reducible refine Ev.br_neg hi1 ?_); conv => whnf)) | (with_reducible refine Ev.c_neg hi1 ?_) | ((refine Ev.sw ?_); conv => whnf) | refine Ev.sn ?_ | ((with_reducible refine Ev.chk_k ?_ ?_); rotate_left; exact Ev.bt; conv => whnf) | ((with_reducible (refine Ev.RI.run ?_; constructor)) <;> intro _) | ((refine Ev.sg ?_); conv => whnf) | ((with_reducible refine Ev.sided ?_ ?_); conv => whnf) | ((with_reducible refine Ev.kr (hs := []) (fun Q hQ => ?_)); (simp only [Ev.runE_cons, Ev.runE_nil]); conv => whnf) | (with_reducible refine hQ _ ?_; clear hQ Q) | ((refine Ev.sf ?_); intro F hF; conv => whnf) | (with_reducible refine hF _ ?_; clear hF F) | ((with_reducible refine Ev.go_k (fun c' => ?_)); conv => whnf) | ((with_reducible refine Ev.dr0 ?_); (first | refine Ev.drv 1 [] [(0, false), (1, false), (2, false), (3, false), (4, false), (5, true), (6, true), (7, false), (8, false), (9, false), (10, false), (11, false), (12, true), (13, true), (14, true), (15, false), (16, false)] ?_); intro Q hQ; (simp only [Ev.runV_consF, Ev.runV_consT, Ev.runV_nil]); conv => whnf) | ((first | refine Ev.el_map0 ?_ (fun hi => ?_) | refine Ev.el_mapN ?_ (fun hi => ?_)); rotate_left; conv => whnf) | ((with_reducible refine Ev.sd0 ?_); exact Ev.sd) | fail)
        have e : List.take i (List.drop 0 (rowsA ((c.segs.take i).map fewS))) = rowsA ((c.segs.take i).map fewS) := by rw [List.drop_zero, List.take_of_length_le (by rw [rowsA_len, List.length_map, List.length_take]; omega)]
        refine ⟨LeR.agg3 (LeR.refl _) (LeR.refl _) ?_, rfl⟩
        rw [e]; exact LeR.refl _
theorem few21_call (c : Lg) : CallW env 41 [lgA c] (fun r hs => r = lgA (fewC c) ∧ hs = []) :=
  (few21_core c).res (fun r hs h => ⟨_, ⟨rfl, h.2⟩, h.1⟩)
end Go.Proofs.YtadlnaljicikfaaDoor.Abs

namespace Go.Proofs.YtadlnaljicikfaaDoor.Abs
open Go
set_option maxRecDepth 100000
set_option linter.unusedSimpArgs false
set_option linter.unusedVariables false
attribute [local irreducible] Ev.Unr Ev.Go' Ev.bytK Ev.runK Ev.FinL Ev.brC Ev.Side Ev.Wp Ev.Again Ev.To Ev.Fin
open Go.Lib Go.RowKit
theorem comp28 : ∀ c, Tryd.f28.body = some c → comp c = (.seq (.reg 0 [I.n 0 2 (.box 27 (.tmp 0)), I.n 1 3 (.box 27 (.tmp 1)), I.n 2 4 (I.sb false)]) (.seq (.seq (.reg 1 [I.n 0 6 (I.fa 27 2 0), I.n 1 7 (I.ld 9 6), I.n 2 8 (I.fa 27 3 0), I.n 3 9 (I.ld 9 8), I.n 4 10 (I.bo .neq 9 7 9 9), I.n 5 11 (I.mv 10), I.w 6 12 (I.fa 27 2 2) 11 false, I.w 7 13 (I.ld 22 12) 11 false, I.w 8 14 (I.ln 13 22) 11 false, I.w 9 15 (I.fa 27 3 2) 11 false, I.w 10 16 (I.ld 22 15) 11 false, I.w 11 17 (I.ln 16 22) 11 false, I.w 12 18 (I.bo .neq 3 14 17 3) 11 false, I.n 13 19 (I.pb 11 true 18), I.n 14 20 (I.mv 19), I.w 15 21 (I.fa 27 2 1) 20 false, I.w 16 22 (I.ld 25 21) 20 false, I.w 17 23 (I.fa 27 3 1) 20 false, I.w 18 24 (I.ld 25 23) 20 false, I.w 19 25 (I.c2 76 22 24 25 25) 20 false, I.w 20 26 (.unOp .not 4 (.tmp 25)) 20 false, I.n 21 27 (I.pb 20 true 26)]) (.cond (.tmp 27) (.seq (.reg 2 [I.n 0 4 (I.sb false)]) .ret) .skip)) (.seq (.seq (.reg 3 [I.n 0 5 (I.si 0)]) (.block 0 (.loop (.seq (.seq (.reg 4 [I.n 0 28 (I.mv 5), I.n 1 29 (I.fa 27 2 2), I.n 2 30 (I.ld 22 29), I.n 3 31 (I.ln 30 22), I.n 4 32 (I.bo .lss 3 28 31 3)]) (.cond (.tmp 32) .skip (.exit 0))) (.seq (.block 1 (.seq (.draw 6 [I.n 0 35 (I.fa 27 2 2), I.n 1 36 (I.ld 22 35), I.n 2 37 (I.mv 5), I.n 3 38 (I.ia 22 36 37), I.n 4 39 (I.ld 23 38), I.n 5 40 (I.fa 27 3 2), I.n 6 41 (I.ld 22 40), I.n 7 42 (I.mv 5), I.n 8 43 (I.ia 22 41 42), I.n 9 44 (I.ld 23 43), I.n 10 45 (I.c2 34 39 44 23 23), I.n 11 46 (.unOp .not 4 (.tmp 45))] [[], [0], [], [1, 2], [3], [], [5], [], [6, 7], [8], [4, 9], [10]]) (.cond (.tmp 46) (.seq (.reg 7 [I.n 0 4 (I.sb false)]) .ret) .skip))) (.reg 5 [I.n 0 33 (I.mv 5), I.n 1 34 (I.bc .add 3 33 1 3), I.n 2 5 (I.sa 34)])))))) (.seq (.reg 8 [I.n 0 4 (I.sb true)]) .ret)))) := by
  intro c h
  have : c = Tryd.f28.body.get rfl := by rw [← Option.some_inj, ← h]; rfl
  rw [this]; rfl
theorem comp39 : ∀ c, Tryd.f39.body = some c → comp c = (.seq (.reg 0 [I.n 0 0 (I.sb false)]) (.seq (.reg 1 [I.n 0 6 (.buildSlice 25 1 #[(0, .const (Value.int .i64 0))]), I.n 1 7 (.build 27 #[(0, .const (Value.string { data := #[97] })), (1, .tmp 6)]), I.n 2 1 (.alloc 27), I.u 3 (I.st 27 1 7)]) (.seq (.reg 2 [I.n 0 9 (I.ld 27 1), I.n 1 10 (I.c1 40 9 27), I.n 2 8 (I.mv 10), I.n 3 11 (I.ex 8 0), I.n 4 12 (I.ex 8 1), I.n 5 2 (I.sa 11), I.n 6 3 (I.sa 12)]) (.seq (.reg 3 [I.n 0 14 (.buildSlice 56 4 #[(0, .const (Value.int .u8 1)), (1, .const (Value.int .u8 97)), (2, .const (Value.int .u8 1)), (3, .const (Value.int .u8 0))]), I.n 1 15 (I.cv 56 56 14), I.n 2 16 (I.c1 43 15 56), I.n 3 13 (I.mv 16), I.n 4 17 (I.ex 13 0), I.n 5 18 (I.ex 13 1), I.n 6 4 (.alloc 27), I.u 7 (I.st 27 4 17), I.n 8 5 (I.sa 18)]) (.seq (.reg 4 [I.n 0 19 (I.mv 2), I.n 1 20 (I.cv 56 9 19), I.n 2 21 (.binOp .eql 9 (.tmp 20) (.const (Value.string { data := #[1, 97, 1, 0] })) 9), I.n 3 22 (I.mv 21), I.w 4 23 (I.mv 3) 22 true, I.w 5 24 (I.bc .eql 30 23 0 30) 22 true, I.n 6 25 (I.pc 22 24 false), I.n 7 26 (I.mv 25), I.w 8 27 (I.ld 27 4) 26 true, I.w 9 28 (I.ld 27 1) 26 true, I.w 10 29 (I.c2 28 27 28 27 27) 26 true, I.n 11 30 (I.pc 26 29 false), I.n 12 31 (I.mv 30), I.w 13 32 (I.mv 5) 31 true, I.w 14 33 (I.bc .eql 30 32 0 30) 31 true, I.n 15 34 (I.pc 31 33 false), I.n 16 0 (I.sa 34)]) .ret))))) := by
  intro c h
  have : c = Tryd.f39.body.get rfl := by rw [← Option.some_inj, ← h]; rfl
  rw [this]; rfl
theorem comp44 : ∀ c, Tryd.f44.body = some c → comp c = (.seq (.reg 0 [I.n 0 2 I.sn]) (.seq (.reg 1 [I.n 0 3 (I.mv 0), I.n 1 4 (I.mv 0), I.n 2 5 (I.ln 4 56), I.n 3 6 (.call { callee := .builtin .min, args := #[.tmp 5, .const (Value.int .i64 400)], argTypes := #[3, 3] }), I.n 4 7 (.slice 56 (.tmp 3) none (some (.tmp 6)) none), I.n 5 2 (I.sa 7)]) .ret)) := by
  intro c h
  have : c = Tryd.f44.body.get rfl := by rw [← Option.some_inj, ← h]; rfl
  rw [this]; rfl
theorem comp6 : ∀ c, Tryd.f6.body = some c → comp c = (.seq (.reg 0 [I.n 0 2 (.box 27 (.tmp 0)), I.n 1 4 (I.sb false)]) (.seq (.reg 1 [I.n 0 14 (I.c0 39), I.n 1 5 (I.sa 14)]) (.seq (.reg 2 [I.n 0 16 (I.ld 27 2), I.n 1 17 (I.c1 41 16 27), I.n 2 18 (I.c1 40 17 27), I.n 3 15 (I.mv 18), I.n 4 19 (I.ex 15 0), I.n 5 20 (I.ex 15 1), I.n 6 6 (I.sa 19), I.n 7 7 (I.sa 20)]) (.seq (.reg 3 [I.n 0 22 (I.ld 27 2), I.n 1 23 (I.c1 41 22 27), I.n 2 24 (I.c1 42 23 27), I.n 3 21 (I.mv 24), I.n 4 25 (I.ex 21 0), I.n 5 26 (I.ex 21 1), I.n 6 8 (I.sa 25), I.n 7 9 (I.sa 26)]) (.seq (.reg 4 [I.n 0 28 (I.mv 1), I.n 1 29 (I.c1 44 28 56), I.n 2 30 (I.c1 43 29 56), I.n 3 27 (I.mv 30), I.n 4 31 (I.ex 27 0), I.n 5 32 (I.ex 27 1), I.n 6 10 (.alloc 27), I.u 7 (I.st 27 10 31), I.n 8 11 (I.sa 32)]) (.seq (.reg 5 [I.n 0 34 (I.mv 1), I.n 1 35 (I.c1 44 34 56), I.n 2 36 (I.c1 45 35 56), I.n 3 33 (I.mv 36), I.n 4 37 (I.ex 33 0), I.n 5 38 (I.ex 33 1), I.n 6 12 (.alloc 27), I.u 7 (I.st 27 12 37), I.n 8 13 (I.sa 38)]) (.seq (.reg 6 [I.n 0 39 (I.mv 5), I.n 1 40 (I.mv 39), I.w 2 41 (I.mv 6) 40 true, I.w 3 42 (I.cv 56 9 41) 40 true, I.w 4 43 (I.mv 8) 40 true, I.w 5 44 (I.cv 56 9 43) 40 true, I.w 6 45 (I.bo .eql 9 42 44 9) 40 true, I.n 7 46 (I.pc 40 45 false), I.n 8 47 (I.mv 46), I.w 9 48 (I.mv 7) 47 true, I.w 10 49 (I.mv 9) 47 true, I.w 11 50 (I.bo .eql 30 48 49 30) 47 true, I.n 12 51 (I.pc 47 50 false), I.n 13 52 (I.mv 51), I.w 14 53 (I.ld 27 10) 52 true, I.w 15 54 (I.ld 27 12) 52 true, I.w 16 55 (I.c2 28 53 54 27 27) 52 true, I.n 17 56 (I.pc 52 55 false), I.n 18 57 (I.mv 56), I.w 19 58 (I.mv 11) 57 true, I.w 20 59 (I.mv 13) 57 true, I.w 21 60 (I.bo .eql 30 58 59 30) 57 true, I.n 22 61 (I.pc 57 60 false), I.n 23 4 (I.sa 61)]) .ret))))))) := by
  intro c h
  have : c = Tryd.f6.body.get rfl := by rw [← Option.some_inj, ← h]; rfl
  rw [this]; rfl
theorem comp7 : ∀ c, Tryd.f7.body = some c → comp c = (.seq (.reg 0 [I.n 0 2 (I.sb false)]) (.seq (.reg 1 [I.n 0 9 (I.c0 39), I.n 1 3 (I.sa 9)]) (.seq (.reg 2 [I.n 0 10 (I.mv 0), I.n 1 11 (I.c1 44 10 56), I.n 2 4 (I.sa 11)]) (.seq (.reg 3 [I.n 0 13 (I.mv 4), I.n 1 14 (I.c1 43 13 56), I.n 2 12 (I.mv 14), I.n 3 15 (I.ex 12 0), I.n 4 16 (I.ex 12 1), I.n 5 5 (.alloc 27), I.u 6 (I.st 27 5 15), I.n 7 6 (I.sa 16)]) (.seq (.seq (.reg 4 [I.n 0 17 (I.mv 6), I.n 1 18 (I.bc .neq 30 17 0 30)]) (.cond (.tmp 18) (.seq (.reg 5 [I.n 0 19 (I.mv 3), I.n 1 20 (I.mv 19), I.w 2 21 (I.ld 27 5) 20 true, I.w 3 22 (.build 27 #[]) 20 true, I.w 4 23 (I.c2 28 21 22 27 27) 20 true, I.n 5 24 (I.pc 20 23 false), I.n 6 25 (I.mv 24), I.w 7 26 (I.mv 6) 25 true, I.w 8 27 (I.bc .eql 30 26 7 30) 25 true, I.w 9 28 (I.mv 27) 25 true, I.w 10 29 (I.mv 6) 28 false, I.w 11 30 (I.bc .eql 30 29 8 30) 28 false, I.w 12 31 (I.pb 28 true 30) 25 true, I.w 13 32 (I.mv 31) 25 true, I.w 14 33 (I.mv 6) 32 false, I.w 15 34 (I.bc .eql 30 33 9 30) 32 false, I.w 16 35 (I.pb 32 true 34) 25 true, I.n 17 36 (I.pc 25 35 false), I.n 18 2 (I.sa 36)]) .ret) .skip)) (.seq (.reg 6 [I.n 0 38 (I.ld 27 5), I.n 1 39 (I.c1 40 38 27), I.n 2 37 (I.mv 39), I.n 3 40 (I.ex 37 0), I.n 4 41 (I.ex 37 1), I.n 5 7 (I.sa 40), I.n 6 8 (I.sa 41)]) (.seq (.reg 7 [I.n 0 42 (I.mv 3), I.n 1 43 (I.mv 42), I.w 2 44 (I.mv 8) 43 true, I.w 3 45 (I.bc .eql 30 44 0 30) 43 true, I.n 4 46 (I.pc 43 45 false), I.n 5 47 (I.mv 46), I.w 6 48 (I.mv 7) 47 true, I.w 7 49 (I.cv 56 9 48) 47 true, I.w 8 50 (I.mv 4) 47 true, I.w 9 51 (I.cv 56 9 50) 47 true, I.w 10 52 (I.bo .eql 9 49 51 9) 47 true, I.n 11 53 (I.pc 47 52 false), I.n 12 54 (I.mv 53), I.w 13 55 (I.ld 27 5) 54 true, I.w 14 56 (I.c1 46 55 27) 54 true, I.w 15 57 (I.bc .eql 30 56 0 30) 54 true, I.n 16 58 (I.pc 54 57 false), I.n 17 2 (I.sa 58)]) .ret))))))) := by
  intro c h
  have : c = Tryd.f7.body.get rfl := by rw [← Option.some_inj, ← h]; rfl
  rw [this]; rfl
def sameLg (c d : Lg) : Bool := decide (c.base = d.base ∧ c.revs = d.revs ∧ c.segs = d.segs)
theorem sameLg_self (c : Lg) : sameLg c c = true := decide_eq_true ⟨rfl, rfl, rfl⟩
set_option maxHeartbeats 1000000 in
theorem same16_call (c d : Lg) (hc : LgS c) : CallW env 28 [lgA c, lgA d] (fun r hs => r = .v (.bool (sameLg c d)) ∧ hs = []) := by
  have hR := samerow_call c.revs d.revs (by have := hc.2.1; omega)
  have h1 := rowsA_len c.segs
  have h2 := rowsA_len d.segs
  have hcl := hc.2.2.1
  refine Ev.fn [0, 1, 2, 3, 4, 5, 27, 32, 46] 0 [.tmp 4] Tryd.func28 (comp28 _ rfl) ?_
  repeat' (first | ((with_reducible refine Ev.br0 ?_); (first | refine Ev.brp ?_ | refine Ev.brn ?_); conv => whnf) | ((with_reducible refine Ev.c0 ?_); first | refine Ev.cp ?_ | refine Ev.cn ?_) | ((refine Ev.sw ?_); conv => whnf) | refine Ev.sn ?_ | ((with_reducible refine Ev.chk_k ?_ ?_); rotate_left; exact Ev.bt; conv => whnf) | ((with_reducible (refine Ev.RI.run ?_; constructor)) <;> intro _) | ((refine Ev.sg ?_); conv => whnf) | ((with_reducible refine Ev.sided ?_ ?_); conv => whnf) | ((with_reducible refine Ev.kr (hs := []) (fun Q hQ => ?_)); (simp only [Ev.runE_cons, Ev.runE_nil]); conv => whnf) | (with_reducible refine hQ _ ?_; clear hQ Q) | ((refine Ev.sf ?_); intro F hF; conv => whnf) | (with_reducible refine hF _ ?_; clear hF F) | ((with_reducible refine Ev.go_k (fun c' => ?_)); conv => whnf) | ((with_reducible refine Ev.ca0 ?_); (first | refine Ev.ca (hR) ?_); conv => whnf) | ((with_reducible refine Ev.dr0 ?_); (first | refine Ev.dr 6 [] [0, 1, 2, 3, 4, 5, 6, 7, 8, 9, 10, 11] ?_); intro Q hQ; (simp only [Ev.runE_cons, Ev.runE_nil]); conv => whnf) | ((first | refine Ev.el_map0 ?_ (fun hi => ?_) | refine Ev.el_mapN ?_ (fun hi => ?_)); rotate_left; conv => whnf) | ((with_reducible refine Ev.sd0 ?_); exact Ev.sd) | fail)
  · rename_i e1 e2 e3
    have hlen : c.segs.length = d.segs.length := by omega
    refine Ev.loop (fun k s => ∃ i ct : Nat, s = ⟨[(2, .ptr 0 0 0 0), (3, .ptr 8 8 0 0), (4, .v (.bool false)), (5, .v (.int .i64 i))], [(8, ⟨3, 27, 8, 0, true, [[.v (.string d.base), .lst 1 (ints d.revs), .lst 1 (rowsA d.segs)]]⟩), (0, ⟨3, 27, 0, 0, true, [[.v (.string c.base), .lst 1 (ints c.revs), .lst 1 (rowsA c.segs)]]⟩)], ct⟩ ∧ k + i = c.segs.length ∧ c.segs.take i = d.segs.take i) ?_ ?_
    · (refine Ev.to _ ?hs1 ?hh1 ?hc1 ⟨c.segs.length, 0, ?_, rfl, ?hp1⟩; (case hs1 | hh1 => ((repeat' (first | exact trivial | refine And.intro ?_ ?_)) <;> (first | exact Ev.se | (refine Ev.slot_eq rfl ?_; first | (first | (simp; done) | (simp; omega)) | ((first | refine Ev.int_eq ?_ | refine Ev.own_eq ?_ | refine Ev.blk_eq ?_); (first | (simp; done) | (simp; omega)))) | exact Ev.sr))); (case hc1 => exact Nat.le_refl _))
      exact ⟨by omega, rfl⟩
    rintro k s1 ⟨i, ct, rfl, hk, hf⟩
    by_cases hi : i < c.segs.length
    · have hi2 : (i : Int) < ((rowsA c.segs).length : Int) := by omega
      have hid : i < d.segs.length := by omega
      have hic := hi
      have hS := same_call c.segs[i] d.segs[i] (by have := (hc.2.2.2 _ (List.getElem_mem hi)).1; omega)
      repeat' (first | ((with_reducible refine Ev.br0 ?_); (first | refine Ev.brp ?_ | refine Ev.brn ?_); conv => whnf) | ((with_reducible refine Ev.c0 ?_); first | refine Ev.cp ?_ | refine Ev.cn ?_) | (((with_reducible refine Ev.br_pos hi2 ?_); conv => whnf)) | (with_reducible refine Ev.c_pos hi2 ?_) | ((refine Ev.sw ?_); conv => whnf) | refine Ev.sn ?_ | ((with_reducible refine Ev.chk_k ?_ ?_); rotate_left; exact Ev.bt; conv => whnf) | ((with_reducible (refine Ev.RI.run ?_; constructor)) <;> intro _) | ((refine Ev.sg ?_); conv => whnf) | ((with_reducible refine Ev.sided ?_ ?_); conv => whnf) | ((with_reducible refine Ev.kr (hs := []) (fun Q hQ => ?_)); (simp only [Ev.runE_cons, Ev.runE_nil]); conv => whnf) | (with_reducible refine hQ _ ?_; clear hQ Q) | ((refine Ev.sf ?_); intro F hF; conv => whnf) | (with_reducible refine hF _ ?_; clear hF F) | ((with_reducible refine Ev.go_k (fun c' => ?_)); conv => whnf) | ((with_reducible refine Ev.ca0 ?_); (first | refine Ev.ca (hS) ?_); conv => whnf) | ((with_reducible refine Ev.dr0 ?_); (first | refine Ev.dr 6 [] [0, 1, 2, 3, 4, 5, 6, 7, 8, 9, 10, 11] ?_); intro Q hQ; (simp only [Ev.runE_cons, Ev.runE_nil]); conv => whnf) | ((first | refine Ev.el_map0 ?_ (fun hi => ?_) | refine Ev.el_mapN ?_ (fun hi => ?_)); rotate_left; conv => whnf) | ((with_reducible refine Ev.sd0 ?_); exact Ev.sd) | fail)
      · rename_i heq
        (refine Ev.again (k - 1) _ ?hm2 ?hs2 ?hh2 ?hc2 ⟨i + 1, ?_, rfl, ?hp2⟩; (case hs2 | hh2 => ((repeat' (first | exact trivial | refine And.intro ?_ ?_)) <;> (first | exact Ev.se | (refine Ev.slot_eq rfl ?_; first | (first | (simp; done) | (simp; omega)) | ((first | refine Ev.int_eq ?_ | refine Ev.own_eq ?_ | refine Ev.blk_eq ?_); (first | (simp; done) | (simp; omega)))) | exact Ev.sr))); (case hc2 => exact Nat.le_refl _); (case hm2 => omega))
        exact ⟨by omega, by rw [List.take_succ_eq_append_getElem hic, List.take_succ_eq_append_getElem hid, hf, heq]⟩
      · rename_i hne
        exact ⟨Ev.bool_eq (decide_eq_false (fun h => hne (by simp only [h.2.2]))).symm, rfl⟩
    · have hi2 : ¬ (i : Int) < ((rowsA c.segs).length : Int) := by omega
      repeat' (first | ((with_reducible refine Ev.br0 ?_); (first | refine Ev.brp ?_ | refine Ev.brn ?_); conv => whnf) | ((with_reducible refine Ev.c0 ?_); first | refine Ev.cp ?_ | refine Ev.cn ?_) | (((with_reducible refine Ev.br_neg hi2 ?_); conv => whnf)) | (with_reducible refine Ev.c_neg hi2 ?_) | ((refine Ev.sw ?_); conv => whnf) | refine Ev.sn ?_ | ((with_reducible refine Ev.chk_k ?_ ?_); rotate_left; exact Ev.bt; conv => whnf) | ((with_reducible (refine Ev.RI.run ?_; constructor)) <;> intro _) | ((refine Ev.sg ?_); conv => whnf) | ((with_reducible refine Ev.sided ?_ ?_); conv => whnf) | ((with_reducible refine Ev.kr (hs := []) (fun Q hQ => ?_)); (simp only [Ev.runE_cons, Ev.runE_nil]); conv => whnf) | (with_reducible refine hQ _ ?_; clear hQ Q) | ((refine Ev.sf ?_); intro F hF; conv => whnf) | (with_reducible refine hF _ ?_; clear hF F) | ((with_reducible refine Ev.go_k (fun c' => ?_)); conv => whnf) | ((with_reducible refine Ev.dr0 ?_); (first | refine Ev.dr 6 [] [0, 1, 2, 3, 4, 5, 6, 7, 8, 9, 10, 11] ?_); intro Q hQ; (simp only [Ev.runE_cons, Ev.runE_nil]); conv => whnf) | ((first | refine Ev.el_map0 ?_ (fun hi => ?_) | refine Ev.el_mapN ?_ (fun hi => ?_)); rotate_left; conv => whnf) | ((with_reducible refine Ev.sd0 ?_); exact Ev.sd) | fail)
      rw [List.take_of_length_le (by omega), List.take_of_length_le (by omega)] at hf
      exact ⟨Ev.bool_eq (decide_eq_true ⟨e1, e3, hf⟩).symm, rfl⟩
  · rename_i e1 e2 e3
    exact ⟨Ev.bool_eq (decide_eq_false (fun h => e3 h.2.1)).symm, rfl⟩
  · rename_i e1 e2
    exact ⟨Ev.bool_eq (decide_eq_false (fun h => e2 (by rw [h1, h2, h.2.2]))).symm, rfl⟩
  · rename_i e1
    exact ⟨Ev.bool_eq (decide_eq_false (fun h => e1 h.1)).symm, rfl⟩
def shF : Lg := ⟨⟨#[97]⟩, [0], []⟩
theorem shF_put : fPutE shF = 0 := by decide
theorem shF_enc : encF shF = [1, 97, 1, 0] := by decide
theorem shF_take : fTake [1, 97, 1, 0] = .ok shF := by
  have := fTake_put shF_put [] (by decide)
  rw [shF_enc] at this; exact this
theorem fputA_ok {c : Lg} (hc : LgS c) (hb : totW c.segs ≤ 900000000) (h : fPutE c = 0) : CallW env 40 [lgA c] (fun r hs => r = .tup [.lst 1 (bts (encF c)), .v (.int .i64 0)] ∧ hs = []) := by
  have := fput_call c hc hb
  rw [fPutA_ok h] at this; exact this
theorem shown21_call : CallW env 39 [] (fun r hs => r = .v (.bool true) ∧ hs = []) := by
  have hS : LgS shF := ⟨by decide, by decide, by decide, fun x hx => by cases hx⟩
  have le1 : Le (.agg [.v (.string ⟨#[97]⟩), .lst 1 (ints [0]), .v (.slice none 0 0)]) (lgA shF) := Le.agg3 (Le.refl _) (Le.refl _) (Le.nil 1)
  have h1 := (fputA_ok hS (by decide) shF_put).arg1 le1
  rw [shF_enc] at h1
  have h2 := ftake_call [1, 97, 1, 0]
  have e1 : fTakeC [1, 97, 1, 0] = shF := by unfold fTakeC; rw [shF_take]
  have e2 : fTakeE [1, 97, 1, 0] = 0 := by unfold fTakeE; rw [shF_take]
  rw [e1, e2] at h2
  have h3 := (same16_call shF shF hS).arg2 (Le.refl _) le1
  rw [sameLg_self] at h3
  obtain ⟨X, hX⟩ : ∃ X : List UInt8, X = [1, 97, 1, 0] := ⟨_, rfl⟩
  rw [← hX] at h1
  have he : (⟨X.toArray⟩ : ByteArray) = ⟨#[1, 97, 1, 0]⟩ := by subst hX; rfl
  have hb : [AV.lst 1 (bts [1, 97, 1, 0])] = [AV.lst 1 [[.v (.int .u8 1)], [.v (.int .u8 97)], [.v (.int .u8 1)], [.v (.int .u8 0)]]] := by simp [bts]
  rw [hb] at h2
  have h0 : (0 : Int) = 0 := rfl
  refine Ev.fn [0, 1, 2, 3, 4, 5] 0 [.tmp 0] Tryd.func39 (comp39 _ rfl) ?_
  repeat' (first | (with_reducible refine Ev.br_pos he ?_) | (with_reducible refine Ev.br_pos h0 ?_) | ((refine Ev.sw ?_); conv => whnf) | refine Ev.sn ?_ | ((with_reducible refine Ev.chk_k ?_ ?_); rotate_left; exact Ev.bt; conv => whnf) | ((with_reducible (refine Ev.RI.run ?_; constructor)) <;> intro _) | ((refine Ev.sg ?_); conv => whnf) | ((with_reducible refine Ev.sided ?_ ?_); conv => whnf) | ((with_reducible refine Ev.kr (hs := []) (fun Q hQ => ?_)); (simp only [Ev.runE_cons, Ev.runE_nil]); conv => whnf) | (with_reducible refine hQ _ ?_; clear hQ Q) | ((refine Ev.sf ?_); intro F hF; conv => whnf) | (with_reducible refine hF _ ?_; clear hF F) | ((with_reducible refine Ev.go_k (fun c' => ?_)); conv => whnf) | ((with_reducible refine Ev.ca0 ?_); (first | refine Ev.ca (h1) ?_ | refine Ev.ca (h2) ?_ | refine Ev.ca (h3) ?_); conv => whnf) | ((first | refine Ev.el_map0 ?_ (fun hi => ?_) | refine Ev.el_mapN ?_ (fun hi => ?_)); rotate_left; conv => whnf) | ((with_reducible refine Ev.sd0 ?_); exact Ev.sd) | fail)
  all_goals exact ⟨rfl, rfl⟩
theorem fewOf21_call (b : List UInt8) : CallW env 44 [.lst 1 (bts b)] (fun r hs => r = .lst 1 (bts (b.take 400)) ∧ hs = []) := by
  refine Ev.fn [0, 2] 0 [.tmp 2] Tryd.func44 (comp44 _ rfl) ?_
  repeat' (first | ((refine Ev.sw ?_); conv => whnf) | refine Ev.sn ?_ | ((with_reducible refine Ev.chk_k ?_ ?_); rotate_left; exact Ev.bt; conv => whnf) | ((with_reducible (refine Ev.RI.run ?_; constructor)) <;> intro _) | ((refine Ev.sg ?_); conv => whnf) | ((with_reducible refine Ev.sided ?_ ?_); conv => whnf) | ((with_reducible refine Ev.kr (hs := []) (fun Q hQ => ?_)); (simp only [Ev.runE_cons, Ev.runE_nil]); conv => whnf) | (with_reducible refine hQ _ ?_; clear hQ Q) | ((refine Ev.sf ?_); intro F hF; conv => whnf) | (with_reducible refine hF _ ?_; clear hF F) | ((with_reducible refine Ev.go_k (fun c' => ?_)); conv => whnf) | ((first | refine Ev.el_map0 ?_ (fun hi => ?_) | refine Ev.el_mapN ?_ (fun hi => ?_)); rotate_left; conv => whnf) | ((with_reducible refine Ev.sd0 ?_); exact Ev.sd) | fail)
  · refine ⟨Ev.lst_eq ?_, rfl⟩
    rw [bts_cut, List.drop_zero]
    congr 1
    rw [bts_len]
    rcases Nat.le_total b.length 400 with h | h
    · rw [List.take_of_length_le h, List.take_of_length_le (by omega)]
    · congr 1; omega
theorem totW_map (W : List (List Sp)) : totW (W.map fewS) ≤ 1284 * W.length := by
  induction W with
  | nil => simp [totW]
  | cons x W ih =>
    have h1 : tbs (fewS x) ≤ 1200 := few_tbs x
    have h2 : (fewS x).length ≤ 20 := few_len x
    rw [List.map_cons, totW_cons, List.length_cons, Nat.mul_succ]; omega
theorem fewC_totW (c : Lg) : totW (fewC c).segs ≤ 100000 := by
  have := totW_map (c.segs.take 8)
  have h5 : (c.segs.take 8).length ≤ 8 := by rw [List.length_take]; omega
  show totW ((c.segs.take 8).map fewS) ≤ _; omega
theorem taken_LgS {b : List UInt8} {c : Lg} (hb : b.length ≤ 100000000) (h : fTake b = .ok c) : LgS c ∧ totW c.segs ≤ 900000000 := by
  obtain ⟨h1, h2⟩ := fTake_inv h
  obtain ⟨p1, p2, p3, p4⟩ := fPutE_zero h1
  obtain ⟨c1, c2, c3, c4, c5⟩ := chE_zero p1
  obtain ⟨v1, v2⟩ := rises_len c3
  have hs : c.base.size ≤ 65536 := by
    unfold sPutE at p2; rw [if_pos c1] at p2
    split at p2
    · cases p2
    · omega
  have hl : c.segs.length ≤ 65536 := by omega
  refine ⟨⟨by omega, by omega, by omega, fun x hx => by have := put_small (p3 x hx); exact ⟨by omega, this.2⟩⟩, ?_⟩
  have key : ∀ l : List (List Sp), (∀ x ∈ l, wPutE x = 0) → totW l ≤ 6 * (l.flatMap encW).length + 4 * l.length := by
    intro l
    induction l with
    | nil => intro _; simp [totW]
    | cons x l ih =>
      intro hx
      have i1 := ih (fun y hy => hx y (by simp [hy]))
      have hw := wPutE_ok (hx x (by simp))
      have h2 : tbs x + x.length ≤ (x.flatMap encSp).length := by
        rcases tbs_flat x with h | h
        · exact h
        · exact absurd hw.2.2.2 h
      have h3 : (encW x).length = (putN x.length).length + (x.flatMap encSp).length := by simp [encW]
      rw [totW_cons, List.flatMap_cons, List.length_append, List.length_cons]; omega
  have := key c.segs p3
  have h5 : (c.segs.flatMap encW).length ≤ b.length := by rw [← h2]; unfold encF; rw [List.length_append]; omega
  omega
theorem lg0_LgS : LgS lg0 := ⟨by decide, by decide, by decide, fun x hx => by cases hx⟩
theorem fTakeC_LgS {b : List UInt8} (hb : b.length ≤ 100000000) : LgS (fTakeC b) := by
  unfold fTakeC
  cases h : fTake b with
  | error e => exact lg0_LgS
  | ok c => exact (taken_LgS hb h).1
def fPutX (c : Lg) : List UInt8 := if fPutE c = 0 then encF c else []
theorem fPutA_le (c : Lg) : LeR (fPutA c) (.tup [.lst 1 (bts (fPutX c)), .v (.int .i64 (fPutE c))]) := by
  unfold fPutX
  by_cases h : fPutE c = 0
  · rw [fPutA_ok h, if_pos h, h]; exact LeR.refl _
  · rw [fPutA_bad rfl h, if_neg h]; exact LeR.tup2 (LeR.nil 1) (LeR.refl _)
theorem fputX_call (c : Lg) (hc : LgS c) (hb : totW c.segs ≤ 900000000) : CallW env 40 [lgA c] (fun r hs => r = .tup [.lst 1 (bts (fPutX c)), .v (.int .i64 (fPutE c))] ∧ hs = []) := (fput_call c hc hb).res_eq (fPutA_le c)
theorem rfputX_call (c : Lg) (hc : LgS c) (hb : totW c.segs ≤ 900000000) : CallW env 42 [lgA c] (fun r hs => r = .tup [.lst 1 (bts (fPutX c)), .v (.int .i64 (fPutE c))] ∧ hs = []) := (rfput_call c hc hb).res_eq (fPutA_le c)
theorem fileAll_call (c : Lg) (b : List UInt8) : CallW env 6 [lgA c, .lst 1 (bts b)] (fun r hs => r = .v (.bool true) ∧ hs = []) := by
  have hF := few21_call c
  obtain ⟨hS, _⟩ := fewC_small c
  have htw := fewC_totW c
  generalize fewC c = w at *
  have hP := fputX_call w hS (by omega)
  have hP2 := rfputX_call w hS (by omega)
  have hG := fewOf21_call b
  have hbl : (b.take 400).length ≤ 400 := by rw [List.length_take]; omega
  generalize b.take 400 = d at *
  have hT := ftake_call d
  have hT2 := rftake_call d
  have hTS := fTakeC_LgS (b := d) (by omega)
  generalize fTakeC d = q at *
  generalize fTakeE d = e at *
  have hSm := same16_call q q hTS
  rw [sameLg_self] at hSm
  generalize fPutX w = X at *
  generalize fPutE w = f at *
  refine Ev.fn [0, 1, 2, 4, 5, 6, 7, 8, 9, 10, 11, 12, 13] 0 [.tmp 4] Tryd.func6 (comp6 _ rfl) ?_
  repeat' (first | ((with_reducible refine Ev.br0 ?_); (first | refine Ev.brp ?_ | refine Ev.brn ?_); conv => whnf) | ((with_reducible refine Ev.c0 ?_); first | refine Ev.cp ?_ | refine Ev.cn ?_) | (with_reducible refine Ev.br_pos rfl ?_) | (with_reducible refine Ev.c_pos rfl ?_) | ((refine Ev.sw ?_); conv => whnf) | refine Ev.sn ?_ | ((with_reducible refine Ev.chk_k ?_ ?_); rotate_left; exact Ev.bt; conv => whnf) | ((with_reducible (refine Ev.RI.run ?_; constructor)) <;> intro _) | ((refine Ev.sg ?_); conv => whnf) | ((with_reducible refine Ev.sided ?_ ?_); conv => whnf) | ((with_reducible refine Ev.kr (hs := []) (fun Q hQ => ?_)); (simp only [Ev.runE_cons, Ev.runE_nil]); conv => whnf) | (with_reducible refine hQ _ ?_; clear hQ Q) | ((refine Ev.sf ?_); intro F hF; conv => whnf) | (with_reducible refine hF _ ?_; clear hF F) | ((with_reducible refine Ev.go_k (fun c' => ?_)); conv => whnf) | ((with_reducible refine Ev.ca0 ?_); (first | refine Ev.ca (shown21_call) ?_ | refine Ev.ca (hF) ?_ | refine Ev.ca (hG) ?_ | refine Ev.ca (hP) ?_ | refine Ev.ca (hP2) ?_ | refine Ev.ca (hT) ?_ | refine Ev.ca (hT2) ?_ | refine Ev.ca (hSm) ?_); conv => whnf) | ((first | refine Ev.el_map0 ?_ (fun hi => ?_) | refine Ev.el_mapN ?_ (fun hi => ?_)); rotate_left; conv => whnf) | ((with_reducible refine Ev.sd0 ?_); exact Ev.sd) | fail)
  all_goals exact ⟨Ev.bool_eq (decide_eq_true rfl), rfl⟩
theorem fileTaken_call (b : List UInt8) : CallW env 7 [.lst 1 (bts b)] (fun r hs => r = .v (.bool true) ∧ hs = []) := by
  have hG := fewOf21_call b
  have hbl : (b.take 400).length ≤ 400 := by rw [List.length_take]; omega
  generalize b.take 400 = d at *
  have hT := ftake_call d
  unfold fTakeC fTakeE at hT
  cases h : fTake d with
  | error e =>
    rw [h] at hT
    have he := fTake_bad h
    have he0 : e ≠ 0 := by rcases he with ⟨_, h⟩ | ⟨_, h⟩ <;> omega
    have he3 : e = 7 ∨ e = 8 ∨ e = 9 := by omega
    have hSm := (same16_call lg0 lg0 lg0_LgS).arg2 (Le.refl _) (Le.agg3 (Le.refl (.v (.string ⟨#[]⟩))) (Le.nil 1) (Le.nil 1))
    rw [sameLg_self] at hSm
    refine Ev.fn [0, 2, 3, 4, 5, 6, 7, 8, 18] 0 [.tmp 2] Tryd.func7 (comp7 _ rfl) ?_
    repeat' (first | ((with_reducible refine Ev.br0 ?_); (first | refine Ev.brp ?_ | refine Ev.brn ?_); conv => whnf) | ((with_reducible refine Ev.c0 ?_); first | refine Ev.cp ?_ | refine Ev.cn ?_) | ((refine Ev.sw ?_); conv => whnf) | refine Ev.sn ?_ | ((with_reducible refine Ev.chk_k ?_ ?_); rotate_left; exact Ev.bt; conv => whnf) | ((with_reducible (refine Ev.RI.run ?_; constructor)) <;> intro _) | ((refine Ev.sg ?_); conv => whnf) | ((with_reducible refine Ev.sided ?_ ?_); conv => whnf) | ((with_reducible refine Ev.kr (hs := []) (fun Q hQ => ?_)); (simp only [Ev.runE_cons, Ev.runE_nil]); conv => whnf) | (with_reducible refine hQ _ ?_; clear hQ Q) | ((refine Ev.sf ?_); intro F hF; conv => whnf) | (with_reducible refine hF _ ?_; clear hF F) | ((with_reducible refine Ev.go_k (fun c' => ?_)); conv => whnf) | ((with_reducible refine Ev.ca0 ?_); (first | refine Ev.ca (shown21_call) ?_ | refine Ev.ca (hG) ?_ | refine Ev.ca (hT) ?_ | refine Ev.ca (hSm) ?_); conv => whnf) | ((first | refine Ev.el_map0 ?_ (fun hi => ?_) | refine Ev.el_mapN ?_ (fun hi => ?_)); rotate_left; conv => whnf) | ((with_reducible refine Ev.sd0 ?_); exact Ev.sd) | fail)
    all_goals first | exact absurd (by assumption) he0 | exact ⟨rfl, rfl⟩ | exact ⟨Ev.bool_eq (decide_eq_true (by omega)), rfl⟩ | (exfalso; omega)
  | ok c =>
    rw [h] at hT
    obtain ⟨hS, htw⟩ := taken_LgS (by omega) h
    obtain ⟨p1, p2⟩ := fTake_inv h
    have hP := fputA_ok hS htw p1
    rw [p2] at hP
    have hM := cmay_call c hS
    rw [(fPutE_zero p1).1] at hM
    refine Ev.fn [0, 2, 3, 4, 5, 6, 7, 8, 18] 0 [.tmp 2] Tryd.func7 (comp7 _ rfl) ?_
    repeat' (first | ((with_reducible refine Ev.br0 ?_); (first | refine Ev.brp ?_ | refine Ev.brn ?_); conv => whnf) | ((with_reducible refine Ev.c0 ?_); first | refine Ev.cp ?_ | refine Ev.cn ?_) | (with_reducible refine Ev.br_pos rfl ?_) | (with_reducible refine Ev.c_pos rfl ?_) | ((refine Ev.sw ?_); conv => whnf) | refine Ev.sn ?_ | ((with_reducible refine Ev.chk_k ?_ ?_); rotate_left; exact Ev.bt; conv => whnf) | ((with_reducible (refine Ev.RI.run ?_; constructor)) <;> intro _) | ((refine Ev.sg ?_); conv => whnf) | ((with_reducible refine Ev.sided ?_ ?_); conv => whnf) | ((with_reducible refine Ev.kr (hs := []) (fun Q hQ => ?_)); (simp only [Ev.runE_cons, Ev.runE_nil]); conv => whnf) | (with_reducible refine hQ _ ?_; clear hQ Q) | ((refine Ev.sf ?_); intro F hF; conv => whnf) | (with_reducible refine hF _ ?_; clear hF F) | ((with_reducible refine Ev.go_k (fun c' => ?_)); conv => whnf) | ((with_reducible refine Ev.ca0 ?_); (first | refine Ev.ca (shown21_call) ?_ | refine Ev.ca (hG) ?_ | refine Ev.ca (hT) ?_ | refine Ev.ca (hP) ?_ | refine Ev.ca (hM) ?_); conv => whnf) | ((first | refine Ev.el_map0 ?_ (fun hi => ?_) | refine Ev.el_mapN ?_ (fun hi => ?_)); rotate_left; conv => whnf) | ((with_reducible refine Ev.sd0 ?_); exact Ev.sd) | fail)
    all_goals exact ⟨rfl, rfl⟩
end Go.Proofs.YtadlnaljicikfaaDoor.Abs
