/- A part of the proof: a calculus over values, and contracts of functions. No condition. -/
import Derived.Test.YtadlnaljicikfaaDoorZH9
namespace Go.Proofs.YtadlnaljicikfaaDoor.Abs
open Go
set_option maxRecDepth 100000
set_option linter.unusedSimpArgs false
set_option linter.unusedVariables false
attribute [local irreducible] Ev.Unr Ev.Go' Ev.bytK Ev.runK Ev.FinL Ev.brC Ev.Side Ev.Wp Ev.Again Ev.To Ev.Fin
open Go.Lib Go.RowKit
theorem comp116 : ∀ c, Tryd.f116.body = some c → comp c = (.seq (.reg 0 [I.n 0 4 (I.si 0)]) (.seq (.seq (.reg 1 [I.n 0 8 (I.mv 0), I.n 1 9 (I.c1 72 8 23), I.n 2 5 (I.sa 9)]) (.seq (.reg 2 [I.n 0 10 (I.mv 5), I.n 1 11 (I.bc .neq 30 10 0 30)]) (.cond (.tmp 11) (.seq (.reg 3 [I.n 0 12 (I.mv 5), I.n 1 4 (I.sa 12)]) .ret) .skip))) (.seq (.reg 4 [I.n 0 14 (I.mv 0), I.n 1 15 (I.c1 74 14 23), I.n 2 16 (I.mv 1), I.n 3 17 (I.c2 157 15 16 3 22), I.n 4 13 (I.mv 17), I.n 5 18 (I.ex 13 0), I.n 6 19 (I.ex 13 1), I.n 7 6 (I.sa 18), I.n 8 7 (I.sa 19)]) (.seq (.reg 5 [I.n 0 20 (I.mv 7), I.n 1 4 (I.sa 20)]) .ret)))) := by
  intro c h
  have : c = Tryd.f116.body.get rfl := by rw [← Option.some_inj, ← h]; rfl
  rw [this]; rfl
def tmE (a : List Sp) (L : List (List Sp)) : Int := if opMayF a = 0 then (sizeG (inW a) L).2 else opMayF a
theorem tmay_call (a : List Sp) (L : List (List Sp)) (la : a.length ≤ 1000000000) (sa : Small a) (hb : ∀ x ∈ L, x.length ≤ 1000000000 ∧ Small x) (hL : L.length ≤ 10000000) :
    CallW env 116 [.lst 3 (sps a), .lst 1 (rowsA L)] (fun r hs => r = .v (.int .i64 (tmE a L)) ∧ hs = []) := by
  have hM := opMay_call a la sa
  unfold tmE
  by_cases h1 : opMayF a = 0
  · rw [if_pos h1]
    rw [h1] at hM
    obtain ⟨o1, o2⟩ := OpS.of h1 la
    have hI := opIn_call a la
    have hn : 0 ≤ inW a ∧ inW a ≤ 1048576 := by
      have := sumI_bound inS 1048576 a (fun s hs => (o1.all s hs).inS)
      have := o1.bnd
      omega
    have hZ := fsizes_call (inW a) hn L hb hL
    unfold sizeA at hZ
    refine Ev.fn [0, 1, 4, 5, 7, 11] 0 [.tmp 4] Tryd.func116 (comp116 _ rfl) ?_
    repeat' (first | ((with_reducible refine Ev.br0 ?_); (first | refine Ev.brp ?_ | refine Ev.brn ?_); conv => whnf) | ((with_reducible refine Ev.c0 ?_); first | refine Ev.cp ?_ | refine Ev.cn ?_) | ((refine Ev.sw ?_); conv => whnf) | refine Ev.sn ?_ | ((with_reducible refine Ev.chk_k ?_ ?_); rotate_left; exact Ev.bt; conv => whnf) | ((with_reducible (refine Ev.RI.run ?_; constructor)) <;> intro _) | ((refine Ev.sg ?_); conv => whnf) | ((with_reducible refine Ev.sided ?_ ?_); conv => whnf) | ((with_reducible refine Ev.kr (hs := []) (fun Q hQ => ?_)); (simp only [Ev.runE_cons, Ev.runE_nil]); conv => whnf) | (with_reducible refine hQ _ ?_; clear hQ Q) | ((refine Ev.sf ?_); intro F hF; conv => whnf) | (with_reducible refine hF _ ?_; clear hF F) | ((with_reducible refine Ev.go_k (fun c' => ?_)); conv => whnf) | ((with_reducible refine Ev.ca0 ?_); (first | refine Ev.ca (hM) ?_ | refine Ev.ca (hI) ?_ | refine Ev.ca (hZ) ?_); conv => whnf) | ((first | refine Ev.el_map0 ?_ (fun hi => ?_) | refine Ev.el_mapN ?_ (fun hi => ?_)); rotate_left; conv => whnf) | ((with_reducible refine Ev.sd0 ?_); exact Ev.sd) | fail)
    exact ⟨rfl, rfl⟩
  · rw [if_neg h1]
    refine Ev.fn [0, 1, 4, 5, 7, 11] 0 [.tmp 4] Tryd.func116 (comp116 _ rfl) ?_
    repeat' (first | (with_reducible refine Ev.c_neg h1 ?_) | (with_reducible refine Ev.br_neg h1 ?_) | ((with_reducible refine Ev.br0 ?_); (first | refine Ev.brp ?_ | refine Ev.brn ?_); conv => whnf) | ((with_reducible refine Ev.c0 ?_); first | refine Ev.cp ?_ | refine Ev.cn ?_) | ((refine Ev.sw ?_); conv => whnf) | refine Ev.sn ?_ | ((with_reducible refine Ev.chk_k ?_ ?_); rotate_left; exact Ev.bt; conv => whnf) | ((with_reducible (refine Ev.RI.run ?_; constructor)) <;> intro _) | ((refine Ev.sg ?_); conv => whnf) | ((with_reducible refine Ev.sided ?_ ?_); conv => whnf) | ((with_reducible refine Ev.kr (hs := []) (fun Q hQ => ?_)); (simp only [Ev.runE_cons, Ev.runE_nil]); conv => whnf) | (with_reducible refine hQ _ ?_; clear hQ Q) | ((refine Ev.sf ?_); intro F hF; conv => whnf) | (with_reducible refine hF _ ?_; clear hF F) | ((with_reducible refine Ev.go_k (fun c' => ?_)); conv => whnf) | ((with_reducible refine Ev.ca0 ?_); (first | refine Ev.ca (hM) ?_); conv => whnf) | ((first | refine Ev.el_map0 ?_ (fun hi => ?_) | refine Ev.el_mapN ?_ (fun hi => ?_)); rotate_left; conv => whnf) | ((with_reducible refine Ev.sd0 ?_); exact Ev.sd) | fail)
    exact ⟨rfl, rfl⟩
end Go.Proofs.YtadlnaljicikfaaDoor.Abs

namespace Go.Proofs.YtadlnaljicikfaaDoor.Abs
open Go
set_option maxRecDepth 100000
set_option linter.unusedSimpArgs false
set_option linter.unusedVariables false
attribute [local irreducible] Ev.Unr Ev.Go' Ev.bytK Ev.runK Ev.FinL Ev.brC Ev.Side Ev.Wp Ev.Again Ev.To Ev.Fin
open Go.Lib Go.RowKit
theorem comp68 : ∀ c, Tryd.f68.body = some c → comp c = (.seq (.reg 0 [I.n 0 4 I.sn, I.n 1 5 (I.si 0)]) (.seq (.seq (.reg 1 [I.n 0 11 (I.mv 0), I.n 1 12 (I.mv 1), I.n 2 13 (I.c2 116 11 12 23 22), I.n 3 6 (I.sa 13)]) (.seq (.reg 2 [I.n 0 14 (I.mv 6), I.n 1 15 (I.bc .neq 30 14 0 30)]) (.cond (.tmp 15) (.seq (.reg 3 [I.n 0 16 (I.mv 6), I.n 1 4 I.sn, I.n 2 5 (I.sa 16)]) .ret) .skip))) (.seq (.reg 4 [I.n 0 17 (I.mv 0), I.n 1 18 (I.c1 35 17 23), I.n 2 7 (I.sa 18)]) (.seq (.seq (.reg 5 [I.n 0 19 (I.mv 1), I.n 1 20 (I.ln 19 22), I.n 2 21 (.move (.const (Value.int .i64 0)))]) (.block 0 (.loop (.seq (.reg 6 [I.n 0 22 (I.bo .lss 3 21 20 3)]) (.seq (.cond (.tmp 22) .skip (.exit 0)) (.seq (.block 1 (.seq (.reg 7 [I.n 0 23 (I.mv 21), I.n 1 8 (I.sa 23)]) (.seq (.reg 8 [I.n 0 24 (I.mv 1), I.n 1 25 (I.mv 8), I.n 2 26 (I.mv 8), I.n 3 27 (I.bc .add 3 26 1 3), I.n 4 28 (I.mv 8), I.n 5 29 (I.bc .add 3 28 1 3), I.n 6 30 (.slice 22 (.tmp 24) (some (.tmp 25)) (some (.tmp 27)) (some (.tmp 29))), I.n 7 31 (I.ln 30 22), I.n 8 32 (.move (.const (Value.int .i64 0)))]) (.block 2 (.loop (.seq (.reg 9 [I.n 0 33 (I.bo .lss 3 32 31 3)]) (.seq (.cond (.tmp 33) .skip (.exit 2)) (.seq (.block 3 (.seq (.reg 10 [I.n 0 34 (I.ia 22 30 32), I.n 1 35 (I.ld 23 34), I.n 2 10 (I.sa 35)]) (.reg 11 [I.n 0 37 (I.mv 7), I.n 1 38 (I.mv 10), I.n 2 39 (I.c2 36 37 38 23 23), I.n 3 36 (I.mv 39), I.n 4 40 (I.ex 36 0), I.n 5 41 (I.ex 36 1), I.n 6 7 (I.sa 40)]))) (.reg 12 [I.n 0 42 (I.bc .add 3 32 1 3), I.n 1 32 (I.mv 42)]))))))))) (.reg 13 [I.n 0 43 (I.bc .add 3 21 1 3), I.n 1 21 (I.mv 43)]))))))) (.seq (.reg 14 [I.n 0 44 (I.mv 7), I.n 1 4 (I.sa 44), I.n 2 5 (I.si 0)]) .ret))))) := by
  intro c h
  have : c = Tryd.f68.body.get rfl := by rw [← Option.some_inj, ← h]; rfl
  rw [this]; rfl
def thrO : List Sp → List (List Sp) → List Sp
  | x, [] => x
  | x, s :: L => thrO (ovrO x s) L
def thrA (a : List Sp) (L : List (List Sp)) : AV := .tup [if tmE a L = 0 then .lst 3 (sps (thrO (norm a) L)) else nilA, .v (.int .i64 (tmE a L))]
theorem size_ok {n : Int} {s : List Sp} {L : List (List Sp)} (h : (sizeG n (s :: L)).2 = 0) : opMayF s = 0 ∧ inW s = n ∧ (sizeG (outW s) L).2 = 0 := by
  simp only [sizeG] at h
  by_cases h1 : opMayF s = 0
  · rw [if_pos h1] at h
    by_cases h2 : inW s = n
    · rw [if_pos h2] at h; exact ⟨h1, h2, h⟩
    · rw [if_neg h2] at h; simp at h
  · rw [if_neg h1] at h; exact absurd h h1
theorem ovrO_may {a b : List Sp} (h : ovrE a b = 0) (la : a.length ≤ 10000000) (lb : b.length ≤ 10000000) (hb : sumI outS b ≤ 1048576) :
    opMayF (ovrO a b) = 0 ∧ inW (ovrO a b) = outW b ∧ (ovrO a b).length ≤ a.length + b.length ∧ tbs (ovrO a b) ≤ tbs a := by
  obtain ⟨h1, h2, h3⟩ := ovrE_ok h
  have oa := (OpS.of h1 (by omega)).1
  have ob := (OpS.of h2 (by omega)).1
  have hco := ovrO_all oa ob (ovr_in h1 h2 la lb h3) hb
  have g4 := hco.2.2.2.2.2.2.2.2
  obtain ⟨g1, g2, g3, _⟩ := hco
  obtain ⟨m1, m2⟩ := g1.ops.may (by omega)
  have eb := outW_eq b
  have fb : 0 ≤ sumI outS b := by have := mks_size ob.all; omega
  rw [wrap_id (by omega)] at eb
  exact ⟨m1, by omega, g4⟩
structure TI (a : List Sp) (L : List (List Sp)) (i : Nat) (x : List Sp) : Prop where
  may : opMayF x = 0
  fit : (sizeG (inW x) (L.drop i)).2 = 0
  eq : thrO x (L.drop i) = thrO (norm a) L
  len : x.length + lenS (L.drop i) ≤ 9999999
  tb : tbs x ≤ 100000000
theorem TI.next {a : List Sp} {L : List (List Sp)} {i : Nat} {x : List Sp} (h : TI a L i x) (hi : i < L.length) (ho : ∀ s ∈ L, opMayF s = 0 → sumI outS s ≤ 1048576) : ovrE x L[i] = 0 ∧ L[i].length ≤ 9999999 ∧ TI a L (i + 1) (ovrO x L[i]) := by
  have hf := h.fit
  have he := h.eq
  have hl := h.len
  have hm := h.may
  rw [List.drop_eq_getElem_cons hi] at hf he hl
  obtain ⟨l1, l2⟩ := lenS_cons L[i] (L.drop (i + 1))
  rw [l1] at hl
  obtain ⟨f1, f2, f3⟩ := size_ok hf
  have e0 : ovrE x L[i] = 0 := by unfold ovrE; rw [if_neg (by simpa using hm), if_neg (by simpa using f1), if_neg (by simpa using f2.symm)]
  obtain ⟨m1, m2, m3, m4⟩ := ovrO_may e0 (by omega) (by omega) (ho _ (List.getElem_mem hi) f1)
  exact ⟨e0, by omega, m1, by rw [m2]; exact f3, he, by omega, by have := h.tb; omega⟩
theorem TI.first {a : List Sp} {L : List (List Sp)} (h : tmE a L = 0) (hl : a.length + lenS L ≤ 9999999) (hb : tbs a ≤ 100000000) : TI a L 0 (norm a) := by
  unfold tmE at h
  by_cases h1 : opMayF a = 0
  · rw [if_pos h1] at h
    obtain ⟨o1, o2⟩ := OpS.of h1 (by omega)
    obtain ⟨n1, _, _, n4, _, n6, n7, _⟩ := o1.norm
    obtain ⟨m1, m2⟩ := n1.may (by omega)
    exact ⟨m1, by rw [m2, n4, ← o2]; exact h, rfl, by rw [List.drop_zero]; omega, by omega⟩
  · rw [if_neg h1] at h; exact absurd h h1
theorem lenS_mem {x : List Sp} {L : List (List Sp)} (h : x ∈ L) : x.length ≤ lenS L := by
  induction L with
  | nil => simp at h
  | cons y L ih =>
    rw [(lenS_cons y L).1]
    rcases List.mem_cons.1 h with rfl | h
    · omega
    · have := ih h; omega
theorem el_one {es : List (List AV)} {x : List AV} {F : List AV → Prop} (h : es = [x]) (k : F x) : Ev.elK es (Int.toNat 0) F := by
  subst h; exact k
theorem thr_call (a : List Sp) (L : List (List Sp)) (hl : a.length + lenS L ≤ 9999999) (ha : tbs a ≤ 100000000) (hb : ∀ x ∈ L, tbs x ≤ 100000000) (hL : L.length ≤ 10000000) (ho : ∀ s ∈ L, opMayF s = 0 → sumI outS s ≤ 1048576) :
    CallW env 68 [.lst 3 (sps a), .lst 1 (rowsA L)] (fun r hs => r = thrA a L ∧ hs = []) := by
  have hrl := rowsA_len L
  have hxl : ∀ x ∈ L, x.length ≤ 1000000000 ∧ Small x := fun x hx => ⟨by have := lenS_mem hx; omega, tbs_small (by have := hb x hx; omega)⟩
  have hM := tmay_call a L (by omega) (tbs_small (by omega)) hxl hL
  unfold thrA
  by_cases h0 : tmE a L = 0
  · rw [if_pos h0, h0]
    rw [h0] at hM
    have hN := nof_call a (by omega) (by omega)
    refine Ev.fn [0, 1, 4, 5, 6, 7, 8, 10, 15, 20, 21, 22, 30, 31, 32, 33] 0 [.tmp 4, .tmp 5] Tryd.func68 (comp68 _ rfl) ?_
    repeat' (first | ((with_reducible refine Ev.br0 ?_); (first | refine Ev.brp ?_ | refine Ev.brn ?_); conv => whnf) | ((with_reducible refine Ev.c0 ?_); first | refine Ev.cp ?_ | refine Ev.cn ?_) | ((refine Ev.sw ?_); conv => whnf) | refine Ev.sn ?_ | ((with_reducible refine Ev.chk_k ?_ ?_); rotate_left; exact Ev.bt; conv => whnf) | ((with_reducible (refine Ev.RI.run ?_; constructor)) <;> intro _) | ((refine Ev.sg ?_); conv => whnf) | ((with_reducible refine Ev.sided ?_ ?_); conv => whnf) | ((with_reducible refine Ev.kr (hs := []) (fun Q hQ => ?_)); (simp only [Ev.runE_cons, Ev.runE_nil]); conv => whnf) | (with_reducible refine hQ _ ?_; clear hQ Q) | ((refine Ev.sf ?_); intro F hF; conv => whnf) | (with_reducible refine hF _ ?_; clear hF F) | ((with_reducible refine Ev.go_k (fun c' => ?_)); conv => whnf) | ((with_reducible refine Ev.ca0 ?_); (first | refine Ev.ca (hM) ?_ | refine Ev.ca (hN) ?_); conv => whnf) | ((first | refine Ev.el_map0 ?_ (fun hi => ?_) | refine Ev.el_mapN ?_ (fun hi => ?_)); rotate_left; conv => whnf) | ((with_reducible refine Ev.sd0 ?_); exact Ev.sd) | fail)
    refine Ev.loop (fun k s => ∃ (i c : Nat) (x : List Sp), s = ⟨[(1, .lst 1 (rowsA L)), (7, .lst 3 (sps x)), (20, .v (.int .i64 L.length)), (21, .v (.int .i64 i))], [], c⟩ ∧ k + i = L.length ∧ TI a L i x) ?_ ?_
    · (refine Ev.to _ ?hs1 ?hh1 ?hc1 ⟨L.length, 0, ?_, norm a, rfl, ?hp1⟩; (case hs1 | hh1 => ((repeat' (first | exact trivial | refine And.intro ?_ ?_)) <;> (first | exact Ev.se | (refine Ev.slot_eq rfl ?_; first | (first | rfl | (simp; done)) | ((first | refine Ev.int_eq ?_ | refine Ev.own_eq ?_ | refine Ev.blk_eq ?_); (first | rfl | (simp; done)))) | exact Ev.sr))); (case hc1 => exact Nat.le_refl _))
      exact ⟨by omega, TI.first h0 hl ha⟩
    rintro k s1 ⟨i, c, x, rfl, hk, hT⟩
    by_cases hi : i < L.length
    · have hii : (i : Int) < (L.length : Int) := by omega
      obtain ⟨k', rfl⟩ : ∃ k', k = k' + 1 := ⟨k - 1, by omega⟩
      have hw : IntKind.i64.wrap ((i : Int) + 1) = ((i + 1 : Nat) : Int) := by rw [wrap_id (by omega)]; omega
      obtain ⟨e0, l0, hN'⟩ := hT.next hi ho
      have hcut : List.take ((IntKind.i64.wrap ((i : Int) + 1)).toNat - (i : Int).toNat) (List.drop (i : Int).toNat (rowsA L)) = [[AV.lst 3 (sps L[i])]] := by
        rw [hw, Int.toNat_natCast, Int.toNat_natCast, show i + 1 - i = 1 by omega, List.drop_eq_getElem_cons (by rw [hrl]; exact hi)]
        simp [rowsA]
      have hp1 : (0 : Int) < ((List.take ((IntKind.i64.wrap ((i : Int) + 1)).toNat - (i : Int).toNat) (List.drop (i : Int).toNat (rowsA L))).length : Int) := by rw [hcut]; first | (show (0 : Int) < 1; omega) | (show ¬ IntKind.i64.wrap (0 + 1) < (1 : Int); decide)
      have hp2 : ¬ IntKind.i64.wrap (0 + 1) < ((List.take ((IntKind.i64.wrap ((i : Int) + 1)).toNat - (i : Int).toNat) (List.drop (i : Int).toNat (rowsA L))).length : Int) := by rw [hcut]; first | (show (0 : Int) < 1; omega) | (show ¬ IntKind.i64.wrap (0 + 1) < (1 : Int); decide)
      have hmem := List.getElem_mem hi
      have hC := ovr_call x L[i] (by have := hT.len; omega) (by omega) hT.tb (hb _ hmem) (tbs_small (by have := hT.tb; omega)) (tbs_small (by have := hb _ hmem; omega)) (ho _ hmem)
      rw [ovrA_ok e0] at hC
      repeat' (first | ((with_reducible refine Ev.br0 ?_); (first | refine Ev.brp ?_ | refine Ev.brn ?_); conv => whnf) | ((with_reducible refine Ev.c0 ?_); first | refine Ev.cp ?_ | refine Ev.cn ?_) | (with_reducible refine Ev.c_pos hii ?_) | (with_reducible refine Ev.br_pos hii ?_) | (with_reducible refine Ev.c_pos hp1 ?_) | (with_reducible refine Ev.br_pos hp1 ?_) | (with_reducible refine Ev.c_neg hp2 ?_) | (with_reducible refine Ev.br_neg hp2 ?_) | ((refine Ev.sw ?_); conv => whnf) | refine Ev.sn ?_ | ((with_reducible refine Ev.chk_k ?_ ?_); rotate_left; exact Ev.bt; conv => whnf) | ((with_reducible (refine Ev.RI.run ?_; constructor)) <;> intro _) | ((refine Ev.sg ?_); conv => whnf) | ((with_reducible refine Ev.sided ?_ ?_); conv => whnf) | ((with_reducible refine Ev.kr (hs := []) (fun Q hQ => ?_)); (simp only [Ev.runE_cons, Ev.runE_nil]); conv => whnf) | (with_reducible refine hQ _ ?_; clear hQ Q) | ((refine Ev.sf ?_); intro F hF; conv => whnf) | (with_reducible refine hF _ ?_; clear hF F) | ((with_reducible refine Ev.go_k (fun c' => ?_)); conv => whnf) | (with_reducible refine Ev.unroll 2 ?_) | ((refine el_one hcut ?_); conv => whnf) | ((with_reducible refine Ev.ca0 ?_); (first | refine Ev.ca (hC) ?_); conv => whnf) | ((first | refine Ev.el_map0 ?_ (fun hi => ?_) | refine Ev.el_mapN ?_ (fun hi => ?_)); rotate_left; conv => whnf) | ((with_reducible refine Ev.sd0 ?_); exact Ev.sd) | fail)
      (refine Ev.again (k') _ ?hm2 ?hs2 ?hh2 ?hc2 ⟨i + 1, ?_, ovrO x L[i], rfl, ?hp2⟩; (case hs2 | hh2 => ((repeat' (first | exact trivial | refine And.intro ?_ ?_)) <;> (first | exact Ev.se | (refine Ev.slot_eq rfl ?_; first | (first | exact hw | (simp; done) | rfl) | ((first | refine Ev.int_eq ?_ | refine Ev.own_eq ?_ | refine Ev.blk_eq ?_); (first | exact hw | (simp; done) | rfl))) | exact Ev.sr))); (case hc2 => exact Nat.le_refl _); (case hm2 => omega))
      exact ⟨by omega, hN'⟩
    · have hii : ¬ (i : Int) < (L.length : Int) := by omega
      have he := hT.eq
      rw [List.drop_of_length_le (by omega)] at he
      repeat' (first | (with_reducible refine Ev.c_neg hii ?_) | (with_reducible refine Ev.br_neg hii ?_) | ((with_reducible refine Ev.br0 ?_); (first | refine Ev.brp ?_ | refine Ev.brn ?_); conv => whnf) | ((with_reducible refine Ev.c0 ?_); first | refine Ev.cp ?_ | refine Ev.cn ?_) | ((refine Ev.sw ?_); conv => whnf) | refine Ev.sn ?_ | ((with_reducible refine Ev.chk_k ?_ ?_); rotate_left; exact Ev.bt; conv => whnf) | ((with_reducible (refine Ev.RI.run ?_; constructor)) <;> intro _) | ((refine Ev.sg ?_); conv => whnf) | ((with_reducible refine Ev.sided ?_ ?_); conv => whnf) | ((with_reducible refine Ev.kr (hs := []) (fun Q hQ => ?_)); (simp only [Ev.runE_cons, Ev.runE_nil]); conv => whnf) | (with_reducible refine hQ _ ?_; clear hQ Q) | ((refine Ev.sf ?_); intro F hF; conv => whnf) | (with_reducible refine hF _ ?_; clear hF F) | ((with_reducible refine Ev.go_k (fun c' => ?_)); conv => whnf) | ((first | refine Ev.el_map0 ?_ (fun hi => ?_) | refine Ev.el_mapN ?_ (fun hi => ?_)); rotate_left; conv => whnf) | ((with_reducible refine Ev.sd0 ?_); exact Ev.sd) | fail)
      exact ⟨by rw [← he]; rfl, rfl⟩
  · rw [if_neg h0]
    refine Ev.fn [0, 1, 4, 5, 6, 7, 8, 10, 15, 20, 21, 22, 30, 31, 32, 33] 0 [.tmp 4, .tmp 5] Tryd.func68 (comp68 _ rfl) ?_
    repeat' (first | (with_reducible refine Ev.c_neg h0 ?_) | (with_reducible refine Ev.br_neg h0 ?_) | ((with_reducible refine Ev.br0 ?_); (first | refine Ev.brp ?_ | refine Ev.brn ?_); conv => whnf) | ((with_reducible refine Ev.c0 ?_); first | refine Ev.cp ?_ | refine Ev.cn ?_) | ((refine Ev.sw ?_); conv => whnf) | refine Ev.sn ?_ | ((with_reducible refine Ev.chk_k ?_ ?_); rotate_left; exact Ev.bt; conv => whnf) | ((with_reducible (refine Ev.RI.run ?_; constructor)) <;> intro _) | ((refine Ev.sg ?_); conv => whnf) | ((with_reducible refine Ev.sided ?_ ?_); conv => whnf) | ((with_reducible refine Ev.kr (hs := []) (fun Q hQ => ?_)); (simp only [Ev.runE_cons, Ev.runE_nil]); conv => whnf) | (with_reducible refine hQ _ ?_; clear hQ Q) | ((refine Ev.sf ?_); intro F hF; conv => whnf) | (with_reducible refine hF _ ?_; clear hF F) | ((with_reducible refine Ev.go_k (fun c' => ?_)); conv => whnf) | ((with_reducible refine Ev.ca0 ?_); (first | refine Ev.ca (hM) ?_); conv => whnf) | ((first | refine Ev.el_map0 ?_ (fun hi => ?_) | refine Ev.el_mapN ?_ (fun hi => ?_)); rotate_left; conv => whnf) | ((with_reducible refine Ev.sd0 ?_); exact Ev.sd) | fail)
    exact ⟨rfl, rfl⟩
end Go.Proofs.YtadlnaljicikfaaDoor.Abs

namespace Go.Proofs.YtadlnaljicikfaaDoor.Abs
open Go
set_option maxRecDepth 100000
set_option linter.unusedSimpArgs false
set_option linter.unusedVariables false
attribute [local irreducible] Ev.Unr Ev.Go' Ev.bytK Ev.runK Ev.FinL Ev.brC Ev.Side Ev.Wp Ev.Again Ev.To Ev.Fin
open Go.Lib Go.RowKit
end Go.Proofs.YtadlnaljicikfaaDoor.Abs

namespace Go.Proofs.YtadlnaljicikfaaDoor.Abs
open Go Go.Lib
set_option linter.unusedSimpArgs false
set_option linter.unusedVariables false
mutual
/-- A value, its rows under other names. -/
def rnA (ρ : Nat → Nat) : AV → AV
  | .agg cs => .agg (rnAs ρ cs)
  | .tup cs => .tup (rnAs ρ cs)
  | .clo f a b => .clo f (rnAs ρ a) (rnAs ρ b)
  | .own r v off len => .own (ρ r) v off len
  | .ptr r v i o => .ptr (ρ r) v i o
  | x => x
def rnAs (ρ : Nat → Nat) : List AV → List AV
  | [] => []
  | c :: cs => rnA ρ c :: rnAs ρ cs
end
theorem rnAs_map (ρ : Nat → Nat) : ∀ cs, rnAs ρ cs = cs.map (rnA ρ)
  | [] => rfl
  | c :: cs => by simp only [rnAs, List.map_cons, rnAs_map ρ cs]
def rnH (ρ : Nat → Nat) : List (Nat × Blk) → List (Nat × Blk)
  | [] => []
  | (r, ⟨sz, ty, ver, frz, box, es⟩) :: l => (ρ r, ⟨sz, ty, ver, frz, box, if box then es.map (rnAs ρ) else es⟩) :: rnH ρ l
theorem PRel.rn {M : Mem} {ρ : Nat → Nat} {x : AV} {v : Value} (h : PRel M x v) : PRel M (rnA ρ x) v := by
  induction h with
  | v x => exact .v x
  | agg hn h1 _ ih =>
    simp only [rnA, rnAs_map]
    refine .agg (by rw [List.length_map]; exact hn) (by first | exact h1 | (rw [List.length_map]; exact h1)) (fun i c v hc hv => ?_)
    rw [List.getElem?_map, Option.map_eq_some_iff] at hc
    obtain ⟨d, hd, rfl⟩ := hc
    exact ih i d v hd hv
  | tup hn _ ih =>
    simp only [rnA, rnAs_map]
    refine .tup (by rw [List.length_map]; exact hn) (fun i c v hc hv => ?_)
    rw [List.getElem?_map, Option.map_eq_some_iff] at hc
    obtain ⟨d, hd, rfl⟩ := hc
    exact ih i d v hd hv
  | lst u hn hc hz hA hM h _ => exact .lst u hn hc hz hA hM h
  | rptr u hM h _ => exact .rptr u hM h
  | clo hn hm _ _ ih ih' =>
    simp only [rnA, rnAs_map]
    refine .clo (by rw [List.length_map]; exact hn) (by rw [List.length_map]; exact hm) (fun i c v hc hv => ?_) (fun i c v hc hv => ?_)
    · rw [List.getElem?_map, Option.map_eq_some_iff] at hc
      obtain ⟨d, hd, rfl⟩ := hc
      exact ih i d v hd hv
    · rw [List.getElem?_map, Option.map_eq_some_iff] at hc
      obtain ⟨d, hd, rfl⟩ := hc
      exact ih' i d v hd hv
theorem Rel.rn {M : Mem} {J : Locs} {ρ : Nat → Nat} {x : AV} {v : Value} (h : Rel M J x v) : Rel M J (rnA ρ x) v := by
  induction h with
  | pure h => exact .pure h.rn
  | agg hn h1 _ ih =>
    simp only [rnA, rnAs_map]
    refine .agg (by rw [List.length_map]; exact hn) (by first | exact h1 | (rw [List.length_map]; exact h1)) (fun i c v hc hv => ?_)
    rw [List.getElem?_map, Option.map_eq_some_iff] at hc
    obtain ⟨d, hd, rfl⟩ := hc
    exact ih i d v hd hv
  | tup hn _ ih =>
    simp only [rnA, rnAs_map]
    refine .tup (by rw [List.length_map]; exact hn) (fun i c v hc hv => ?_)
    rw [List.getElem?_map, Option.map_eq_some_iff] at hc
    obtain ⟨d, hd, rfl⟩ := hc
    exact ih i d v hd hv
  | clo hn hm _ _ ih ih' =>
    simp only [rnA, rnAs_map]
    refine .clo (by rw [List.length_map]; exact hn) (by rw [List.length_map]; exact hm) (fun i c v hc hv => ?_) (fun i c v hc hv => ?_)
    · rw [List.getElem?_map, Option.map_eq_some_iff] at hc
      obtain ⟨d, hd, rfl⟩ := hc
      exact ih i d v hd hv
    · rw [List.getElem?_map, Option.map_eq_some_iff] at hc
      obtain ⟨d, hd, rfl⟩ := hc
      exact ih' i d v hd hv
  | own hL hl hN hA hc => exact .own hL hl hN hA hc
  | ptr hL hN => exact .ptr hL hN
theorem rnH_get {ρ : Nat → Nat} : ∀ {hp : List (Nat × Blk)} {r : Nat} {k : Blk}, get (rnH ρ hp) r = some k →
    ∃ r0 k0, r = ρ r0 ∧ get hp r0 = some k0 ∧ k = ⟨k0.sz, k0.ty, k0.ver, k0.frz, k0.box, if k0.box then k0.es.map (rnAs ρ) else k0.es⟩
  | [], r, k, h => by simp [rnH, get_nil] at h
  | (a, ⟨sz, ty, ver, frz, box, es⟩) :: hp, r, k, h => by
    simp only [rnH] at h
    rw [get_cons] at h
    split at h
    · rename_i e
      obtain rfl := Option.some.inj h
      exact ⟨a, _, e, by rw [get_cons, if_pos rfl], rfl⟩
    · rename_i e
      obtain ⟨r0, k0, h1, h2, h3⟩ := rnH_get h
      refine ⟨r0, k0, h1, ?_, h3⟩
      rw [get_cons, if_neg (by rintro rfl; exact e h1)]; exact h2
theorem Inv.rn {E : Env} {M0 : Bas} {w0 : World} {c : Nat} {M : Mem} {J : Locs} {W : World} (ρ : Nat → Nat) {hp : List (Nat × Blk)} (inv : Inv E M0 w0 c M J ⟨[], hp, 0⟩ #[] W) : Inv E M0 w0 c M J ⟨[], rnH ρ hp, 0⟩ #[] W := by
  refine ⟨inv.below, inv.mem, inv.newM, inv.oldM, inv.glob, fun t x h => by simp [get_nil] at h, ?_, ?_, ?_, inv.vers, inv.oldJ, inv.far⟩
  · intro r k hk
    obtain ⟨r0, k0, rfl, h1, rfl⟩ := rnH_get hk
    obtain ⟨L, C, a1, a2, a3⟩ := inv.heap r0 k0 h1
    refine ⟨L, C, a1, a2, a3.blk, a3.none, a3.size, ?_, ?_, a3.sz, ?_, ?_, a3.cap⟩
    · have : (if k0.box then k0.es.map (rnAs ρ) else k0.es).length = k0.es.length := by split <;> simp
      show (if k0.box then k0.es.map (rnAs ρ) else k0.es).length ≤ _
      rw [this]; exact a3.fits
    · have : (if k0.box then k0.es.map (rnAs ρ) else k0.es).length = k0.es.length := by split <;> simp
      show _ ≤ (if k0.box then k0.es.map (rnAs ρ) else k0.es).length
      rw [this]; exact a3.frz
    · intro i e he
      have he : (if k0.box then k0.es.map (rnAs ρ) else k0.es)[i]? = some e := he
      split at he
      · rw [List.getElem?_map, Option.map_eq_some_iff] at he
        obtain ⟨d, hd, rfl⟩ := he
        rw [rnAs_map, List.length_map]; exact a3.len i d hd
      · exact a3.len i e he
    · intro i e j c he hc
      have he : (if k0.box then k0.es.map (rnAs ρ) else k0.es)[i]? = some e := he
      split at he
      · rename_i hb
        rw [List.getElem?_map, Option.map_eq_some_iff] at he
        obtain ⟨d, hd, rfl⟩ := he
        rw [rnAs_map, List.getElem?_map, Option.map_eq_some_iff] at hc
        obtain ⟨x, hx, rfl⟩ := hc
        obtain ⟨u, u1, u2, u3⟩ := a3.cell i d j x hd hx
        refine ⟨u, u1, u2, ?_⟩
        show CellRel M J k0.box _ u
        rw [hb]
        exact u3.rel.rn
      · exact a3.cell i e j c he hc
  · intro r r' k k' L L' hk hk' hL hL' hN hN' hr
    obtain ⟨r0, k0, rfl, h1, rfl⟩ := rnH_get hk
    obtain ⟨r1, k1, rfl, h2, rfl⟩ := rnH_get hk'
    exact inv.apart r0 r1 k0 k1 L L' h1 h2 hL hL' hN hN' (fun e => hr (by rw [e]))
  · intro r k L o u hk hL hN hu
    obtain ⟨r0, k0, rfl, h1, rfl⟩ := rnH_get hk
    exact inv.owns r0 k0 L o u h1 hL hN hu
theorem hcall_rn {E : Env} {N : Nat} {f : FuncId} {args args' : List AV} {hp hp' : List (Nat × Blk)} {R : AV → List (Nat × Blk) → Prop} (ρ1 ρ2 : Nat → Nat) (hc : HCallW E N f args hp R) (ha : rnAs ρ1 args' = args) (hh : rnH ρ1 hp' = hp) :
    HCallW E N f args' hp' fun r hp1 => ∃ r0 h0, R r0 h0 ∧ r = rnA ρ2 r0 ∧ hp1 = rnH ρ2 h0 := by
  subst ha; subst hh
  intro M0 w0 c M J w vs inv hn hr
  obtain ⟨a, b⟩ := hc M0 w0 c M J w vs (inv.rn ρ1) (by rw [rnAs_map, List.length_map]; exact hn) (fun i x v hx hv => by
    rw [rnAs_map, List.getElem?_map, Option.map_eq_some_iff] at hx
    obtain ⟨d, hd, rfl⟩ := hx
    exact (hr i d v hd hv).rn)
  refine ⟨a, b.mono ?_⟩
  rintro e w' ⟨v, r, hp1, c', M', J', x1, x2, x3, x4, x5, x6⟩
  exact ⟨v, _, _, c', M', J', x1, ⟨r, hp1, x2, rfl, rfl⟩, x3.rn ρ2, x4.rn, x5, x6⟩
theorem hcall_named {E : Env} {N nm : Nat} {f : FuncId} {args args' : List AV} {hp hp' hp0 : List (Nat × Blk)} {ct : Nat} {K : AV → List (Nat × Blk) → Nat → Prop} {R : AV → List (Nat × Blk) → Prop} (ρ1 ρ2 : Nat → Nat) (F : List (Nat × Blk))
    (hc : HCallW E N f args hp R) (ha : rnAs ρ1 args' = args) (hh : rnH ρ1 hp' = hp) (hs : subs hp0 hp') (hF : subs hp0 F) (hd : ∀ r, get hp' r ≠ none → get F r = none)
    (h : ∀ r h1, R r h1 → (∀ q, get (rnH ρ2 h1) q ≠ none → get F q = none) ∧ ∀ c', ct + 8 ≤ c' → K (rnA ρ2 r) (rnH ρ2 h1 ++ F) c') : Ev.HCallX E nm f args' hp0 ct K := by
  refine Ev.hcall_frame F (hcall_rn ρ1 ρ2 hc ha hh) rfl hs hF hd ?_
  rintro r hp1 ⟨r0, h0, h1, rfl, rfl⟩
  exact h r0 h0 h1
end Go.Proofs.YtadlnaljicikfaaDoor.Abs

namespace Go.Proofs.YtadlnaljicikfaaDoor.Abs
open Go
set_option maxRecDepth 100000
set_option linter.unusedSimpArgs false
set_option linter.unusedVariables false
attribute [local irreducible] Ev.Unr Ev.Go' Ev.bytK Ev.runK Ev.FinL Ev.brC Ev.Side Ev.Wp Ev.Again Ev.To Ev.Fin
open Go.Lib Go.RowKit
def p0_FnZd : Ev.Pl := (.one 0 false (.one 2 false (.one 3 false (.one 4 false (.one 5 false (.one 7 false (.one 8 false (.one 9 false (.two 1 (.two 6 (.one 10 false (.one 11 false (.one 12 false (.one 13 false (.one 14 false .fin))))) 10 (.one 6 false (.one 11 false (.one 12 false (.one 13 false (.one 14 false .fin)))))) 6 (.one 1 false (.one 10 false (.one 11 false (.one 12 false (.one 13 false (.one 14 false .fin)))))))))))))))
def p1_FnZd : Ev.Tr := (.one 0 false (.one 1 false (.one 2 false (.one 3 false (.one 4 false (.one 5 false (.one 6 false (.one 7 false (.one 11 false (.one 12 false (.one 13 false (.one 14 false (.one 16 false (.any (.alt 8 (.any (.alt 9 (.any (.alt 10 (.one 15 false (.one 17 false (.one 18 false (.one 19 false (.one 20 false (.one 21 false (.one 22 false (.one 23 false (.one 24 false (.one 25 false (.one 26 false .fin))))))))))) (.alt 15 (.any (.alt 10 (.one 17 false (.one 18 false (.one 19 false (.one 20 false (.one 21 false (.one 22 false (.one 23 false (.one 24 false (.one 25 false (.one 26 false .fin)))))))))) (.alt 17 (.one 10 false (.one 18 false (.one 19 false (.one 20 false (.one 21 false (.one 22 false (.one 23 false (.one 24 false (.one 25 false (.one 26 false .fin)))))))))) .stop))) (.alt 17 (.any (.alt 10 (.one 15 false (.one 18 false (.one 19 false (.one 20 false (.one 21 false (.one 22 false (.one 23 false (.one 24 false (.one 25 false (.one 26 false .fin)))))))))) (.alt 15 (.one 10 false (.one 18 false (.one 19 false (.one 20 false (.one 21 false (.one 22 false (.one 23 false (.one 24 false (.one 25 false (.one 26 false .fin)))))))))) .stop))) .stop)))) (.alt 15 (.any (.alt 9 (.any (.alt 10 (.one 17 false (.one 18 false (.one 19 false (.one 20 false (.one 21 false (.one 22 false (.one 23 false (.one 24 false (.one 25 false (.one 26 false .fin)))))))))) (.alt 17 (.one 10 false (.one 18 false (.one 19 false (.one 20 false (.one 21 false (.one 22 false (.one 23 false (.one 24 false (.one 25 false (.one 26 false .fin)))))))))) .stop))) (.alt 17 (.one 9 false (.one 10 false (.one 18 false (.one 19 false (.one 20 false (.one 21 false (.one 22 false (.one 23 false (.one 24 false (.one 25 false (.one 26 false .fin))))))))))) .stop))) (.alt 17 (.any (.alt 9 (.any (.alt 10 (.one 15 false (.one 18 false (.one 19 false (.one 20 false (.one 21 false (.one 22 false (.one 23 false (.one 24 false (.one 25 false (.one 26 false .fin)))))))))) (.alt 15 (.one 10 false (.one 18 false (.one 19 false (.one 20 false (.one 21 false (.one 22 false (.one 23 false (.one 24 false (.one 25 false (.one 26 false .fin)))))))))) .stop))) (.alt 15 (.one 9 false (.one 10 false (.one 18 false (.one 19 false (.one 20 false (.one 21 false (.one 22 false (.one 23 false (.one 24 false (.one 25 false (.one 26 false .fin))))))))))) .stop))) .stop)))) (.alt 15 (.any (.alt 8 (.any (.alt 9 (.any (.alt 10 (.one 17 false (.one 18 false (.one 19 false (.one 20 false (.one 21 false (.one 22 false (.one 23 false (.one 24 false (.one 25 false (.one 26 false .fin)))))))))) (.alt 17 (.one 10 false (.one 18 false (.one 19 false (.one 20 false (.one 21 false (.one 22 false (.one 23 false (.one 24 false (.one 25 false (.one 26 false .fin)))))))))) .stop))) (.alt 17 (.one 9 false (.one 10 false (.one 18 false (.one 19 false (.one 20 false (.one 21 false (.one 22 false (.one 23 false (.one 24 false (.one 25 false (.one 26 false .fin))))))))))) .stop))) (.alt 17 (.one 8 false (.one 9 false (.one 10 false (.one 18 false (.one 19 false (.one 20 false (.one 21 false (.one 22 false (.one 23 false (.one 24 false (.one 25 false (.one 26 false .fin)))))))))))) .stop))) (.alt 17 (.any (.alt 8 (.any (.alt 9 (.any (.alt 10 (.one 15 false (.one 18 false (.one 19 false (.one 20 false (.one 21 false (.one 22 false (.one 23 false (.one 24 false (.one 25 false (.one 26 false .fin)))))))))) (.alt 15 (.one 10 false (.one 18 false (.one 19 false (.one 20 false (.one 21 false (.one 22 false (.one 23 false (.one 24 false (.one 25 false (.one 26 false .fin)))))))))) .stop))) (.alt 15 (.one 9 false (.one 10 false (.one 18 false (.one 19 false (.one 20 false (.one 21 false (.one 22 false (.one 23 false (.one 24 false (.one 25 false (.one 26 false .fin))))))))))) .stop))) (.alt 15 (.one 8 false (.one 9 false (.one 10 false (.one 18 false (.one 19 false (.one 20 false (.one 21 false (.one 22 false (.one 23 false (.one 24 false (.one 25 false (.one 26 false .fin)))))))))))) .stop))) .stop)))))))))))))))))
theorem comp24 : ∀ c, Tryd.f24.body = some c → comp c = (.seq (.reg 0 [I.n 0 2 (.assign (.const (Value.pointer none))), I.n 1 3 (I.si 0)]) (.seq (.reg 1 [I.n 0 5 (I.mv 0), I.n 1 6 (I.c1 32 5 9), I.n 2 4 (I.sa 6)]) (.block 0 (.seq (.reg 3 [I.n 0 14 (I.mv 4), I.n 1 15 (I.bc .lss 3 14 0 3), I.n 2 13 (I.sa 15)]) (.cond (.tmp 13) (.seq (.reg 4 [I.n 0 2 (.assign (.const (Value.pointer none))), I.n 1 3 (I.si 3)]) .ret) (.seq (.reg 5 [I.n 0 17 (I.mv 4), I.n 1 18 (I.bc .gtr 3 17 1048576 3), I.n 2 16 (I.sa 18)]) (.cond (.tmp 16) (.seq (.reg 6 [I.n 0 2 (.assign (.const (Value.pointer none))), I.n 1 3 (I.si 4)]) .ret) (.seq (.reg 2 [I.n 0 7 (I.mv 4), I.n 1 8 (I.b1 25 7), I.n 2 9 (.build 42 #[(1, .tmp 8)]), I.n 3 10 (I.mv 0), I.n 4 11 (.build 44 #[(0, .tmp 9), (1, .tmp 10)]), I.n 5 12 (.box 44 (.tmp 11)), I.n 6 2 (I.sa 12), I.n 7 3 (I.si 0)]) .ret)))))))) := by
  intro c h
  have : c = Tryd.f24.body.get rfl := by rw [← Option.some_inj, ← h]; rfl
  rw [this]; rfl
theorem comp29 : ∀ c, Tryd.f29.body = some c → comp c = (.seq (.reg 0 [I.n 0 2 (I.si 0)]) (.seq (.reg 1 [I.n 0 3 (I.mv 0), I.n 1 4 (I.nc 3), I.n 2 5 (I.fa 42 4 0), I.n 3 6 (I.ld 22 5), I.n 4 7 (I.ln 6 22), I.n 5 2 (I.sa 7)]) .ret)) := by
  intro c h
  have : c = Tryd.f29.body.get rfl := by rw [← Option.some_inj, ← h]; rfl
  rw [this]; rfl
theorem comp77 : ∀ c, Tryd.f77.body = some c → comp c = (.seq (.reg 0 [I.n 0 4 (I.sb false)]) (.seq (.reg 1 [I.n 0 5 (I.mv 1), I.n 1 6 (I.bc .geq 3 5 0 3), I.n 2 7 (I.mv 6), I.w 3 8 (I.mv 1) 7 true, I.w 4 9 (I.mv 0) 7 true, I.w 5 10 (I.c1 29 9 108) 7 true, I.w 6 11 (I.bo .leq 3 8 10 3) 7 true, I.n 7 12 (I.pc 7 11 false), I.n 8 4 (I.sa 12)]) .ret)) := by
  intro c h
  have : c = Tryd.f77.body.get rfl := by rw [← Option.some_inj, ← h]; rfl
  rw [this]; rfl
theorem comp25 : ∀ c, Tryd.f25.body = some c → comp c = (.seq (.reg 0 [I.n 0 4 (I.si 0)]) (.seq (.seq (.reg 1 [I.n 0 7 (I.mv 1), I.n 1 8 (I.c1 72 7 23), I.n 2 5 (I.sa 8)]) (.seq (.reg 2 [I.n 0 9 (I.mv 5), I.n 1 10 (I.bc .neq 30 9 0 30)]) (.cond (.tmp 10) (.seq (.reg 3 [I.n 0 11 (I.mv 5), I.n 1 4 (I.sa 11)]) .ret) .skip))) (.seq (.reg 4 [I.n 0 12 (I.mv 1), I.n 1 13 (I.c1 73 12 23), I.n 2 6 (I.sa 13)]) (.seq (.block 0 (.seq (.draw 5 [I.n 0 15 (I.mv 1), I.n 1 16 (I.c1 74 15 23), I.n 2 17 (I.mv 0), I.n 3 18 (I.nc 17), I.n 4 19 (I.fa 44 18 0), I.n 5 20 (I.fa 42 19 1), I.n 6 21 (I.ld 25 20), I.n 7 22 (I.mv 0), I.n 8 23 (I.nc 22), I.n 9 24 (I.fa 44 23 0), I.n 10 25 (I.c1 29 24 42), I.n 11 26 (I.ia 25 21 25), I.n 12 27 (I.ld 3 26), I.n 13 28 (I.bo .neq 3 16 27 3), I.n 14 14 (I.sa 28)] [[], [0], [], [2], [3], [4], [5], [], [7], [8], [9, 1], [6, 10], [11], [1, 12], [13, 10]]) (.cond (.tmp 14) (.seq (.reg 6 [I.n 0 4 (I.si 5)]) .ret) (.seq (.reg 7 [I.n 0 30 (I.mv 6), I.n 1 31 (I.bc .gtr 3 30 1048576 3), I.n 2 29 (I.sa 31)]) (.cond (.tmp 29) (.seq (.reg 8 [I.n 0 4 (I.si 4)]) .ret) .skip))))) (.seq (.draw 9 [I.n 0 32 (I.mv 0), I.n 1 33 (I.mv 0), I.n 2 34 (I.mv 0), I.n 3 35 (I.nc 34), I.n 4 36 (I.fa 44 35 0), I.n 5 37 (I.fa 42 36 0), I.n 6 38 (I.ld 22 37), I.n 7 39 (I.mv 1), I.n 8 40 (I.c1 35 39 23), I.n 9 41 (I.b1 22 40), I.n 10 42 (I.ap 38 41 22 22), I.n 11 43 (I.mv 0), I.n 12 44 (I.nc 43), I.n 13 45 (I.fa 44 44 0), I.n 14 46 (I.fa 42 45 1), I.n 15 47 (I.ld 25 46), I.n 16 48 (I.mv 6), I.n 17 49 (I.b1 25 48), I.n 18 50 (I.ap 47 49 25 25), I.n 19 51 (I.nc 32), I.n 20 52 (I.fa 44 51 0), I.n 21 53 (I.fa 42 52 0), I.u 22 (I.st 22 53 42), I.n 23 54 (I.nc 33), I.n 24 55 (I.fa 44 54 0), I.n 25 56 (I.fa 42 55 1), I.u 26 (I.st 25 56 50)] [[], [], [], [2], [3], [4], [5], [], [7], [8], [6, 9, 8], [], [11], [12], [13], [14], [], [16], [15, 17, 10], [0, 0, 2, 3, 4, 5, 6, 7, 8, 9, 10, 15, 18], [19, 0, 2, 3, 4, 5, 6, 7, 8, 9, 10, 15, 18], [20, 0, 2, 3, 4, 5, 6, 7, 8, 9, 10, 15, 18], [21, 10, 18, 0, 2, 3, 4, 5, 6, 7, 8, 9, 10, 15, 18], [1, 0, 1, 2, 3, 4, 5, 6, 7, 8, 9, 10, 11, 12, 13, 14, 15, 16, 17, 18, 19, 20, 21, 22], [23, 0, 1, 2, 3, 4, 5, 6, 7, 8, 9, 10, 11, 12, 13, 14, 15, 16, 17, 18, 19, 20, 21, 22], [24, 0, 1, 2, 3, 4, 5, 6, 7, 8, 9, 10, 11, 12, 13, 14, 15, 16, 17, 18, 19, 20, 21, 22], [25, 18, 22, 0, 1, 2, 3, 4, 5, 6, 7, 8, 9, 10, 11, 12, 13, 14, 15, 16, 17, 18, 19, 20, 21, 22]]) (.seq (.reg 10 [I.n 0 4 (I.si 0)]) .ret)))))) := by
  intro c h
  have : c = Tryd.f25.body.get rfl := by rw [← Option.some_inj, ← h]; rfl
  rw [this]; rfl
abbrev cntB (t : ByteArray) : Int := countD t.data.toList
def newE (t : ByteArray) : Int := if cntB t < 0 then 3 else if 1048576 < cntB t then 4 else 0
theorem hnew_ok (t : ByteArray) (ht : t.size ≤ 1000000000) (h : newE t = 0) :
    CallW env 24 [.v (.string t)] (fun r hs => r = .tup [.ptr 0 0 0 0, .v (.int .i64 0)] ∧ hs = [⟨3, 44, 0, 0, true, [[nilA, .own 1 1 0 1, .v (.string t)]]⟩, ⟨1, 3, 1, 0, false, [[.v (.int .i64 (cntB t))]]⟩]) := by
  have hC := pcount_call t ht
  unfold newE at h
  have h0 : ¬ countD t.data.toList < 0 := fun h0 => by rw [if_pos h0] at h; cases h
  have h1 : ¬ 1048576 < countD t.data.toList := fun h1 => by rw [if_neg h0, if_pos h1] at h; cases h
  refine Ev.fnO [0, 2, 3, 4, 13, 16] 0 [.tmp 2, .tmp 3] Tryd.func24 (comp24 _ rfl) ?_
  repeat' (first | (with_reducible refine Ev.c_neg h0 ?_) | (with_reducible refine Ev.br_neg h0 ?_) | (with_reducible refine Ev.c_neg h1 ?_) | (with_reducible refine Ev.br_neg h1 ?_) | ((with_reducible refine Ev.br0 ?_); (first | refine Ev.brp ?_ | refine Ev.brn ?_); conv => whnf) | ((with_reducible refine Ev.c0 ?_); first | refine Ev.cp ?_ | refine Ev.cn ?_) | ((refine Ev.sw ?_); conv => whnf) | refine Ev.sn ?_ | ((with_reducible refine Ev.chk_k ?_ ?_); rotate_left; exact Ev.bt; conv => whnf) | ((with_reducible (refine Ev.RI.run ?_; constructor)) <;> intro _) | ((refine Ev.sg ?_); conv => whnf) | ((with_reducible refine Ev.sided ?_ ?_); conv => whnf) | ((with_reducible refine Ev.kr (hs := []) (fun Q hQ => ?_)); (simp only [Ev.runE_cons, Ev.runE_nil]); conv => whnf) | (with_reducible refine hQ _ ?_; clear hQ Q) | ((refine Ev.sf ?_); intro F hF; conv => whnf) | (with_reducible refine hF _ ?_; clear hF F) | ((with_reducible refine Ev.go_k (fun c' => ?_)); conv => whnf) | ((with_reducible refine Ev.ca0 ?_); (first | refine Ev.ca (hC) ?_); conv => whnf) | ((first | refine Ev.el_map0 ?_ (fun hi => ?_) | refine Ev.el_mapN ?_ (fun hi => ?_)); rotate_left; conv => whnf) | ((with_reducible refine Ev.sd0 ?_); exact Ev.sd) | fail)
  refine Ev.finL [(1064, 8), (1032, 0)] (by simp) (fun F hF => ?_)
  conv => whnf
  refine hF _ ?_
  exact ⟨rfl, rfl⟩
abbrev hisG (B L S vb vl fl vs fs : Nat) (Ls : List (List Sp)) (Ns : List Int) (t : ByteArray) : List (Nat × Blk) :=
  [(B, ⟨3, 44, vb, 0, true, [[.own L vl 0 Ls.length, .own S vs 0 Ns.length, .v (.string t)]]⟩), (L, ⟨1, 23, vl, fl, false, rowsA Ls⟩), (S, ⟨1, 3, vs, fs, false, ints Ns⟩)]
def happE (w : List Sp) (n : Int) : Int := if opMayF w ≠ 0 then opMayF w else if inW w ≠ n then 5 else if 1048576 < outW w then 4 else 0
theorem rowsA_add (Ls : List (List Sp)) (x : List Sp) : rowsA Ls ++ List.take 1 (List.drop 0 [[AV.lst 3 (sps x)]]) = rowsA (Ls ++ [x]) := by simp [rowsA]
theorem ints_add (Ns : List Int) (n : Int) : ints Ns ++ List.take 1 (List.drop 0 [[AV.v (.int .i64 n)]]) = ints (Ns ++ [n]) := by simp [ints]
set_option maxHeartbeats 4000000 in
theorem happ_ok (vb vl fl vs fs : Nat) (Ls : List (List Sp)) (Ns : List Int) (t : ByteArray) (w : List Sp) (hw : w.length ≤ 100000000) (hb : tbs w ≤ 1000000000) (hN : Ns.length = Ls.length + 1) (hL : Ls.length ≤ 1000000)
    (he : happE w (Ns.getLast (by intro e; rw [e] at hN; simp at hN)) = 0) :
    HCallW env 65536 25 [.ptr 7000 vb 0 0, .lst 3 (sps w)] (hisG 7000 7001 7002 vb vl fl vs fs Ls Ns t)
      (fun r h => r = .v (.int .i64 0) ∧ ∃ vl' vs' : Nat, subs h (hisG 7000 7001 7002 vb vl' fl vs' fs (Ls ++ [norm w]) (Ns ++ [outW w]) t)) := by
  have hsm := tbs_small hb
  have hM := opMay_call w (by omega) hsm
  have hO := opOut_call w (by omega) hsm
  have hI := opIn_call w (by omega)
  have hF := nof_call w hw hb
  have hrl := rowsA_len Ls
  have hil := ints_len Ns
  unfold happE at he
  have m0 : opMayF w = 0 := Decidable.byContradiction fun h => by rw [if_pos h] at he; exact h he
  rw [if_neg (by simpa using m0)] at he
  have m1 : inW w = Ns.getLast _ := Decidable.byContradiction fun h => by rw [if_pos h] at he; cases he
  rw [if_neg (by simpa using m1)] at he
  have m2 : ¬ 1048576 < outW w := fun h => by rw [if_pos h] at he; cases he
  have m2 : ¬ 1048576 < sumW (fun s => outF s.k s.n s.t) w := m2
  rw [m0] at hM
  rw [List.getLast_eq_getElem] at m1
  have m1' : sumW (fun s => inF s.k s.n) w = Ns[Ns.length - 1] := m1
  have m1' : ∀ h : Ls.length < Ns.length, sumW (fun s => inF s.k s.n) w = Ns[Ls.length]'h := fun h => by
    rw [m1']; congr 1; omega
  refine Ev.fnH [0, 1, 4, 5, 6, 10, 14, 29] 65536 [.tmp 4] Tryd.func25 (comp25 _ rfl) (fun ct => ?_)
  repeat' (first | (with_reducible refine Ev.join (a := .block 0 _) (fun s => ∃ c : Nat, s = ⟨[(0, .ptr 7000 vb 0 0), (1, .lst 3 (sps w)), (6, .v (.int .i64 (outW w)))], hisG 7000 7001 7002 vb vl fl vs fs Ls Ns t, c⟩ ∧ True) ?_ ?_) | (with_reducible refine Ev.c_neg m2 ?_) | (with_reducible refine Ev.br_neg m2 ?_) | (with_reducible refine Ev.c_pos (m1' _) ?_) | (with_reducible refine Ev.br_pos (m1' _) ?_) | ((with_reducible refine Ev.br0 ?_); (first | refine Ev.brp ?_ | refine Ev.brn ?_); conv => whnf) | ((with_reducible refine Ev.c0 ?_); first | refine Ev.cp ?_ | refine Ev.cn ?_) | ((refine Ev.sw ?_); conv => whnf) | refine Ev.sn ?_ | ((with_reducible refine Ev.chk_k ?_ ?_); rotate_left; exact Ev.bt; conv => whnf) | ((with_reducible (refine Ev.RI.run ?_; constructor)) <;> intro _) | ((refine Ev.sg ?_); conv => whnf) | ((with_reducible refine Ev.sided ?_ ?_); conv => whnf) | ((with_reducible refine Ev.kr (hs := [29]) (fun Q hQ => ?_)); (simp only [Ev.runE_cons, Ev.runE_nil]); conv => whnf) | (with_reducible refine hQ _ ?_; clear hQ Q) | ((refine Ev.sf ?_); intro F hF; conv => whnf) | (with_reducible refine hF _ ?_; clear hF F) | ((with_reducible refine Ev.go_k (fun c' => ?_)); conv => whnf) | ((with_reducible refine Ev.il0 29 ?_); refine Ev.il 29 [0, 2] [.tmp 2] Tryd.func29 (comp29 _ rfl) (fun ct' => ?_)) | ((with_reducible refine Ev.ca0 ?_); (first | refine Ev.ca (hM) ?_ | refine Ev.ca (hO) ?_ | refine Ev.ca (hI) ?_ | refine Ev.ca (hF) ?_); conv => whnf) | ((with_reducible refine Ev.dr0 ?_); (first | refine Ev.drt 5 [29] p0_FnZd ?_); intro Q hQ; (simp only [Ev.runT_fin, Ev.runT_oneF, Ev.runT_oneT, Ev.runT_two]); conv => whnf) | ((with_reducible refine Ev.dr0 ?_); (first | refine Ev.dru 9 [29] [[], [], [], [2], [2, 3], [2, 3, 4], [2, 3, 4, 5], [], [7], [7, 8], [2, 3, 4, 5, 6, 7, 8, 9], [], [11], [11, 12], [11, 12, 13], [11, 12, 13, 14], [], [16], [2, 3, 4, 5, 6, 7, 8, 9, 10, 11, 12, 13, 14, 15, 16, 17], [0, 2, 3, 4, 5, 6, 7, 8, 9, 10, 11, 12, 13, 14, 15, 16, 17, 18], [0, 2, 3, 4, 5, 6, 7, 8, 9, 10, 11, 12, 13, 14, 15, 16, 17, 18, 19], [0, 2, 3, 4, 5, 6, 7, 8, 9, 10, 11, 12, 13, 14, 15, 16, 17, 18, 19, 20], [0, 2, 3, 4, 5, 6, 7, 8, 9, 10, 11, 12, 13, 14, 15, 16, 17, 18, 19, 20, 21], [0, 1, 2, 3, 4, 5, 6, 7, 8, 9, 10, 11, 12, 13, 14, 15, 16, 17, 18, 19, 20, 21, 22], [0, 1, 2, 3, 4, 5, 6, 7, 8, 9, 10, 11, 12, 13, 14, 15, 16, 17, 18, 19, 20, 21, 22, 23], [0, 1, 2, 3, 4, 5, 6, 7, 8, 9, 10, 11, 12, 13, 14, 15, 16, 17, 18, 19, 20, 21, 22, 23, 24], [0, 1, 2, 3, 4, 5, 6, 7, 8, 9, 10, 11, 12, 13, 14, 15, 16, 17, 18, 19, 20, 21, 22, 23, 24, 25]] p1_FnZd ?_); intro Q hQ; (simp only [Ev.runU_fin, Ev.runU_stop, Ev.runU_oneF, Ev.runU_oneT, Ev.runU_any, Ev.runU_alt]); conv => whnf) | ((with_reducible refine Ev.both ?_ ?_) <;> (conv => whnf)) | exact True.intro | ((first | refine Ev.el_map0 ?_ (fun hi => ?_) | refine Ev.el_mapN ?_ (fun hi => ?_)); rotate_left; conv => whnf) | ((with_reducible refine Ev.sd0 ?_); exact Ev.sd) | fail)
  · (refine Ev.to _ ?hs1 ?hh1 ?hc1 ⟨c', rfl, ?hp1⟩; (case hs1 | hh1 => ((repeat' (first | exact trivial | refine And.intro ?_ ?_)) <;> (first | exact Ev.se | (refine Ev.slot_eq rfl ?_; first | (rfl) | ((first | refine Ev.int_eq ?_ | refine Ev.own_eq ?_ | refine Ev.blk_eq ?_); (rfl))) | exact Ev.sr))); (case hc1 => exact Nat.le_refl _))
    trivial
  · (refine Ev.to _ ?hs2 ?hh2 ?hc2 ⟨c', rfl, ?hp2⟩; (case hs2 | hh2 => ((repeat' (first | exact trivial | refine And.intro ?_ ?_)) <;> (first | exact Ev.se | (refine Ev.slot_eq rfl ?_; first | (rfl) | ((first | refine Ev.int_eq ?_ | refine Ev.own_eq ?_ | refine Ev.blk_eq ?_); (rfl))) | exact Ev.sr))); (case hc2 => exact Nat.le_refl _))
    trivial
  · (refine Ev.to _ ?hs3 ?hh3 ?hc3 ⟨c', rfl, ?hp3⟩; (case hs3 | hh3 => ((repeat' (first | exact trivial | refine And.intro ?_ ?_)) <;> (first | exact Ev.se | (refine Ev.slot_eq rfl ?_; first | (rfl) | ((first | refine Ev.int_eq ?_ | refine Ev.own_eq ?_ | refine Ev.blk_eq ?_); (rfl))) | exact Ev.sr))); (case hc3 => exact Nat.le_refl _))
    trivial
  rintro _ ⟨c, rfl, _⟩
  repeat' (first | ((with_reducible refine Ev.br0 ?_); (first | refine Ev.brp ?_ | refine Ev.brn ?_); conv => whnf) | ((with_reducible refine Ev.c0 ?_); first | refine Ev.cp ?_ | refine Ev.cn ?_) | ((refine Ev.sw ?_); conv => whnf) | refine Ev.sn ?_ | ((with_reducible refine Ev.chk_k ?_ ?_); rotate_left; exact Ev.bt; conv => whnf) | ((with_reducible (refine Ev.RI.run ?_; constructor)) <;> intro _) | ((refine Ev.sg ?_); conv => whnf) | ((with_reducible refine Ev.sided ?_ ?_); conv => whnf) | ((with_reducible refine Ev.kr (hs := [29]) (fun Q hQ => ?_)); (simp only [Ev.runE_cons, Ev.runE_nil]); conv => whnf) | (with_reducible refine hQ _ ?_; clear hQ Q) | ((refine Ev.sf ?_); intro F hF; conv => whnf) | (with_reducible refine hF _ ?_; clear hF F) | ((with_reducible refine Ev.go_k (fun c' => ?_)); conv => whnf) | ((with_reducible refine Ev.il0 29 ?_); refine Ev.il 29 [0, 2] [.tmp 2] Tryd.func29 (comp29 _ rfl) (fun ct' => ?_)) | ((with_reducible refine Ev.ca0 ?_); (first | refine Ev.ca (hF) ?_); conv => whnf) | ((with_reducible refine Ev.dr0 ?_); (first | refine Ev.drt 5 [29] p0_FnZd ?_); intro Q hQ; (simp only [Ev.runT_fin, Ev.runT_oneF, Ev.runT_oneT, Ev.runT_two]); conv => whnf) | ((with_reducible refine Ev.dr0 ?_); (first | refine Ev.dru 9 [29] [[], [], [], [2], [2, 3], [2, 3, 4], [2, 3, 4, 5], [], [7], [7, 8], [2, 3, 4, 5, 6, 7, 8, 9], [], [11], [11, 12], [11, 12, 13], [11, 12, 13, 14], [], [16], [2, 3, 4, 5, 6, 7, 8, 9, 10, 11, 12, 13, 14, 15, 16, 17], [0, 2, 3, 4, 5, 6, 7, 8, 9, 10, 11, 12, 13, 14, 15, 16, 17, 18], [0, 2, 3, 4, 5, 6, 7, 8, 9, 10, 11, 12, 13, 14, 15, 16, 17, 18, 19], [0, 2, 3, 4, 5, 6, 7, 8, 9, 10, 11, 12, 13, 14, 15, 16, 17, 18, 19, 20], [0, 2, 3, 4, 5, 6, 7, 8, 9, 10, 11, 12, 13, 14, 15, 16, 17, 18, 19, 20, 21], [0, 1, 2, 3, 4, 5, 6, 7, 8, 9, 10, 11, 12, 13, 14, 15, 16, 17, 18, 19, 20, 21, 22], [0, 1, 2, 3, 4, 5, 6, 7, 8, 9, 10, 11, 12, 13, 14, 15, 16, 17, 18, 19, 20, 21, 22, 23], [0, 1, 2, 3, 4, 5, 6, 7, 8, 9, 10, 11, 12, 13, 14, 15, 16, 17, 18, 19, 20, 21, 22, 23, 24], [0, 1, 2, 3, 4, 5, 6, 7, 8, 9, 10, 11, 12, 13, 14, 15, 16, 17, 18, 19, 20, 21, 22, 23, 24, 25]] p1_FnZd ?_); intro Q hQ; (simp only [Ev.runU_fin, Ev.runU_stop, Ev.runU_oneF, Ev.runU_oneT, Ev.runU_any, Ev.runU_alt]); conv => whnf) | ((with_reducible refine Ev.both ?_ ?_) <;> (conv => whnf)) | exact True.intro | ((first | refine Ev.el_map0 ?_ (fun hi => ?_) | refine Ev.el_mapN ?_ (fun hi => ?_)); rotate_left; conv => whnf) | ((with_reducible refine Ev.sd0 ?_); exact Ev.sd) | fail)
  all_goals
    refine ⟨rfl, ?_⟩
    apply Exists.intro
    apply Exists.intro
    refine ⟨Ev.slot_eq rfl ?_, Ev.slot_eq rfl ?_, Ev.slot_eq rfl ?_, trivial⟩
    · rw [List.length_append, List.length_append]; rfl
    · rw [rowsA_add]
    · rw [ints_add]
theorem happ_call (vb vl fl vs fs : Nat) (Ls : List (List Sp)) (Ns : List Int) (t : ByteArray) (w : List Sp) (hw : w.length ≤ 100000000) (hb : tbs w ≤ 1000000000) (hN : Ns.length = Ls.length + 1) (hL : Ls.length ≤ 1000000) :
    HCallW env 65536 25 [.ptr 7000 vb 0 0, .lst 3 (sps w)] (hisG 7000 7001 7002 vb vl fl vs fs Ls Ns t)
      (fun r h => r = .v (.int .i64 (happE w (Ns.getLast (by intro e; rw [e] at hN; simp at hN)))) ∧ ∃ vl' vs' : Nat, h = hisG 7000 7001 7002 vb vl' fl vs' fs (Ls ++ if happE w (Ns.getLast (by intro e; rw [e] at hN; simp at hN)) = 0 then [norm w] else []) (Ns ++ if happE w (Ns.getLast (by intro e; rw [e] at hN; simp at hN)) = 0 then [outW w] else []) t) := by
  by_cases he : happE w (Ns.getLast (by intro e; rw [e] at hN; simp at hN)) = 0
  · refine hcall_sub (happ_ok vb vl fl vs fs Ls Ns t w hw hb hN hL he) ?_
    rintro r hp1 ⟨rfl, vl', vs', h⟩
    rw [he, if_pos rfl, if_pos rfl]
    exact ⟨_, ⟨rfl, vl', vs', rfl⟩, h⟩
  · rw [if_neg he, if_neg he, List.append_nil, List.append_nil]
    have hsm := tbs_small hb
    have hM := opMay_call w (by omega) hsm
    have hO := opOut_call w (by omega) hsm
    have hI := opIn_call w (by omega)
    have hrl := rowsA_len Ls
    have hil := ints_len Ns
    unfold happE at he ⊢
    by_cases m0 : opMayF w = 0
    · rw [if_neg (by simpa using m0)] at he ⊢
      rw [m0] at hM
      by_cases m1 : inW w = Ns.getLast (by intro e; rw [e] at hN; simp at hN)
      · rw [if_neg (by simpa using m1)] at he ⊢
        by_cases m2 : 1048576 < outW w
        · rw [if_pos m2]
          have m2 : 1048576 < sumW (fun s => outF s.k s.n s.t) w := m2
          rw [List.getLast_eq_getElem] at m1
          have m1' : ∀ h : Ls.length < Ns.length, sumW (fun s => inF s.k s.n) w = Ns[Ls.length]'h := fun h => by
            have m1' : sumW (fun s => inF s.k s.n) w = Ns[Ns.length - 1] := m1
            rw [m1']; congr 1; omega
          refine Ev.fnH [0, 1, 4, 5, 6, 10, 14, 29] 65536 [.tmp 4] Tryd.func25 (comp25 _ rfl) (fun ct => ?_)
          repeat' (first | (with_reducible refine Ev.c_pos m2 ?_) | (with_reducible refine Ev.br_pos m2 ?_) | (with_reducible refine Ev.c_pos (m1' _) ?_) | (with_reducible refine Ev.br_pos (m1' _) ?_) | ((with_reducible refine Ev.br0 ?_); (first | refine Ev.brp ?_ | refine Ev.brn ?_); conv => whnf) | ((with_reducible refine Ev.c0 ?_); first | refine Ev.cp ?_ | refine Ev.cn ?_) | ((refine Ev.sw ?_); conv => whnf) | refine Ev.sn ?_ | ((with_reducible refine Ev.chk_k ?_ ?_); rotate_left; exact Ev.bt; conv => whnf) | ((with_reducible (refine Ev.RI.run ?_; constructor)) <;> intro _) | ((refine Ev.sg ?_); conv => whnf) | ((with_reducible refine Ev.sided ?_ ?_); conv => whnf) | ((with_reducible refine Ev.kr (hs := [29]) (fun Q hQ => ?_)); (simp only [Ev.runE_cons, Ev.runE_nil]); conv => whnf) | (with_reducible refine hQ _ ?_; clear hQ Q) | ((refine Ev.sf ?_); intro F hF; conv => whnf) | (with_reducible refine hF _ ?_; clear hF F) | ((with_reducible refine Ev.go_k (fun c' => ?_)); conv => whnf) | ((with_reducible refine Ev.il0 29 ?_); refine Ev.il 29 [0, 2] [.tmp 2] Tryd.func29 (comp29 _ rfl) (fun ct' => ?_)) | ((with_reducible refine Ev.ca0 ?_); (first | refine Ev.ca (hM) ?_ | refine Ev.ca (hO) ?_ | refine Ev.ca (hI) ?_); conv => whnf) | ((with_reducible refine Ev.dr0 ?_); (first | refine Ev.drt 5 [29] p0_FnZd ?_); intro Q hQ; (simp only [Ev.runT_fin, Ev.runT_oneF, Ev.runT_oneT, Ev.runT_two]); conv => whnf) | ((with_reducible refine Ev.dr0 ?_); (first | refine Ev.dru 9 [29] [[], [], [], [2], [2, 3], [2, 3, 4], [2, 3, 4, 5], [], [7], [7, 8], [2, 3, 4, 5, 6, 7, 8, 9], [], [11], [11, 12], [11, 12, 13], [11, 12, 13, 14], [], [16], [2, 3, 4, 5, 6, 7, 8, 9, 10, 11, 12, 13, 14, 15, 16, 17], [0, 2, 3, 4, 5, 6, 7, 8, 9, 10, 11, 12, 13, 14, 15, 16, 17, 18], [0, 2, 3, 4, 5, 6, 7, 8, 9, 10, 11, 12, 13, 14, 15, 16, 17, 18, 19], [0, 2, 3, 4, 5, 6, 7, 8, 9, 10, 11, 12, 13, 14, 15, 16, 17, 18, 19, 20], [0, 2, 3, 4, 5, 6, 7, 8, 9, 10, 11, 12, 13, 14, 15, 16, 17, 18, 19, 20, 21], [0, 1, 2, 3, 4, 5, 6, 7, 8, 9, 10, 11, 12, 13, 14, 15, 16, 17, 18, 19, 20, 21, 22], [0, 1, 2, 3, 4, 5, 6, 7, 8, 9, 10, 11, 12, 13, 14, 15, 16, 17, 18, 19, 20, 21, 22, 23], [0, 1, 2, 3, 4, 5, 6, 7, 8, 9, 10, 11, 12, 13, 14, 15, 16, 17, 18, 19, 20, 21, 22, 23, 24], [0, 1, 2, 3, 4, 5, 6, 7, 8, 9, 10, 11, 12, 13, 14, 15, 16, 17, 18, 19, 20, 21, 22, 23, 24, 25]] p1_FnZd ?_); intro Q hQ; (simp only [Ev.runU_fin, Ev.runU_stop, Ev.runU_oneF, Ev.runU_oneT, Ev.runU_any, Ev.runU_alt]); conv => whnf) | ((with_reducible refine Ev.both ?_ ?_) <;> (conv => whnf)) | exact True.intro | ((first | refine Ev.el_map0 ?_ (fun hi => ?_) | refine Ev.el_mapN ?_ (fun hi => ?_)); rotate_left; conv => whnf) | ((with_reducible refine Ev.sd0 ?_); exact Ev.sd) | fail)
          all_goals exact ⟨rfl, vl, vs, rfl⟩
        · rw [if_neg m2] at he; exact absurd rfl he
      · rw [if_pos m1]
        rw [List.getLast_eq_getElem] at m1
        have m1' : ∀ h : Ls.length < Ns.length, ¬ sumW (fun s => inF s.k s.n) w = Ns[Ls.length]'h := fun h e => by
          refine m1 ?_
          show sumW (fun s => inF s.k s.n) w = Ns[Ns.length - 1]
          rw [e]; congr 1; omega
        refine Ev.fnH [0, 1, 4, 5, 6, 10, 14, 29] 65536 [.tmp 4] Tryd.func25 (comp25 _ rfl) (fun ct => ?_)
        repeat' (first | (with_reducible refine Ev.c_neg (m1' _) ?_) | (with_reducible refine Ev.br_neg (m1' _) ?_) | ((with_reducible refine Ev.br0 ?_); (first | refine Ev.brp ?_ | refine Ev.brn ?_); conv => whnf) | ((with_reducible refine Ev.c0 ?_); first | refine Ev.cp ?_ | refine Ev.cn ?_) | ((refine Ev.sw ?_); conv => whnf) | refine Ev.sn ?_ | ((with_reducible refine Ev.chk_k ?_ ?_); rotate_left; exact Ev.bt; conv => whnf) | ((with_reducible (refine Ev.RI.run ?_; constructor)) <;> intro _) | ((refine Ev.sg ?_); conv => whnf) | ((with_reducible refine Ev.sided ?_ ?_); conv => whnf) | ((with_reducible refine Ev.kr (hs := [29]) (fun Q hQ => ?_)); (simp only [Ev.runE_cons, Ev.runE_nil]); conv => whnf) | (with_reducible refine hQ _ ?_; clear hQ Q) | ((refine Ev.sf ?_); intro F hF; conv => whnf) | (with_reducible refine hF _ ?_; clear hF F) | ((with_reducible refine Ev.go_k (fun c' => ?_)); conv => whnf) | ((with_reducible refine Ev.il0 29 ?_); refine Ev.il 29 [0, 2] [.tmp 2] Tryd.func29 (comp29 _ rfl) (fun ct' => ?_)) | ((with_reducible refine Ev.ca0 ?_); (first | refine Ev.ca (hM) ?_ | refine Ev.ca (hO) ?_ | refine Ev.ca (hI) ?_); conv => whnf) | ((with_reducible refine Ev.dr0 ?_); (first | refine Ev.drt 5 [29] p0_FnZd ?_); intro Q hQ; (simp only [Ev.runT_fin, Ev.runT_oneF, Ev.runT_oneT, Ev.runT_two]); conv => whnf) | ((with_reducible refine Ev.dr0 ?_); (first | refine Ev.dru 9 [29] [[], [], [], [2], [2, 3], [2, 3, 4], [2, 3, 4, 5], [], [7], [7, 8], [2, 3, 4, 5, 6, 7, 8, 9], [], [11], [11, 12], [11, 12, 13], [11, 12, 13, 14], [], [16], [2, 3, 4, 5, 6, 7, 8, 9, 10, 11, 12, 13, 14, 15, 16, 17], [0, 2, 3, 4, 5, 6, 7, 8, 9, 10, 11, 12, 13, 14, 15, 16, 17, 18], [0, 2, 3, 4, 5, 6, 7, 8, 9, 10, 11, 12, 13, 14, 15, 16, 17, 18, 19], [0, 2, 3, 4, 5, 6, 7, 8, 9, 10, 11, 12, 13, 14, 15, 16, 17, 18, 19, 20], [0, 2, 3, 4, 5, 6, 7, 8, 9, 10, 11, 12, 13, 14, 15, 16, 17, 18, 19, 20, 21], [0, 1, 2, 3, 4, 5, 6, 7, 8, 9, 10, 11, 12, 13, 14, 15, 16, 17, 18, 19, 20, 21, 22], [0, 1, 2, 3, 4, 5, 6, 7, 8, 9, 10, 11, 12, 13, 14, 15, 16, 17, 18, 19, 20, 21, 22, 23], [0, 1, 2, 3, 4, 5, 6, 7, 8, 9, 10, 11, 12, 13, 14, 15, 16, 17, 18, 19, 20, 21, 22, 23, 24], [0, 1, 2, 3, 4, 5, 6, 7, 8, 9, 10, 11, 12, 13, 14, 15, 16, 17, 18, 19, 20, 21, 22, 23, 24, 25]] p1_FnZd ?_); intro Q hQ; (simp only [Ev.runU_fin, Ev.runU_stop, Ev.runU_oneF, Ev.runU_oneT, Ev.runU_any, Ev.runU_alt]); conv => whnf) | ((with_reducible refine Ev.both ?_ ?_) <;> (conv => whnf)) | exact True.intro | ((first | refine Ev.el_map0 ?_ (fun hi => ?_) | refine Ev.el_mapN ?_ (fun hi => ?_)); rotate_left; conv => whnf) | ((with_reducible refine Ev.sd0 ?_); exact Ev.sd) | fail)
        all_goals exact ⟨rfl, vl, vs, rfl⟩
    · rw [if_pos m0]
      refine Ev.fnH [0, 1, 4, 5, 6, 10, 14, 29] 65536 [.tmp 4] Tryd.func25 (comp25 _ rfl) (fun ct => ?_)
      repeat' (first | (with_reducible refine Ev.c_neg m0 ?_) | (with_reducible refine Ev.br_neg m0 ?_) | ((with_reducible refine Ev.br0 ?_); (first | refine Ev.brp ?_ | refine Ev.brn ?_); conv => whnf) | ((with_reducible refine Ev.c0 ?_); first | refine Ev.cp ?_ | refine Ev.cn ?_) | ((refine Ev.sw ?_); conv => whnf) | refine Ev.sn ?_ | ((with_reducible refine Ev.chk_k ?_ ?_); rotate_left; exact Ev.bt; conv => whnf) | ((with_reducible (refine Ev.RI.run ?_; constructor)) <;> intro _) | ((refine Ev.sg ?_); conv => whnf) | ((with_reducible refine Ev.sided ?_ ?_); conv => whnf) | ((with_reducible refine Ev.kr (hs := [29]) (fun Q hQ => ?_)); (simp only [Ev.runE_cons, Ev.runE_nil]); conv => whnf) | (with_reducible refine hQ _ ?_; clear hQ Q) | ((refine Ev.sf ?_); intro F hF; conv => whnf) | (with_reducible refine hF _ ?_; clear hF F) | ((with_reducible refine Ev.go_k (fun c' => ?_)); conv => whnf) | ((with_reducible refine Ev.il0 29 ?_); refine Ev.il 29 [0, 2] [.tmp 2] Tryd.func29 (comp29 _ rfl) (fun ct' => ?_)) | ((with_reducible refine Ev.ca0 ?_); (first | refine Ev.ca (hM) ?_ | refine Ev.ca (hO) ?_ | refine Ev.ca (hI) ?_); conv => whnf) | ((with_reducible refine Ev.dr0 ?_); (first | refine Ev.drt 5 [29] p0_FnZd ?_); intro Q hQ; (simp only [Ev.runT_fin, Ev.runT_oneF, Ev.runT_oneT, Ev.runT_two]); conv => whnf) | ((with_reducible refine Ev.dr0 ?_); (first | refine Ev.dru 9 [29] [[], [], [], [2], [2, 3], [2, 3, 4], [2, 3, 4, 5], [], [7], [7, 8], [2, 3, 4, 5, 6, 7, 8, 9], [], [11], [11, 12], [11, 12, 13], [11, 12, 13, 14], [], [16], [2, 3, 4, 5, 6, 7, 8, 9, 10, 11, 12, 13, 14, 15, 16, 17], [0, 2, 3, 4, 5, 6, 7, 8, 9, 10, 11, 12, 13, 14, 15, 16, 17, 18], [0, 2, 3, 4, 5, 6, 7, 8, 9, 10, 11, 12, 13, 14, 15, 16, 17, 18, 19], [0, 2, 3, 4, 5, 6, 7, 8, 9, 10, 11, 12, 13, 14, 15, 16, 17, 18, 19, 20], [0, 2, 3, 4, 5, 6, 7, 8, 9, 10, 11, 12, 13, 14, 15, 16, 17, 18, 19, 20, 21], [0, 1, 2, 3, 4, 5, 6, 7, 8, 9, 10, 11, 12, 13, 14, 15, 16, 17, 18, 19, 20, 21, 22], [0, 1, 2, 3, 4, 5, 6, 7, 8, 9, 10, 11, 12, 13, 14, 15, 16, 17, 18, 19, 20, 21, 22, 23], [0, 1, 2, 3, 4, 5, 6, 7, 8, 9, 10, 11, 12, 13, 14, 15, 16, 17, 18, 19, 20, 21, 22, 23, 24], [0, 1, 2, 3, 4, 5, 6, 7, 8, 9, 10, 11, 12, 13, 14, 15, 16, 17, 18, 19, 20, 21, 22, 23, 24, 25]] p1_FnZd ?_); intro Q hQ; (simp only [Ev.runU_fin, Ev.runU_stop, Ev.runU_oneF, Ev.runU_oneT, Ev.runU_any, Ev.runU_alt]); conv => whnf) | ((with_reducible refine Ev.both ?_ ?_) <;> (conv => whnf)) | exact True.intro | ((first | refine Ev.el_map0 ?_ (fun hi => ?_) | refine Ev.el_mapN ?_ (fun hi => ?_)); rotate_left; conv => whnf) | ((with_reducible refine Ev.sd0 ?_); exact Ev.sd) | fail)
      all_goals exact ⟨rfl, vl, vs, rfl⟩
end Go.Proofs.YtadlnaljicikfaaDoor.Abs

namespace Go.Proofs.YtadlnaljicikfaaDoor.Abs
open Go
set_option maxRecDepth 100000
set_option linter.unusedSimpArgs false
set_option linter.unusedVariables false
attribute [local irreducible] Ev.Unr Ev.Go' Ev.bytK Ev.runK Ev.FinL Ev.brC Ev.Side Ev.Wp Ev.Again Ev.To Ev.Fin
open Go.Lib Go.RowKit
theorem comp30 : ∀ c, Tryd.f30.body = some c → comp c = (.seq (.reg 0 [I.n 0 4 (.assign (.const (Value.string { data := #[] }))), I.n 1 5 (I.si 0)]) (.seq (.seq (.reg 1 [I.n 0 6 (I.mv 0), I.n 1 7 (I.nc 6), I.n 2 8 (I.fa 44 7 0), I.n 3 9 (I.mv 1), I.n 4 10 (I.c2 77 8 9 42 3), I.n 5 11 (.unOp .not 4 (.tmp 10))]) (.cond (.tmp 11) (.seq (.reg 2 [I.n 0 4 (.assign (.const (Value.string { data := #[] }))), I.n 1 5 (I.si 6)]) .ret) .skip)) (.seq (.draw 3 [I.n 0 12 (I.mv 0), I.n 1 13 (I.nc 12), I.n 2 14 (I.fa 44 13 1), I.n 3 15 (I.ld 9 14), I.n 4 16 (I.mv 0), I.n 5 17 (I.nc 16), I.n 6 18 (I.fa 44 17 0), I.n 7 19 (I.fa 42 18 0), I.n 8 20 (I.ld 22 19), I.n 9 21 (I.mv 1), I.n 10 22 (.slice 22 (.tmp 20) none (some (.tmp 21)) none), I.n 11 23 (I.c2 57 15 22 9 22), I.n 12 24 (I.ex 23 0), I.n 13 25 (I.ex 23 1), I.n 14 4 (I.sa 24), I.n 15 5 (I.sa 25)] [[], [0], [1], [2], [], [4], [5], [6], [7], [], [8, 9], [3, 10], [11], [11], [12, 11, 0, 1, 2, 3, 4, 5, 6, 7, 8, 9, 10, 11, 12, 13], [13, 14, 0, 1, 2, 3, 4, 5, 6, 7, 8, 9, 10, 11, 12, 13, 14]]) .ret))) := by
  intro c h
  have : c = Tryd.f30.body.get rfl := by rw [← Option.some_inj, ← h]; rfl
  rw [this]; rfl
theorem comp33 : ∀ c, Tryd.f33.body = some c → comp c = (.seq (.reg 0 [I.n 0 6 I.sn, I.n 1 7 (I.si 0)]) (.seq (.seq (.reg 1 [I.n 0 9 (I.mv 0), I.n 1 10 (I.nc 9), I.n 2 11 (I.fa 44 10 0), I.n 3 12 (I.mv 2), I.n 4 13 (I.c2 77 11 12 42 3), I.n 5 14 (.unOp .not 4 (.tmp 13))]) (.cond (.tmp 14) (.seq (.reg 2 [I.n 0 6 I.sn, I.n 1 7 (I.si 6)]) .ret) .skip)) (.seq (.seq (.reg 3 [I.n 0 15 (I.mv 1), I.n 1 16 (I.c1 72 15 23), I.n 2 8 (I.sa 16)]) (.seq (.reg 4 [I.n 0 17 (I.mv 8), I.n 1 18 (I.bc .neq 30 17 0 30)]) (.cond (.tmp 18) (.seq (.reg 5 [I.n 0 19 (I.mv 8), I.n 1 6 I.sn, I.n 2 7 (I.sa 19)]) .ret) .skip))) (.seq (.seq (.draw 6 [I.n 0 20 (I.mv 1), I.n 1 21 (I.c1 74 20 23), I.n 2 22 (I.mv 0), I.n 3 23 (I.nc 22), I.n 4 24 (I.fa 44 23 0), I.n 5 25 (I.fa 42 24 1), I.n 6 26 (I.ld 25 25), I.n 7 27 (I.mv 2), I.n 8 28 (I.ia 25 26 27), I.n 9 29 (I.ld 3 28), I.n 10 30 (I.bo .neq 3 21 29 3)] [[], [0], [], [2], [3], [4], [5], [], [6, 7], [8], [1, 9]]) (.cond (.tmp 30) (.seq (.reg 7 [I.n 0 6 I.sn, I.n 1 7 (I.si 5)]) .ret) .skip)) (.seq (.reg 8 [I.n 0 31 (I.mv 1), I.n 1 32 (I.mv 0), I.n 2 33 (I.nc 32), I.n 3 34 (I.fa 44 33 0), I.n 4 35 (I.fa 42 34 0), I.n 5 36 (I.ld 22 35), I.n 6 37 (I.mv 2), I.n 7 38 (.slice 22 (.tmp 36) (some (.tmp 37)) none none), I.n 8 39 (I.c2 68 31 38 23 22), I.n 9 40 (I.ex 39 0), I.n 10 41 (I.ex 39 1), I.n 11 6 (I.sa 40), I.n 12 7 (I.sa 41)]) .ret))))) := by
  intro c h
  have : c = Tryd.f33.body.get rfl := by rw [← Option.some_inj, ← h]; rfl
  rw [this]; rfl
theorem comp38 : ∀ c, Tryd.f38.body = some c → comp c = (.seq (.reg 0 [I.n 0 6 I.sn, I.n 1 7 (I.si 0)]) (.seq (.seq (.reg 1 [I.n 0 8 (I.mv 1), I.n 1 9 (I.bc .lss 3 8 0 3), I.n 2 10 (I.mv 9), I.w 3 11 (I.mv 2) 10 false, I.w 4 12 (I.mv 1) 10 false, I.w 5 13 (I.bo .lss 3 11 12 3) 10 false, I.n 6 14 (I.pb 10 true 13), I.n 7 15 (I.mv 14), I.w 8 16 (I.mv 0) 15 false, I.w 9 17 (I.nc 16) 15 false, I.w 10 18 (I.fa 44 17 0) 15 false, I.w 11 19 (I.mv 2) 15 false, I.w 12 20 (I.c2 77 18 19 42 3) 15 false, I.w 13 21 (.unOp .not 4 (.tmp 20)) 15 false, I.n 14 22 (I.pb 15 true 21)]) (.cond (.tmp 22) (.seq (.reg 2 [I.n 0 6 I.sn, I.n 1 7 (I.si 6)]) .ret) .skip)) (.seq (.draw 3 [I.n 0 23 (I.mv 0), I.n 1 24 (I.nc 23), I.n 2 25 (I.fa 44 24 0), I.n 3 26 (I.fa 42 25 1), I.n 4 27 (I.ld 25 26), I.n 5 28 (I.mv 1), I.n 6 29 (I.ia 25 27 28), I.n 7 30 (I.ld 3 29), I.n 8 31 (I.mv 0), I.n 9 32 (I.nc 31), I.n 10 33 (I.fa 44 32 0), I.n 11 34 (I.fa 42 33 0), I.n 12 35 (I.ld 22 34), I.n 13 36 (I.mv 1), I.n 14 37 (I.mv 2), I.n 15 38 (.slice 22 (.tmp 35) (some (.tmp 36)) (some (.tmp 37)) none), I.n 16 39 (I.c2 63 30 38 3 22), I.n 17 40 (I.ex 39 0), I.n 18 41 (I.ex 39 1), I.n 19 6 (I.sa 40), I.n 20 7 (I.sa 41)] [[], [0], [1], [2], [3], [], [4, 5], [6], [], [8], [9], [10], [11], [], [], [12, 13, 14], [7, 15], [16], [16], [17, 16, 0, 1, 2, 3, 4, 5, 6, 7, 8, 9, 10, 11, 12, 13, 14, 15, 16, 17, 18], [18, 19, 0, 1, 2, 3, 4, 5, 6, 7, 8, 9, 10, 11, 12, 13, 14, 15, 16, 17, 18, 19]]) .ret))) := by
  intro c h
  have : c = Tryd.f38.body.get rfl := by rw [← Option.some_inj, ← h]; rfl
  rw [this]; rfl
def hatA (t : ByteArray) (Ls : List (List Sp)) (r : Int) : AV := if 0 ≤ r ∧ r ≤ Ls.length then allA t (Ls.take r.toNat) else .tup [.v (.string ⟨#[]⟩), .v (.int .i64 6)]
theorem hat_call (vb vl fl vs fs : Nat) (Ls : List (List Sp)) (Ns : List Int) (t : ByteArray) (r : Int) (hx : ∀ x ∈ Ls, x.length ≤ 100000000) (hb : t.size + totb Ls ≤ 1000000000) (hL : Ls.length ≤ 1000000) :
    HCallW env 65536 30 [.ptr 7000 vb 0 0, .v (.int .i64 r)] (hisG 7000 7001 7002 vb vl fl vs fs Ls Ns t) (fun x h => x = hatA t Ls r ∧ ∃ fl' : Nat, subs h (hisG 7000 7001 7002 vb vl fl' vs fs Ls Ns t)) := by
  have hrl := rowsA_len Ls
  unfold hatA
  by_cases hr : 0 ≤ r ∧ r ≤ Ls.length
  · rw [if_pos hr]
    obtain ⟨h1, h2⟩ := hr
    have hA := all_call t (Ls.take r.toNat) (by rw [List.length_take]; omega) (fun x h => hx x (List.mem_of_mem_take h)) (by have := totb_take Ls r.toNat; omega)
    unfold allA at hA ⊢
    have hcut : List.take (r.toNat - 0) (List.drop (0 + 0) (rowsA Ls)) = rowsA (Ls.take r.toNat) := by simp [rowsA]
    rw [← hcut] at hA
    refine Ev.fnH [0, 1, 4, 5, 11] 65536 [.tmp 4, .tmp 5] Tryd.func30 (comp30 _ rfl) (fun ct => ?_)
    repeat' (first | (with_reducible refine Ev.c_pos h2 ?_) | (with_reducible refine Ev.br_pos h2 ?_) | (with_reducible refine Ev.c_pos h1 ?_) | (with_reducible refine Ev.br_pos h1 ?_) | ((with_reducible refine Ev.br0 ?_); (first | refine Ev.brp ?_ | refine Ev.brn ?_); conv => whnf) | ((with_reducible refine Ev.c0 ?_); first | refine Ev.cp ?_ | refine Ev.cn ?_) | ((refine Ev.sw ?_); conv => whnf) | refine Ev.sn ?_ | ((with_reducible refine Ev.chk_k ?_ ?_); rotate_left; exact Ev.bt; conv => whnf) | ((with_reducible (refine Ev.RI.run ?_; constructor)) <;> intro _) | ((refine Ev.sg ?_); conv => whnf) | ((with_reducible refine Ev.sided ?_ ?_); conv => whnf) | ((with_reducible refine Ev.kr (hs := [29, 77]) (fun Q hQ => ?_)); (simp only [Ev.runE_cons, Ev.runE_nil]); conv => whnf) | (with_reducible refine hQ _ ?_; clear hQ Q) | ((refine Ev.sf ?_); intro F hF; conv => whnf) | (with_reducible refine hF _ ?_; clear hF F) | ((with_reducible refine Ev.go_k (fun c' => ?_)); conv => whnf) | ((with_reducible refine Ev.il0 29 ?_); refine Ev.il 29 [0, 2] [.tmp 2] Tryd.func29 (comp29 _ rfl) (fun ct' => ?_)) | ((with_reducible refine Ev.il0 77 ?_); refine Ev.il 77 [0, 1, 4] [.tmp 4] Tryd.func77 (comp77 _ rfl) (fun ct' => ?_)) | ((with_reducible refine Ev.ca0 ?_); (first | refine Ev.ca (hA) ?_); conv => whnf) | ((with_reducible refine Ev.dr0 ?_); (first | refine Ev.dr 3 [29, 77] [0, 1, 2, 3, 4, 5, 6, 7, 8, 9, 10, 11, 12, 13, 14, 15] ?_); intro Q hQ; (simp only [Ev.runE_cons, Ev.runE_nil]); conv => whnf) | ((first | refine Ev.el_map0 ?_ (fun hi => ?_) | refine Ev.el_mapN ?_ (fun hi => ?_)); rotate_left; conv => whnf) | ((with_reducible refine Ev.sd0 ?_); exact Ev.sd) | fail)
    all_goals exact ⟨rfl, _, Ev.slot_eq rfl rfl, Ev.slot_eq rfl rfl, Ev.slot_eq rfl rfl, trivial⟩
  · rw [if_neg hr]
    by_cases h1 : 0 ≤ r
    · have h2 : ¬ r ≤ Ls.length := fun h2 => hr ⟨h1, h2⟩
      refine Ev.fnH [0, 1, 4, 5, 11] 65536 [.tmp 4, .tmp 5] Tryd.func30 (comp30 _ rfl) (fun ct => ?_)
      repeat' (first | (with_reducible refine Ev.c_neg h2 ?_) | (with_reducible refine Ev.br_neg h2 ?_) | (with_reducible refine Ev.c_pos h1 ?_) | (with_reducible refine Ev.br_pos h1 ?_) | ((with_reducible refine Ev.br0 ?_); (first | refine Ev.brp ?_ | refine Ev.brn ?_); conv => whnf) | ((with_reducible refine Ev.c0 ?_); first | refine Ev.cp ?_ | refine Ev.cn ?_) | ((refine Ev.sw ?_); conv => whnf) | refine Ev.sn ?_ | ((with_reducible refine Ev.chk_k ?_ ?_); rotate_left; exact Ev.bt; conv => whnf) | ((with_reducible (refine Ev.RI.run ?_; constructor)) <;> intro _) | ((refine Ev.sg ?_); conv => whnf) | ((with_reducible refine Ev.sided ?_ ?_); conv => whnf) | ((with_reducible refine Ev.kr (hs := [29, 77]) (fun Q hQ => ?_)); (simp only [Ev.runE_cons, Ev.runE_nil]); conv => whnf) | (with_reducible refine hQ _ ?_; clear hQ Q) | ((refine Ev.sf ?_); intro F hF; conv => whnf) | (with_reducible refine hF _ ?_; clear hF F) | ((with_reducible refine Ev.go_k (fun c' => ?_)); conv => whnf) | ((with_reducible refine Ev.il0 29 ?_); refine Ev.il 29 [0, 2] [.tmp 2] Tryd.func29 (comp29 _ rfl) (fun ct' => ?_)) | ((with_reducible refine Ev.il0 77 ?_); refine Ev.il 77 [0, 1, 4] [.tmp 4] Tryd.func77 (comp77 _ rfl) (fun ct' => ?_)) | ((with_reducible refine Ev.dr0 ?_); (first | refine Ev.dr 3 [29, 77] [0, 1, 2, 3, 4, 5, 6, 7, 8, 9, 10, 11, 12, 13, 14, 15] ?_); intro Q hQ; (simp only [Ev.runE_cons, Ev.runE_nil]); conv => whnf) | ((first | refine Ev.el_map0 ?_ (fun hi => ?_) | refine Ev.el_mapN ?_ (fun hi => ?_)); rotate_left; conv => whnf) | ((with_reducible refine Ev.sd0 ?_); exact Ev.sd) | fail)
      all_goals exact ⟨rfl, fl, Ev.slot_eq rfl rfl, Ev.slot_eq rfl rfl, Ev.slot_eq rfl rfl, trivial⟩
    · refine Ev.fnH [0, 1, 4, 5, 11] 65536 [.tmp 4, .tmp 5] Tryd.func30 (comp30 _ rfl) (fun ct => ?_)
      repeat' (first | (with_reducible refine Ev.c_neg h1 ?_) | (with_reducible refine Ev.br_neg h1 ?_) | ((with_reducible refine Ev.br0 ?_); (first | refine Ev.brp ?_ | refine Ev.brn ?_); conv => whnf) | ((with_reducible refine Ev.c0 ?_); first | refine Ev.cp ?_ | refine Ev.cn ?_) | ((refine Ev.sw ?_); conv => whnf) | refine Ev.sn ?_ | ((with_reducible refine Ev.chk_k ?_ ?_); rotate_left; exact Ev.bt; conv => whnf) | ((with_reducible (refine Ev.RI.run ?_; constructor)) <;> intro _) | ((refine Ev.sg ?_); conv => whnf) | ((with_reducible refine Ev.sided ?_ ?_); conv => whnf) | ((with_reducible refine Ev.kr (hs := [29, 77]) (fun Q hQ => ?_)); (simp only [Ev.runE_cons, Ev.runE_nil]); conv => whnf) | (with_reducible refine hQ _ ?_; clear hQ Q) | ((refine Ev.sf ?_); intro F hF; conv => whnf) | (with_reducible refine hF _ ?_; clear hF F) | ((with_reducible refine Ev.go_k (fun c' => ?_)); conv => whnf) | ((with_reducible refine Ev.il0 29 ?_); refine Ev.il 29 [0, 2] [.tmp 2] Tryd.func29 (comp29 _ rfl) (fun ct' => ?_)) | ((with_reducible refine Ev.il0 77 ?_); refine Ev.il 77 [0, 1, 4] [.tmp 4] Tryd.func77 (comp77 _ rfl) (fun ct' => ?_)) | ((with_reducible refine Ev.dr0 ?_); (first | refine Ev.dr 3 [29, 77] [0, 1, 2, 3, 4, 5, 6, 7, 8, 9, 10, 11, 12, 13, 14, 15] ?_); intro Q hQ; (simp only [Ev.runE_cons, Ev.runE_nil]); conv => whnf) | ((first | refine Ev.el_map0 ?_ (fun hi => ?_) | refine Ev.el_mapN ?_ (fun hi => ?_)); rotate_left; conv => whnf) | ((with_reducible refine Ev.sd0 ?_); exact Ev.sd) | fail)
      all_goals exact ⟨rfl, fl, Ev.slot_eq rfl rfl, Ev.slot_eq rfl rfl, Ev.slot_eq rfl rfl, trivial⟩
def hovE (Ls : List (List Sp)) (Ns : List Int) (a : List Sp) (r : Int) : Int := if 0 ≤ r ∧ r ≤ Ls.length then (if opMayF a ≠ 0 then opMayF a else if inW a ≠ Ns.getD r.toNat 0 then 5 else 0) else 6
def hovA (Ls : List (List Sp)) (Ns : List Int) (a : List Sp) (r : Int) : AV := if hovE Ls Ns a r = 0 then thrA a (Ls.drop r.toNat) else .tup [nilA, .v (.int .i64 (hovE Ls Ns a r))]
theorem lenS_drop (Ls : List (List Sp)) (i : Nat) : lenS (Ls.drop i) ≤ lenS Ls := by
  induction Ls generalizing i with
  | nil => simp
  | cons x L ih =>
    cases i with
    | zero => exact Nat.le_refl _
    | succ i => rw [List.drop_succ_cons, (lenS_cons x L).1]; have := ih i; omega
theorem hov_call (vb vl fl vs fs : Nat) (Ls : List (List Sp)) (Ns : List Int) (t : ByteArray) (a : List Sp) (r : Int) (hN : Ns.length = Ls.length + 1) (hl : a.length + lenS Ls ≤ 9999999) (ha : tbs a ≤ 100000000) (hb : ∀ x ∈ Ls, tbs x ≤ 100000000) (hL : Ls.length ≤ 1000000) (ho : ∀ s ∈ Ls, opMayF s = 0 → sumI outS s ≤ 1048576) :
    HCallW env 65536 33 [.ptr 7000 vb 0 0, .lst 3 (sps a), .v (.int .i64 r)] (hisG 7000 7001 7002 vb vl fl vs fs Ls Ns t) (fun x h => x = hovA Ls Ns a r ∧ ∃ fl' : Nat, subs h (hisG 7000 7001 7002 vb vl fl' vs fs Ls Ns t)) := by
  have hrl := rowsA_len Ls
  have hil := ints_len Ns
  have hsm : Small a := tbs_small (by omega)
  have hM := opMay_call a (by omega) hsm
  have hI := opIn_call a (by omega)
  have hT := thr_call a (Ls.drop r.toNat) (by have := lenS_drop Ls r.toNat; omega) ha (fun x h => hb x (List.mem_of_mem_drop h)) (by rw [List.length_drop]; omega) (fun s h => ho s (List.mem_of_mem_drop h))
  have hcut : List.take (Ls.length - r.toNat) (List.drop (0 + r.toNat) (rowsA Ls)) = rowsA (Ls.drop r.toNat) := by rw [Nat.zero_add, List.take_of_length_le (by simp [rowsA])]; simp [rowsA]
  rw [← hcut] at hT
  unfold hovA
  by_cases hr : 0 ≤ r ∧ r ≤ Ls.length
  · obtain ⟨h1, h2⟩ := hr
    obtain ⟨n, rfl⟩ := Int.eq_ofNat_of_zero_le h1
    have hd : ∀ h : n < Ns.length, Ns.getD (n : Int).toNat 0 = Ns[n]'h := fun h => by rw [Int.toNat_natCast, List.getD_eq_getElem?_getD, List.getElem?_eq_getElem h]; rfl
    have hrn : n < Ns.length := by omega
    by_cases m0 : opMayF a = 0
    · rw [m0] at hM
      by_cases m1 : sumW (fun s => inF s.k s.n) a = Ns[n]
      · have m1' : inW a = Ns[n] := m1
        have e : hovE Ls Ns a n = 0 := by unfold hovE; rw [if_pos ⟨h1, h2⟩, hd hrn, if_neg (by simpa using m0), if_neg (by simpa using m1')]
        rw [if_pos e]
        unfold thrA at hT ⊢
        have m1 : ∀ h : n < Ns.length, sumW (fun s => inF s.k s.n) a = Ns[n]'h := fun _ => m1
        by_cases ht : tmE a (Ls.drop (n : Int).toNat) = 0
        · rw [ht, if_pos rfl] at hT ⊢
          refine Ev.fnH [0, 1, 2, 6, 7, 8, 14, 18, 30] 65536 [.tmp 6, .tmp 7] Tryd.func33 (comp33 _ rfl) (fun ct => ?_)
          repeat' (first | (with_reducible refine Ev.c_pos h2 ?_) | (with_reducible refine Ev.br_pos h2 ?_) | (with_reducible refine Ev.c_pos h1 ?_) | (with_reducible refine Ev.br_pos h1 ?_) | (with_reducible refine Ev.c_pos (m1 _) ?_) | (with_reducible refine Ev.br_pos (m1 _) ?_) | ((with_reducible refine Ev.br0 ?_); (first | refine Ev.brp ?_ | refine Ev.brn ?_); conv => whnf) | ((with_reducible refine Ev.c0 ?_); first | refine Ev.cp ?_ | refine Ev.cn ?_) | ((refine Ev.sw ?_); conv => whnf) | refine Ev.sn ?_ | ((with_reducible refine Ev.chk_k ?_ ?_); rotate_left; exact Ev.bt; conv => whnf) | ((with_reducible (refine Ev.RI.run ?_; constructor)) <;> intro _) | ((refine Ev.sg ?_); conv => whnf) | ((with_reducible refine Ev.sided ?_ ?_); conv => whnf) | ((with_reducible refine Ev.kr (hs := [29, 77]) (fun Q hQ => ?_)); (simp only [Ev.runE_cons, Ev.runE_nil]); conv => whnf) | (with_reducible refine hQ _ ?_; clear hQ Q) | ((refine Ev.sf ?_); intro F hF; conv => whnf) | (with_reducible refine hF _ ?_; clear hF F) | ((with_reducible refine Ev.go_k (fun c' => ?_)); conv => whnf) | ((with_reducible refine Ev.il0 29 ?_); refine Ev.il 29 [0, 2] [.tmp 2] Tryd.func29 (comp29 _ rfl) (fun ct' => ?_)) | ((with_reducible refine Ev.il0 77 ?_); refine Ev.il 77 [0, 1, 4] [.tmp 4] Tryd.func77 (comp77 _ rfl) (fun ct' => ?_)) | ((with_reducible refine Ev.ca0 ?_); (first | refine Ev.ca (hM) ?_ | refine Ev.ca (hI) ?_ | refine Ev.ca (hT) ?_); conv => whnf) | ((with_reducible refine Ev.dr0 ?_); (first | refine Ev.dr 6 [29, 77] [0, 2, 3, 4, 5, 6, 7, 8, 9, 1, 10] ?_); intro Q hQ; (simp only [Ev.runE_cons, Ev.runE_nil]); conv => whnf) | ((first | refine Ev.el_map0 ?_ (fun hi => ?_) | refine Ev.el_mapN ?_ (fun hi => ?_)); rotate_left; conv => whnf) | ((with_reducible refine Ev.sd0 ?_); exact Ev.sd) | fail)
          all_goals exact ⟨rfl, _, Ev.slot_eq rfl rfl, Ev.slot_eq rfl rfl, Ev.slot_eq rfl rfl, trivial⟩
        · rw [if_neg ht] at hT ⊢
          refine Ev.fnH [0, 1, 2, 6, 7, 8, 14, 18, 30] 65536 [.tmp 6, .tmp 7] Tryd.func33 (comp33 _ rfl) (fun ct => ?_)
          repeat' (first | (with_reducible refine Ev.c_pos h2 ?_) | (with_reducible refine Ev.br_pos h2 ?_) | (with_reducible refine Ev.c_pos h1 ?_) | (with_reducible refine Ev.br_pos h1 ?_) | (with_reducible refine Ev.c_pos (m1 _) ?_) | (with_reducible refine Ev.br_pos (m1 _) ?_) | ((with_reducible refine Ev.br0 ?_); (first | refine Ev.brp ?_ | refine Ev.brn ?_); conv => whnf) | ((with_reducible refine Ev.c0 ?_); first | refine Ev.cp ?_ | refine Ev.cn ?_) | ((refine Ev.sw ?_); conv => whnf) | refine Ev.sn ?_ | ((with_reducible refine Ev.chk_k ?_ ?_); rotate_left; exact Ev.bt; conv => whnf) | ((with_reducible (refine Ev.RI.run ?_; constructor)) <;> intro _) | ((refine Ev.sg ?_); conv => whnf) | ((with_reducible refine Ev.sided ?_ ?_); conv => whnf) | ((with_reducible refine Ev.kr (hs := [29, 77]) (fun Q hQ => ?_)); (simp only [Ev.runE_cons, Ev.runE_nil]); conv => whnf) | (with_reducible refine hQ _ ?_; clear hQ Q) | ((refine Ev.sf ?_); intro F hF; conv => whnf) | (with_reducible refine hF _ ?_; clear hF F) | ((with_reducible refine Ev.go_k (fun c' => ?_)); conv => whnf) | ((with_reducible refine Ev.il0 29 ?_); refine Ev.il 29 [0, 2] [.tmp 2] Tryd.func29 (comp29 _ rfl) (fun ct' => ?_)) | ((with_reducible refine Ev.il0 77 ?_); refine Ev.il 77 [0, 1, 4] [.tmp 4] Tryd.func77 (comp77 _ rfl) (fun ct' => ?_)) | ((with_reducible refine Ev.ca0 ?_); (first | refine Ev.ca (hM) ?_ | refine Ev.ca (hI) ?_ | refine Ev.ca (hT) ?_); conv => whnf) | ((with_reducible refine Ev.dr0 ?_); (first | refine Ev.dr 6 [29, 77] [0, 2, 3, 4, 5, 6, 7, 8, 9, 1, 10] ?_); intro Q hQ; (simp only [Ev.runE_cons, Ev.runE_nil]); conv => whnf) | ((first | refine Ev.el_map0 ?_ (fun hi => ?_) | refine Ev.el_mapN ?_ (fun hi => ?_)); rotate_left; conv => whnf) | ((with_reducible refine Ev.sd0 ?_); exact Ev.sd) | fail)
          all_goals exact ⟨rfl, _, Ev.slot_eq rfl rfl, Ev.slot_eq rfl rfl, Ev.slot_eq rfl rfl, trivial⟩
      · have m1' : ¬ inW a = Ns[n] := m1
        have e : hovE Ls Ns a n = 5 := by unfold hovE; rw [if_pos ⟨h1, h2⟩, hd hrn, if_neg (by simpa using m0), if_pos m1']
        rw [if_neg (by rw [e]; decide), e]
        have m1 : ∀ h : n < Ns.length, ¬ sumW (fun s => inF s.k s.n) a = Ns[n]'h := fun _ => m1
        refine Ev.fnH [0, 1, 2, 6, 7, 8, 14, 18, 30] 65536 [.tmp 6, .tmp 7] Tryd.func33 (comp33 _ rfl) (fun ct => ?_)
        repeat' (first | (with_reducible refine Ev.c_pos h2 ?_) | (with_reducible refine Ev.br_pos h2 ?_) | (with_reducible refine Ev.c_pos h1 ?_) | (with_reducible refine Ev.br_pos h1 ?_) | (with_reducible refine Ev.c_neg (m1 _) ?_) | (with_reducible refine Ev.br_neg (m1 _) ?_) | ((with_reducible refine Ev.br0 ?_); (first | refine Ev.brp ?_ | refine Ev.brn ?_); conv => whnf) | ((with_reducible refine Ev.c0 ?_); first | refine Ev.cp ?_ | refine Ev.cn ?_) | ((refine Ev.sw ?_); conv => whnf) | refine Ev.sn ?_ | ((with_reducible refine Ev.chk_k ?_ ?_); rotate_left; exact Ev.bt; conv => whnf) | ((with_reducible (refine Ev.RI.run ?_; constructor)) <;> intro _) | ((refine Ev.sg ?_); conv => whnf) | ((with_reducible refine Ev.sided ?_ ?_); conv => whnf) | ((with_reducible refine Ev.kr (hs := [29, 77]) (fun Q hQ => ?_)); (simp only [Ev.runE_cons, Ev.runE_nil]); conv => whnf) | (with_reducible refine hQ _ ?_; clear hQ Q) | ((refine Ev.sf ?_); intro F hF; conv => whnf) | (with_reducible refine hF _ ?_; clear hF F) | ((with_reducible refine Ev.go_k (fun c' => ?_)); conv => whnf) | ((with_reducible refine Ev.il0 29 ?_); refine Ev.il 29 [0, 2] [.tmp 2] Tryd.func29 (comp29 _ rfl) (fun ct' => ?_)) | ((with_reducible refine Ev.il0 77 ?_); refine Ev.il 77 [0, 1, 4] [.tmp 4] Tryd.func77 (comp77 _ rfl) (fun ct' => ?_)) | ((with_reducible refine Ev.ca0 ?_); (first | refine Ev.ca (hM) ?_ | refine Ev.ca (hI) ?_); conv => whnf) | ((with_reducible refine Ev.dr0 ?_); (first | refine Ev.dr 6 [29, 77] [0, 2, 3, 4, 5, 6, 7, 8, 9, 1, 10] ?_); intro Q hQ; (simp only [Ev.runE_cons, Ev.runE_nil]); conv => whnf) | ((first | refine Ev.el_map0 ?_ (fun hi => ?_) | refine Ev.el_mapN ?_ (fun hi => ?_)); rotate_left; conv => whnf) | ((with_reducible refine Ev.sd0 ?_); exact Ev.sd) | fail)
        all_goals exact ⟨rfl, fl, Ev.slot_eq rfl rfl, Ev.slot_eq rfl rfl, Ev.slot_eq rfl rfl, trivial⟩
    · have e : hovE Ls Ns a n = opMayF a := by unfold hovE; rw [if_pos ⟨h1, h2⟩, if_pos m0]
      rw [if_neg (by rw [e]; exact m0), e]
      refine Ev.fnH [0, 1, 2, 6, 7, 8, 14, 18, 30] 65536 [.tmp 6, .tmp 7] Tryd.func33 (comp33 _ rfl) (fun ct => ?_)
      repeat' (first | (with_reducible refine Ev.c_pos h2 ?_) | (with_reducible refine Ev.br_pos h2 ?_) | (with_reducible refine Ev.c_pos h1 ?_) | (with_reducible refine Ev.br_pos h1 ?_) | (with_reducible refine Ev.c_neg m0 ?_) | (with_reducible refine Ev.br_neg m0 ?_) | ((with_reducible refine Ev.br0 ?_); (first | refine Ev.brp ?_ | refine Ev.brn ?_); conv => whnf) | ((with_reducible refine Ev.c0 ?_); first | refine Ev.cp ?_ | refine Ev.cn ?_) | ((refine Ev.sw ?_); conv => whnf) | refine Ev.sn ?_ | ((with_reducible refine Ev.chk_k ?_ ?_); rotate_left; exact Ev.bt; conv => whnf) | ((with_reducible (refine Ev.RI.run ?_; constructor)) <;> intro _) | ((refine Ev.sg ?_); conv => whnf) | ((with_reducible refine Ev.sided ?_ ?_); conv => whnf) | ((with_reducible refine Ev.kr (hs := [29, 77]) (fun Q hQ => ?_)); (simp only [Ev.runE_cons, Ev.runE_nil]); conv => whnf) | (with_reducible refine hQ _ ?_; clear hQ Q) | ((refine Ev.sf ?_); intro F hF; conv => whnf) | (with_reducible refine hF _ ?_; clear hF F) | ((with_reducible refine Ev.go_k (fun c' => ?_)); conv => whnf) | ((with_reducible refine Ev.il0 29 ?_); refine Ev.il 29 [0, 2] [.tmp 2] Tryd.func29 (comp29 _ rfl) (fun ct' => ?_)) | ((with_reducible refine Ev.il0 77 ?_); refine Ev.il 77 [0, 1, 4] [.tmp 4] Tryd.func77 (comp77 _ rfl) (fun ct' => ?_)) | ((with_reducible refine Ev.ca0 ?_); (first | refine Ev.ca (hM) ?_ | refine Ev.ca (hI) ?_); conv => whnf) | ((with_reducible refine Ev.dr0 ?_); (first | refine Ev.dr 6 [29, 77] [0, 2, 3, 4, 5, 6, 7, 8, 9, 1, 10] ?_); intro Q hQ; (simp only [Ev.runE_cons, Ev.runE_nil]); conv => whnf) | ((first | refine Ev.el_map0 ?_ (fun hi => ?_) | refine Ev.el_mapN ?_ (fun hi => ?_)); rotate_left; conv => whnf) | ((with_reducible refine Ev.sd0 ?_); exact Ev.sd) | fail)
      all_goals exact ⟨rfl, fl, Ev.slot_eq rfl rfl, Ev.slot_eq rfl rfl, Ev.slot_eq rfl rfl, trivial⟩
  · have e : hovE Ls Ns a r = 6 := by unfold hovE; rw [if_neg hr]
    rw [if_neg (by rw [e]; decide), e]
    by_cases h1 : 0 ≤ r
    · have h2 : ¬ r ≤ Ls.length := fun h2 => hr ⟨h1, h2⟩
      refine Ev.fnH [0, 1, 2, 6, 7, 8, 14, 18, 30] 65536 [.tmp 6, .tmp 7] Tryd.func33 (comp33 _ rfl) (fun ct => ?_)
      repeat' (first | (with_reducible refine Ev.c_neg h2 ?_) | (with_reducible refine Ev.br_neg h2 ?_) | (with_reducible refine Ev.c_pos h1 ?_) | (with_reducible refine Ev.br_pos h1 ?_) | ((with_reducible refine Ev.br0 ?_); (first | refine Ev.brp ?_ | refine Ev.brn ?_); conv => whnf) | ((with_reducible refine Ev.c0 ?_); first | refine Ev.cp ?_ | refine Ev.cn ?_) | ((refine Ev.sw ?_); conv => whnf) | refine Ev.sn ?_ | ((with_reducible refine Ev.chk_k ?_ ?_); rotate_left; exact Ev.bt; conv => whnf) | ((with_reducible (refine Ev.RI.run ?_; constructor)) <;> intro _) | ((refine Ev.sg ?_); conv => whnf) | ((with_reducible refine Ev.sided ?_ ?_); conv => whnf) | ((with_reducible refine Ev.kr (hs := [29, 77]) (fun Q hQ => ?_)); (simp only [Ev.runE_cons, Ev.runE_nil]); conv => whnf) | (with_reducible refine hQ _ ?_; clear hQ Q) | ((refine Ev.sf ?_); intro F hF; conv => whnf) | (with_reducible refine hF _ ?_; clear hF F) | ((with_reducible refine Ev.go_k (fun c' => ?_)); conv => whnf) | ((with_reducible refine Ev.il0 29 ?_); refine Ev.il 29 [0, 2] [.tmp 2] Tryd.func29 (comp29 _ rfl) (fun ct' => ?_)) | ((with_reducible refine Ev.il0 77 ?_); refine Ev.il 77 [0, 1, 4] [.tmp 4] Tryd.func77 (comp77 _ rfl) (fun ct' => ?_)) | ((with_reducible refine Ev.dr0 ?_); (first | refine Ev.dr 6 [29, 77] [0, 2, 3, 4, 5, 6, 7, 8, 9, 1, 10] ?_); intro Q hQ; (simp only [Ev.runE_cons, Ev.runE_nil]); conv => whnf) | ((first | refine Ev.el_map0 ?_ (fun hi => ?_) | refine Ev.el_mapN ?_ (fun hi => ?_)); rotate_left; conv => whnf) | ((with_reducible refine Ev.sd0 ?_); exact Ev.sd) | fail)
      all_goals exact ⟨rfl, fl, Ev.slot_eq rfl rfl, Ev.slot_eq rfl rfl, Ev.slot_eq rfl rfl, trivial⟩
    · refine Ev.fnH [0, 1, 2, 6, 7, 8, 14, 18, 30] 65536 [.tmp 6, .tmp 7] Tryd.func33 (comp33 _ rfl) (fun ct => ?_)
      repeat' (first | (with_reducible refine Ev.c_neg h1 ?_) | (with_reducible refine Ev.br_neg h1 ?_) | ((with_reducible refine Ev.br0 ?_); (first | refine Ev.brp ?_ | refine Ev.brn ?_); conv => whnf) | ((with_reducible refine Ev.c0 ?_); first | refine Ev.cp ?_ | refine Ev.cn ?_) | ((refine Ev.sw ?_); conv => whnf) | refine Ev.sn ?_ | ((with_reducible refine Ev.chk_k ?_ ?_); rotate_left; exact Ev.bt; conv => whnf) | ((with_reducible (refine Ev.RI.run ?_; constructor)) <;> intro _) | ((refine Ev.sg ?_); conv => whnf) | ((with_reducible refine Ev.sided ?_ ?_); conv => whnf) | ((with_reducible refine Ev.kr (hs := [29, 77]) (fun Q hQ => ?_)); (simp only [Ev.runE_cons, Ev.runE_nil]); conv => whnf) | (with_reducible refine hQ _ ?_; clear hQ Q) | ((refine Ev.sf ?_); intro F hF; conv => whnf) | (with_reducible refine hF _ ?_; clear hF F) | ((with_reducible refine Ev.go_k (fun c' => ?_)); conv => whnf) | ((with_reducible refine Ev.il0 29 ?_); refine Ev.il 29 [0, 2] [.tmp 2] Tryd.func29 (comp29 _ rfl) (fun ct' => ?_)) | ((with_reducible refine Ev.il0 77 ?_); refine Ev.il 77 [0, 1, 4] [.tmp 4] Tryd.func77 (comp77 _ rfl) (fun ct' => ?_)) | ((with_reducible refine Ev.dr0 ?_); (first | refine Ev.dr 6 [29, 77] [0, 2, 3, 4, 5, 6, 7, 8, 9, 1, 10] ?_); intro Q hQ; (simp only [Ev.runE_cons, Ev.runE_nil]); conv => whnf) | ((first | refine Ev.el_map0 ?_ (fun hi => ?_) | refine Ev.el_mapN ?_ (fun hi => ?_)); rotate_left; conv => whnf) | ((with_reducible refine Ev.sd0 ?_); exact Ev.sd) | fail)
      all_goals exact ⟨rfl, fl, Ev.slot_eq rfl rfl, Ev.slot_eq rfl rfl, Ev.slot_eq rfl rfl, trivial⟩
def hruA (Ls : List (List Sp)) (Ns : List Int) (r s : Int) : AV := if 0 ≤ r ∧ r ≤ s ∧ s ≤ Ls.length then foldA (keepL (Ns.getD r.toNat 0)) ((Ls.drop r.toNat).take (s.toNat - r.toNat)) else .tup [nilA, .v (.int .i64 6)]
theorem lenS_take (Ls : List (List Sp)) (i : Nat) : lenS (Ls.take i) ≤ lenS Ls ∧ tbsS (Ls.take i) ≤ tbsS Ls := by
  induction Ls generalizing i with
  | nil => simp
  | cons x L ih =>
    cases i with
    | zero => rw [List.take_zero]; exact ⟨Nat.zero_le _, Nat.zero_le _⟩
    | succ i => rw [List.take_succ_cons, (lenS_cons x L).1, (lenS_cons x L).2, (lenS_cons x _).1, (lenS_cons x _).2]; have := ih i; omega
theorem tbsS_drop (Ls : List (List Sp)) (i : Nat) : tbsS (Ls.drop i) ≤ tbsS Ls := by
  induction Ls generalizing i with
  | nil => simp
  | cons x L ih =>
    cases i with
    | zero => exact Nat.le_refl _
    | succ i => rw [List.drop_succ_cons, (lenS_cons x L).2]; have := ih i; omega
theorem hru_call (vb vl fl vs fs : Nat) (Ls : List (List Sp)) (Ns : List Int) (t : ByteArray) (r s : Int) (hN : Ns.length = Ls.length + 1) (hn : ∀ n ∈ Ns, 0 ≤ n ∧ n ≤ 1048576) (hl : lenS Ls ≤ 9999999) (hb : tbsS Ls ≤ 100000000) (hL : Ls.length ≤ 1000000) :
    HCallW env 65536 38 [.ptr 7000 vb 0 0, .v (.int .i64 r), .v (.int .i64 s)] (hisG 7000 7001 7002 vb vl fl vs fs Ls Ns t) (fun x h => x = hruA Ls Ns r s ∧ ∃ fl' : Nat, subs h (hisG 7000 7001 7002 vb vl fl' vs fs Ls Ns t)) := by
  have hrl := rowsA_len Ls
  have hil := ints_len Ns
  unfold hruA
  by_cases hr : 0 ≤ r ∧ r ≤ s ∧ s ≤ Ls.length
  · obtain ⟨h0, h1, h2⟩ := hr
    obtain ⟨n, rfl⟩ := Int.eq_ofNat_of_zero_le h0
    have hnn : (n : Int).toNat = n := Int.toNat_natCast n
    have hrn : n < Ns.length := by omega
    have hd : Ns.getD (n : Int).toNat 0 = Ns[n]'hrn := by rw [hnn, List.getD_eq_getElem?_getD, List.getElem?_eq_getElem hrn]; rfl
    rw [if_pos ⟨h0, h1, h2⟩, hd]
    have hF := fuse_call Ns[n] (hn _ (List.getElem_mem hrn)) ((Ls.drop (n : Int).toNat).take (s.toNat - (n : Int).toNat)) (by have := (lenS_take (Ls.drop (n : Int).toNat) (s.toNat - (n : Int).toNat)).1; have := lenS_drop Ls (n : Int).toNat; omega) (by have := (lenS_take (Ls.drop (n : Int).toNat) (s.toNat - (n : Int).toNat)).2; have := tbsS_drop Ls (n : Int).toNat; omega) (by simp; omega)
    have hcut : List.take (s.toNat - (n : Int).toNat) (List.drop (0 + (n : Int).toNat) (rowsA Ls)) = rowsA ((Ls.drop (n : Int).toNat).take (s.toNat - (n : Int).toNat)) := by simp [rowsA]
    rw [← hcut] at hF
    have h0' : ¬ (n : Int) < 0 := by omega
    have h1' : ¬ s < (n : Int) := by omega
    have hs0 : 0 ≤ s := by omega
    have hR : foldA (keepL Ns[n]) ((Ls.drop (n : Int).toNat).take (s.toNat - (n : Int).toNat)) = .tup [if (foldG (keepL Ns[n]) ((Ls.drop (n : Int).toNat).take (s.toNat - (n : Int).toNat))).2 = 0 then .lst 3 (sps (foldG (keepL Ns[n]) ((Ls.drop (n : Int).toNat).take (s.toNat - (n : Int).toNat))).1) else nilA, .v (.int .i64 (foldG (keepL Ns[n]) ((Ls.drop (n : Int).toNat).take (s.toNat - (n : Int).toNat))).2)] := rfl
    generalize foldG (keepL Ns[n]) ((Ls.drop (n : Int).toNat).take (s.toNat - (n : Int).toNat)) = G at *
    by_cases hG : G.2 = 0
    · rw [if_pos hG] at hR
      rw [hR] at hF ⊢
      refine Ev.fnH [0, 1, 2, 6, 7, 22] 65536 [.tmp 6, .tmp 7] Tryd.func38 (comp38 _ rfl) (fun ct => ?_)
      repeat' (first | (with_reducible refine Ev.c_neg h0' ?_) | (with_reducible refine Ev.br_neg h0' ?_) | (with_reducible refine Ev.c_neg h1' ?_) | (with_reducible refine Ev.br_neg h1' ?_) | (with_reducible refine Ev.c_pos h2 ?_) | (with_reducible refine Ev.br_pos h2 ?_) | (with_reducible refine Ev.c_pos hs0 ?_) | (with_reducible refine Ev.br_pos hs0 ?_) | ((with_reducible refine Ev.br0 ?_); (first | refine Ev.brp ?_ | refine Ev.brn ?_); conv => whnf) | ((with_reducible refine Ev.c0 ?_); first | refine Ev.cp ?_ | refine Ev.cn ?_) | ((refine Ev.sw ?_); conv => whnf) | refine Ev.sn ?_ | ((with_reducible refine Ev.chk_k ?_ ?_); rotate_left; exact Ev.bt; conv => whnf) | ((with_reducible (refine Ev.RI.run ?_; constructor)) <;> intro _) | ((refine Ev.sg ?_); conv => whnf) | ((with_reducible refine Ev.sided ?_ ?_); conv => whnf) | ((with_reducible refine Ev.kr (hs := [29, 77]) (fun Q hQ => ?_)); (simp only [Ev.runE_cons, Ev.runE_nil]); conv => whnf) | (with_reducible refine hQ _ ?_; clear hQ Q) | ((refine Ev.sf ?_); intro F hF; conv => whnf) | (with_reducible refine hF _ ?_; clear hF F) | ((with_reducible refine Ev.go_k (fun c' => ?_)); conv => whnf) | ((with_reducible refine Ev.il0 29 ?_); refine Ev.il 29 [0, 2] [.tmp 2] Tryd.func29 (comp29 _ rfl) (fun ct' => ?_)) | ((with_reducible refine Ev.il0 77 ?_); refine Ev.il 77 [0, 1, 4] [.tmp 4] Tryd.func77 (comp77 _ rfl) (fun ct' => ?_)) | ((with_reducible refine Ev.ca0 ?_); (first | refine Ev.ca (hF) ?_); conv => whnf) | ((with_reducible refine Ev.dr0 ?_); (first | refine Ev.dr 3 [29, 77] [0, 1, 2, 3, 4, 5, 6, 7, 8, 9, 10, 11, 12, 13, 14, 15, 16, 17, 18, 19, 20] ?_); intro Q hQ; (simp only [Ev.runE_cons, Ev.runE_nil]); conv => whnf) | ((first | refine Ev.el_map0 ?_ (fun hi => ?_) | refine Ev.el_mapN ?_ (fun hi => ?_)); rotate_left; conv => whnf) | ((with_reducible refine Ev.sd0 ?_); exact Ev.sd) | fail)
      all_goals exact ⟨rfl, _, Ev.slot_eq rfl rfl, Ev.slot_eq rfl rfl, Ev.slot_eq rfl rfl, trivial⟩
    · rw [if_neg hG] at hR
      rw [hR] at hF ⊢
      refine Ev.fnH [0, 1, 2, 6, 7, 22] 65536 [.tmp 6, .tmp 7] Tryd.func38 (comp38 _ rfl) (fun ct => ?_)
      repeat' (first | (with_reducible refine Ev.c_neg h0' ?_) | (with_reducible refine Ev.br_neg h0' ?_) | (with_reducible refine Ev.c_neg h1' ?_) | (with_reducible refine Ev.br_neg h1' ?_) | (with_reducible refine Ev.c_pos h2 ?_) | (with_reducible refine Ev.br_pos h2 ?_) | (with_reducible refine Ev.c_pos hs0 ?_) | (with_reducible refine Ev.br_pos hs0 ?_) | ((with_reducible refine Ev.br0 ?_); (first | refine Ev.brp ?_ | refine Ev.brn ?_); conv => whnf) | ((with_reducible refine Ev.c0 ?_); first | refine Ev.cp ?_ | refine Ev.cn ?_) | ((refine Ev.sw ?_); conv => whnf) | refine Ev.sn ?_ | ((with_reducible refine Ev.chk_k ?_ ?_); rotate_left; exact Ev.bt; conv => whnf) | ((with_reducible (refine Ev.RI.run ?_; constructor)) <;> intro _) | ((refine Ev.sg ?_); conv => whnf) | ((with_reducible refine Ev.sided ?_ ?_); conv => whnf) | ((with_reducible refine Ev.kr (hs := [29, 77]) (fun Q hQ => ?_)); (simp only [Ev.runE_cons, Ev.runE_nil]); conv => whnf) | (with_reducible refine hQ _ ?_; clear hQ Q) | ((refine Ev.sf ?_); intro F hF; conv => whnf) | (with_reducible refine hF _ ?_; clear hF F) | ((with_reducible refine Ev.go_k (fun c' => ?_)); conv => whnf) | ((with_reducible refine Ev.il0 29 ?_); refine Ev.il 29 [0, 2] [.tmp 2] Tryd.func29 (comp29 _ rfl) (fun ct' => ?_)) | ((with_reducible refine Ev.il0 77 ?_); refine Ev.il 77 [0, 1, 4] [.tmp 4] Tryd.func77 (comp77 _ rfl) (fun ct' => ?_)) | ((with_reducible refine Ev.ca0 ?_); (first | refine Ev.ca (hF) ?_); conv => whnf) | ((with_reducible refine Ev.dr0 ?_); (first | refine Ev.dr 3 [29, 77] [0, 1, 2, 3, 4, 5, 6, 7, 8, 9, 10, 11, 12, 13, 14, 15, 16, 17, 18, 19, 20] ?_); intro Q hQ; (simp only [Ev.runE_cons, Ev.runE_nil]); conv => whnf) | ((first | refine Ev.el_map0 ?_ (fun hi => ?_) | refine Ev.el_mapN ?_ (fun hi => ?_)); rotate_left; conv => whnf) | ((with_reducible refine Ev.sd0 ?_); exact Ev.sd) | fail)
      all_goals exact ⟨rfl, _, Ev.slot_eq rfl rfl, Ev.slot_eq rfl rfl, Ev.slot_eq rfl rfl, trivial⟩
  · rw [if_neg hr]
    by_cases h0 : r < 0
    · refine Ev.fnH [0, 1, 2, 6, 7, 22] 65536 [.tmp 6, .tmp 7] Tryd.func38 (comp38 _ rfl) (fun ct => ?_)
      repeat' (first | (with_reducible refine Ev.c_pos h0 ?_) | (with_reducible refine Ev.br_pos h0 ?_) | ((with_reducible refine Ev.br0 ?_); (first | refine Ev.brp ?_ | refine Ev.brn ?_); conv => whnf) | ((with_reducible refine Ev.c0 ?_); first | refine Ev.cp ?_ | refine Ev.cn ?_) | ((refine Ev.sw ?_); conv => whnf) | refine Ev.sn ?_ | ((with_reducible refine Ev.chk_k ?_ ?_); rotate_left; exact Ev.bt; conv => whnf) | ((with_reducible (refine Ev.RI.run ?_; constructor)) <;> intro _) | ((refine Ev.sg ?_); conv => whnf) | ((with_reducible refine Ev.sided ?_ ?_); conv => whnf) | ((with_reducible refine Ev.kr (hs := [29, 77]) (fun Q hQ => ?_)); (simp only [Ev.runE_cons, Ev.runE_nil]); conv => whnf) | (with_reducible refine hQ _ ?_; clear hQ Q) | ((refine Ev.sf ?_); intro F hF; conv => whnf) | (with_reducible refine hF _ ?_; clear hF F) | ((with_reducible refine Ev.go_k (fun c' => ?_)); conv => whnf) | ((with_reducible refine Ev.il0 29 ?_); refine Ev.il 29 [0, 2] [.tmp 2] Tryd.func29 (comp29 _ rfl) (fun ct' => ?_)) | ((with_reducible refine Ev.il0 77 ?_); refine Ev.il 77 [0, 1, 4] [.tmp 4] Tryd.func77 (comp77 _ rfl) (fun ct' => ?_)) | ((with_reducible refine Ev.dr0 ?_); (first | refine Ev.dr 3 [29, 77] [0, 1, 2, 3, 4, 5, 6, 7, 8, 9, 10, 11, 12, 13, 14, 15, 16, 17, 18, 19, 20] ?_); intro Q hQ; (simp only [Ev.runE_cons, Ev.runE_nil]); conv => whnf) | ((first | refine Ev.el_map0 ?_ (fun hi => ?_) | refine Ev.el_mapN ?_ (fun hi => ?_)); rotate_left; conv => whnf) | ((with_reducible refine Ev.sd0 ?_); exact Ev.sd) | fail)
      all_goals exact ⟨rfl, fl, Ev.slot_eq rfl rfl, Ev.slot_eq rfl rfl, Ev.slot_eq rfl rfl, trivial⟩
    · by_cases h1 : s < r
      · refine Ev.fnH [0, 1, 2, 6, 7, 22] 65536 [.tmp 6, .tmp 7] Tryd.func38 (comp38 _ rfl) (fun ct => ?_)
        repeat' (first | (with_reducible refine Ev.c_neg h0 ?_) | (with_reducible refine Ev.br_neg h0 ?_) | (with_reducible refine Ev.c_pos h1 ?_) | (with_reducible refine Ev.br_pos h1 ?_) | ((with_reducible refine Ev.br0 ?_); (first | refine Ev.brp ?_ | refine Ev.brn ?_); conv => whnf) | ((with_reducible refine Ev.c0 ?_); first | refine Ev.cp ?_ | refine Ev.cn ?_) | ((refine Ev.sw ?_); conv => whnf) | refine Ev.sn ?_ | ((with_reducible refine Ev.chk_k ?_ ?_); rotate_left; exact Ev.bt; conv => whnf) | ((with_reducible (refine Ev.RI.run ?_; constructor)) <;> intro _) | ((refine Ev.sg ?_); conv => whnf) | ((with_reducible refine Ev.sided ?_ ?_); conv => whnf) | ((with_reducible refine Ev.kr (hs := [29, 77]) (fun Q hQ => ?_)); (simp only [Ev.runE_cons, Ev.runE_nil]); conv => whnf) | (with_reducible refine hQ _ ?_; clear hQ Q) | ((refine Ev.sf ?_); intro F hF; conv => whnf) | (with_reducible refine hF _ ?_; clear hF F) | ((with_reducible refine Ev.go_k (fun c' => ?_)); conv => whnf) | ((with_reducible refine Ev.il0 29 ?_); refine Ev.il 29 [0, 2] [.tmp 2] Tryd.func29 (comp29 _ rfl) (fun ct' => ?_)) | ((with_reducible refine Ev.il0 77 ?_); refine Ev.il 77 [0, 1, 4] [.tmp 4] Tryd.func77 (comp77 _ rfl) (fun ct' => ?_)) | ((with_reducible refine Ev.dr0 ?_); (first | refine Ev.dr 3 [29, 77] [0, 1, 2, 3, 4, 5, 6, 7, 8, 9, 10, 11, 12, 13, 14, 15, 16, 17, 18, 19, 20] ?_); intro Q hQ; (simp only [Ev.runE_cons, Ev.runE_nil]); conv => whnf) | ((first | refine Ev.el_map0 ?_ (fun hi => ?_) | refine Ev.el_mapN ?_ (fun hi => ?_)); rotate_left; conv => whnf) | ((with_reducible refine Ev.sd0 ?_); exact Ev.sd) | fail)
        all_goals exact ⟨rfl, fl, Ev.slot_eq rfl rfl, Ev.slot_eq rfl rfl, Ev.slot_eq rfl rfl, trivial⟩
      · have h2 : ¬ s ≤ Ls.length := fun h2 => hr ⟨by omega, by omega, h2⟩
        have hs0 : 0 ≤ s := by omega
        refine Ev.fnH [0, 1, 2, 6, 7, 22] 65536 [.tmp 6, .tmp 7] Tryd.func38 (comp38 _ rfl) (fun ct => ?_)
        repeat' (first | (with_reducible refine Ev.c_neg h0 ?_) | (with_reducible refine Ev.br_neg h0 ?_) | (with_reducible refine Ev.c_neg h1 ?_) | (with_reducible refine Ev.br_neg h1 ?_) | (with_reducible refine Ev.c_neg h2 ?_) | (with_reducible refine Ev.br_neg h2 ?_) | (with_reducible refine Ev.c_pos hs0 ?_) | (with_reducible refine Ev.br_pos hs0 ?_) | ((with_reducible refine Ev.br0 ?_); (first | refine Ev.brp ?_ | refine Ev.brn ?_); conv => whnf) | ((with_reducible refine Ev.c0 ?_); first | refine Ev.cp ?_ | refine Ev.cn ?_) | ((refine Ev.sw ?_); conv => whnf) | refine Ev.sn ?_ | ((with_reducible refine Ev.chk_k ?_ ?_); rotate_left; exact Ev.bt; conv => whnf) | ((with_reducible (refine Ev.RI.run ?_; constructor)) <;> intro _) | ((refine Ev.sg ?_); conv => whnf) | ((with_reducible refine Ev.sided ?_ ?_); conv => whnf) | ((with_reducible refine Ev.kr (hs := [29, 77]) (fun Q hQ => ?_)); (simp only [Ev.runE_cons, Ev.runE_nil]); conv => whnf) | (with_reducible refine hQ _ ?_; clear hQ Q) | ((refine Ev.sf ?_); intro F hF; conv => whnf) | (with_reducible refine hF _ ?_; clear hF F) | ((with_reducible refine Ev.go_k (fun c' => ?_)); conv => whnf) | ((with_reducible refine Ev.il0 29 ?_); refine Ev.il 29 [0, 2] [.tmp 2] Tryd.func29 (comp29 _ rfl) (fun ct' => ?_)) | ((with_reducible refine Ev.il0 77 ?_); refine Ev.il 77 [0, 1, 4] [.tmp 4] Tryd.func77 (comp77 _ rfl) (fun ct' => ?_)) | ((with_reducible refine Ev.dr0 ?_); (first | refine Ev.dr 3 [29, 77] [0, 1, 2, 3, 4, 5, 6, 7, 8, 9, 10, 11, 12, 13, 14, 15, 16, 17, 18, 19, 20] ?_); intro Q hQ; (simp only [Ev.runE_cons, Ev.runE_nil]); conv => whnf) | ((first | refine Ev.el_map0 ?_ (fun hi => ?_) | refine Ev.el_mapN ?_ (fun hi => ?_)); rotate_left; conv => whnf) | ((with_reducible refine Ev.sd0 ?_); exact Ev.sd) | fail)
        all_goals exact ⟨rfl, fl, Ev.slot_eq rfl rfl, Ev.slot_eq rfl rfl, Ev.slot_eq rfl rfl, trivial⟩
end Go.Proofs.YtadlnaljicikfaaDoor.Abs

namespace Go.Proofs.YtadlnaljicikfaaDoor.Abs
open Go Go.Lib
set_option linter.unusedSimpArgs false
set_option linter.unusedVariables false
namespace Ev
section
variable {E : Env} {nt : Nat}
end
end Ev
end Go.Proofs.YtadlnaljicikfaaDoor.Abs

namespace Go.Proofs.YtadlnaljicikfaaDoor.Abs
open Go
set_option maxRecDepth 100000
set_option linter.unusedSimpArgs false
set_option linter.unusedVariables false
attribute [local irreducible] Ev.Unr Ev.Go' Ev.bytK Ev.runK Ev.FinL Ev.brC Ev.Side Ev.Wp Ev.Again Ev.To Ev.Fin
open Go.Lib Go.RowKit
end Go.Proofs.YtadlnaljicikfaaDoor.Abs

namespace Go.Proofs.YtadlnaljicikfaaDoor.Abs
open Go Go.Lib
set_option linter.unusedSimpArgs false
set_option linter.unusedVariables false
namespace Ev
theorem hcall_frz {E : Env} {nm : Nat} {f : FuncId} (a b : List AV) {x y : AV} {hp hp' : List (Nat × Blk)} {ct : Nat} {K : AV → List (Nat × Blk) → Nat → Prop}
    (hx : ∀ K : AV → List (Nat × Blk) → Prop, K y hp' → purK hp deep x fun y m => frzK hp m fun hp' => K y hp') (h : HCallX E nm f (a ++ y :: b) hp' ct K) : HCallX E nm f (a ++ x :: b) hp ct K := by
  obtain ⟨N, h⟩ := h
  refine ⟨N, fun M0 w0 c M J w vs inv hn hr => ?_⟩
  have hlt : a.length < vs.size := by rw [hn]; simp
  have hxa : (a ++ x :: b)[a.length]? = some x := by simp
  have hrx := hr a.length x vs[a.length] hxa (by simp [hlt])
  have hpu := pur1_sound (sl := []) (ct := 0) (hx (fun p q => p = y ∧ q = hp') ⟨rfl, rfl⟩) (K' := fun p s => p = y ∧ s = (⟨[], hp', 0⟩ : St)) (fun p q ⟨e1, e2⟩ => ⟨e1, by rw [e2]⟩)
  obtain ⟨y', s', M', ⟨e1, e2⟩, hsub, i1, pr, hc⟩ := inv.pure hrx hpu
  subst e1; subst e2
  obtain ⟨p, q⟩ := h M0 w0 c M' J w vs i1 (by simpa using hn) (fun i z v hz hv => by
    by_cases hi : i = a.length
    · subst hi
      have : (a ++ y' :: b)[a.length]? = some y' := by simp
      rw [this] at hz; obtain rfl := Option.some.inj hz
      have hv2 : vs[a.length]? = some vs[a.length] := by simp [hlt]
      rw [hv2] at hv; obtain rfl := Option.some.inj hv
      exact .pure pr
    · refine (hr i z v ?_ hv).mono hsub (SubJ.refl J)
      rw [← hz]
      rcases Nat.lt_or_ge i a.length with h1 | h1
      · rw [List.getElem?_append_left h1, List.getElem?_append_left h1]
      · rw [List.getElem?_append_right h1, List.getElem?_append_right h1]
        obtain ⟨k, hk⟩ : ∃ k, i - a.length = k + 1 := ⟨i - a.length - 1, by omega⟩
        rw [hk]; rfl)
  refine ⟨p, q.mono ?_⟩
  rintro e w' ⟨v, r, hp1, c', M2, J', x1, x2, x3, x4, x5, x6⟩
  exact ⟨v, r, hp1, c', M2, J', x1, x2, x3, x4, hsub.trans x5, x6⟩
theorem hcall_row {E : Env} {nm : Nat} {f : FuncId} (a b : List AV) {hp : List (Nat × Blk)} {ct r v off len sz ty frz : Nat} {es : List (List AV)} {K : AV → List (Nat × Blk) → Nat → Prop} (hk : get hp r = some ⟨sz, ty, v, frz, false, es⟩) (hl : off + len ≤ es.length)
    (h : HCallX E nm f (a ++ .lst sz ((es.drop off).take len) :: b) ((r, ⟨sz, ty, v, max frz (min (off + len) es.length), false, es⟩) :: hp) ct K) : HCallX E nm f (a ++ .own r v off len :: b) hp ct K := by
  refine hcall_frz a b (fun K hK => ?_) h
  have q1 : (Nat.beq v v && !false) = true := by simp
  simp only [purK, deep, hk, bwith]
  refine chk_k (sided ?_ (Side.of hl)) q1
  simp only [frzK, hk, bwith]
  exact hK
end Ev
theorem HCallW.mono {E : Env} {N : Nat} {f : FuncId} {args : List AV} {hp : List (Nat × Blk)} {R R' : AV → List (Nat × Blk) → Prop} (hc : HCallW E N f args hp R) (h : ∀ r hp1, R r hp1 → R' r hp1) : HCallW E N f args hp R' := by
  intro M0 w0 c M J w vs inv hn hr
  obtain ⟨a, b⟩ := hc M0 w0 c M J w vs inv hn hr
  refine ⟨a, b.mono ?_⟩
  rintro e w' ⟨v, r, hp1, c', M', J', x1, x2, x3⟩
  exact ⟨v, r, hp1, c', M', J', x1, h r hp1 x2, x3⟩
abbrev hisI (B L S : Nat) (r : Nat) : Nat := if r = B then 7000 else if r = L then 7001 else if r = S then 7002 else r
abbrev hisO (B L S : Nat) (r : Nat) : Nat := if r = 7000 then B else if r = 7001 then L else if r = 7002 then S else r
theorem his_in {B L S vb vl fl vs fs : Nat} {Ls : List (List Sp)} {Ns : List Int} {t : ByteArray} (h1 : L ≠ B) (h2 : S ≠ B) (h3 : S ≠ L) : rnH (hisI B L S) (hisG B L S vb vl fl vs fs Ls Ns t) = hisG 7000 7001 7002 vb vl fl vs fs Ls Ns t := by
  simp [rnH, rnAs, rnA, hisI, h1, h2, h3]
theorem his_get {B L S vb vl fl vs fs : Nat} {Ls : List (List Sp)} {Ns : List Int} {t : ByteArray} {q : Nat} (h : get (hisG B L S vb vl fl vs fs Ls Ns t) q ≠ none) : q = B ∨ q = L ∨ q = S := by
  rw [get_cons, get_cons, get_cons, get_nil] at h
  split at h
  · rename_i e; exact .inl e
  · split at h
    · rename_i e; exact .inr (.inl e)
    · split at h
      · rename_i e; exact .inr (.inr e)
      · exact absurd rfl h
section
variable {nm ct : Nat} {hp : List (Nat × Blk)} {K : AV → List (Nat × Blk) → Nat → Prop} (B L S : Nat) (F : List (Nat × Blk)) {vb vl fl vs fs : Nat} {Ls : List (List Sp)} {Ns : List Int} {t : ByteArray}
theorem hisX {f : FuncId} {args args' : List AV} {P : AV → Nat → Nat → Nat → List (List Sp) → List Int → Prop} (hne : L ≠ B ∧ S ≠ B ∧ S ≠ L)
    (hc : HCallW env 65536 f args' (hisG 7000 7001 7002 vb vl fl vs fs Ls Ns t) fun r h => ∃ vl' fl' vs' Ls' Ns', P r vl' fl' vs' Ls' Ns' ∧ subs h (hisG 7000 7001 7002 vb vl' fl' vs' fs Ls' Ns' t)) (ha : rnAs (hisI B L S) args = args')
    (hs : subs hp (hisG B L S vb vl fl vs fs Ls Ns t)) (hF : subs hp F) (hB : get F B = none ∧ get F L = none ∧ get F S = none)
    (hk : ∀ r vl' fl' vs' Ls' Ns', P r vl' fl' vs' Ls' Ns' → ∀ c', ct + 8 ≤ c' → K (rnA (hisO B L S) r) (hisG B L S vb vl' fl' vs' fs Ls' Ns' t ++ F) c') : Ev.HCallX env nm f args hp ct K := by
  have hc' := hcall_sub (R' := fun r h => ∃ vl' fl' vs' Ls' Ns', P r vl' fl' vs' Ls' Ns' ∧ h = hisG 7000 7001 7002 vb vl' fl' vs' fs Ls' Ns' t) hc (fun r h ⟨vl', fl', vs', Ls', Ns', h1, h2⟩ => ⟨_, ⟨vl', fl', vs', Ls', Ns', h1, rfl⟩, h2⟩)
  have out : ∀ {vl fl vs : Nat} {Ls : List (List Sp)} {Ns : List Int} (q : Nat), get (hisG B L S vb vl fl vs fs Ls Ns t) q ≠ none → get F q = none := by
    intro vl fl vs Ls Ns q h
    rcases his_get h with rfl | rfl | rfl
    · exact hB.1
    · exact hB.2.1
    · exact hB.2.2
  refine hcall_named (hisI B L S) (hisO B L S) F hc' ha (his_in hne.1 hne.2.1 hne.2.2) hs hF out ?_
  rintro r h1 ⟨vl', fl', vs', Ls', Ns', hP, rfl⟩
  exact ⟨out, hk r vl' fl' vs' Ls' Ns' hP⟩
theorem happX {w : List Sp} {e : Int} (hne : L ≠ B ∧ S ≠ B ∧ S ≠ L) (hw : w.length ≤ 100000000) (hb : tbs w ≤ 1000000000) (hN : Ns.length = Ls.length + 1) (hL : Ls.length ≤ 1000000) (he : ∀ h : Ns ≠ [], happE w (Ns.getLast h) = e)
    (hs : subs hp (hisG B L S vb vl fl vs fs Ls Ns t)) (hF : subs hp F) (hB : get F B = none ∧ get F L = none ∧ get F S = none)
    (hk : ∀ vl' vs' c', ct + 8 ≤ c' → K (.v (.int .i64 e)) (hisG B L S vb vl' fl vs' fs (Ls ++ if e = 0 then [norm w] else []) (Ns ++ if e = 0 then [outW w] else []) t ++ F) c') : Ev.HCallX env nm 25 [.ptr B vb 0 0, .lst 3 (sps w)] hp ct K := by
  have hc := happ_call vb vl fl vs fs Ls Ns t w hw hb hN hL
  have hne' : Ns ≠ [] := by intro h; rw [h] at hN; simp at hN
  rw [he hne'] at hc
  refine hisX (P := fun r vl' fl' vs' Ls' Ns' => r = .v (.int .i64 e) ∧ fl' = fl ∧ Ls' = Ls ++ (if e = 0 then [norm w] else []) ∧ Ns' = Ns ++ (if e = 0 then [outW w] else [])) B L S F hne (hc.mono ?_) (by simp [rnAs, rnA]) hs hF hB ?_
  · rintro r h ⟨rfl, vl', vs', rfl⟩
    exact ⟨vl', fl, vs', _, _, ⟨rfl, rfl, rfl, rfl⟩, ⟨Ev.slot_eq rfl rfl, Ev.slot_eq rfl rfl, Ev.slot_eq rfl rfl, trivial⟩⟩
  · rintro r vl' fl' vs' Ls' Ns' ⟨rfl, rfl, rfl, rfl⟩ c' hc'
    exact hk vl' vs' c' hc'
theorem hatX {r : Int} {X : AV} (hX : hatA t Ls r = X) (hp0 : ∀ ρ, rnA ρ X = X) (hne : L ≠ B ∧ S ≠ B ∧ S ≠ L) (hx : ∀ x ∈ Ls, x.length ≤ 100000000) (hb : t.size + totb Ls ≤ 1000000000) (hL : Ls.length ≤ 1000000)
    (hs : subs hp (hisG B L S vb vl fl vs fs Ls Ns t)) (hF : subs hp F) (hB : get F B = none ∧ get F L = none ∧ get F S = none)
    (hk : ∀ fl' c', ct + 8 ≤ c' → K X (hisG B L S vb vl fl' vs fs Ls Ns t ++ F) c') : Ev.HCallX env nm 30 [.ptr B vb 0 0, .v (.int .i64 r)] hp ct K := by
  refine hisX (P := fun x vl' fl' vs' Ls' Ns' => x = X ∧ vl' = vl ∧ vs' = vs ∧ Ls' = Ls ∧ Ns' = Ns) B L S F hne ((hat_call vb vl fl vs fs Ls Ns t r hx hb hL).mono ?_) (by simp [rnAs, rnA]) hs hF hB ?_
  · rintro x h ⟨rfl, fl', h'⟩
    exact ⟨vl, fl', vs, Ls, Ns, ⟨hX, rfl, rfl, rfl, rfl⟩, h'⟩
  · rintro r vl' fl' vs' Ls' Ns' ⟨rfl, rfl, rfl, rfl, rfl⟩ c' hc'
    rw [hp0]; exact hk fl' c' hc'
theorem hovX {a : List Sp} {r : Int} {X : AV} (hX : hovA Ls Ns a r = X) (hp0 : ∀ ρ, rnA ρ X = X) (hne : L ≠ B ∧ S ≠ B ∧ S ≠ L) (hN : Ns.length = Ls.length + 1) (hl : a.length + lenS Ls ≤ 9999999) (ha : tbs a ≤ 100000000) (hb : ∀ x ∈ Ls, tbs x ≤ 100000000) (hL : Ls.length ≤ 1000000) (ho : ∀ s ∈ Ls, opMayF s = 0 → sumI outS s ≤ 1048576)
    (hs : subs hp (hisG B L S vb vl fl vs fs Ls Ns t)) (hF : subs hp F) (hB : get F B = none ∧ get F L = none ∧ get F S = none)
    (hk : ∀ fl' c', ct + 8 ≤ c' → K X (hisG B L S vb vl fl' vs fs Ls Ns t ++ F) c') : Ev.HCallX env nm 33 [.ptr B vb 0 0, .lst 3 (sps a), .v (.int .i64 r)] hp ct K := by
  refine hisX (P := fun x vl' fl' vs' Ls' Ns' => x = X ∧ vl' = vl ∧ vs' = vs ∧ Ls' = Ls ∧ Ns' = Ns) B L S F hne ((hov_call vb vl fl vs fs Ls Ns t a r hN hl ha hb hL ho).mono ?_) (by simp [rnAs, rnA]) hs hF hB ?_
  · rintro x h ⟨rfl, fl', h'⟩
    exact ⟨vl, fl', vs, Ls, Ns, ⟨hX, rfl, rfl, rfl, rfl⟩, h'⟩
  · rintro r vl' fl' vs' Ls' Ns' ⟨rfl, rfl, rfl, rfl, rfl⟩ c' hc'
    rw [hp0]; exact hk fl' c' hc'
theorem hruX {r s : Int} {X : AV} (hX : hruA Ls Ns r s = X) (hp0 : ∀ ρ, rnA ρ X = X) (hne : L ≠ B ∧ S ≠ B ∧ S ≠ L) (hN : Ns.length = Ls.length + 1) (hn : ∀ n ∈ Ns, 0 ≤ n ∧ n ≤ 1048576) (hl : lenS Ls ≤ 9999999) (hb : tbsS Ls ≤ 100000000) (hL : Ls.length ≤ 1000000)
    (hs : subs hp (hisG B L S vb vl fl vs fs Ls Ns t)) (hF : subs hp F) (hB : get F B = none ∧ get F L = none ∧ get F S = none)
    (hk : ∀ fl' c', ct + 8 ≤ c' → K X (hisG B L S vb vl fl' vs fs Ls Ns t ++ F) c') : Ev.HCallX env nm 38 [.ptr B vb 0 0, .v (.int .i64 r), .v (.int .i64 s)] hp ct K := by
  refine hisX (P := fun x vl' fl' vs' Ls' Ns' => x = X ∧ vl' = vl ∧ vs' = vs ∧ Ls' = Ls ∧ Ns' = Ns) B L S F hne ((hru_call vb vl fl vs fs Ls Ns t r s hN hn hl hb hL).mono ?_) (by simp [rnAs, rnA]) hs hF hB ?_
  · rintro x h ⟨rfl, fl', h'⟩
    exact ⟨vl, fl', vs, Ls, Ns, ⟨hX, rfl, rfl, rfl, rfl⟩, h'⟩
  · rintro r vl' fl' vs' Ls' Ns' ⟨rfl, rfl, rfl, rfl, rfl⟩ c' hc'
    rw [hp0]; exact hk fl' c' hc'
end
end Go.Proofs.YtadlnaljicikfaaDoor.Abs

namespace Go.Proofs.YtadlnaljicikfaaDoor.Abs
open Go
set_option maxRecDepth 100000
set_option linter.unusedSimpArgs false
set_option linter.unusedVariables false
attribute [local irreducible] Ev.Unr Ev.Go' Ev.bytK Ev.runK Ev.FinL Ev.brC Ev.Side Ev.Wp Ev.Again Ev.To Ev.Fin
open Go.Lib Go.RowKit
theorem comp22 : ∀ c, Tryd.f22.body = some c → comp c = (.seq (.reg 0 [I.n 0 0 (I.sb false)]) (.seq (.reg 1 [I.n 0 8 (.call { callee := .value (.func 24), args := #[.const (Value.string { data := #[97] })], argTypes := #[9] }), I.n 1 7 (I.mv 8), I.n 2 9 (I.ex 7 0), I.n 3 10 (I.ex 7 1), I.n 4 1 (I.sa 9), I.n 5 2 (I.sa 10)]) (.seq (.seq (.reg 2 [I.n 0 11 (I.mv 1), I.n 1 12 (.binOp .eql 29 (.tmp 11) (.const (Value.pointer none)) 29), I.n 2 13 (I.mv 12), I.w 3 14 (I.mv 2) 13 false, I.w 4 15 (I.bc .neq 30 14 0 30) 13 false, I.n 5 16 (I.pb 13 true 15)]) (.cond (.tmp 16) (.seq (.reg 3 [I.n 0 0 (I.sb false)]) .ret) .skip)) (.seq (.reg 4 [I.n 0 17 (I.mv 1), I.n 1 18 (.build 35 #[(0, .const (Value.int .i64 2)), (2, .const (Value.string { data := #[98] }))]), I.n 2 19 (.build 35 #[(0, .const (Value.int .i64 1)), (1, .const (Value.int .i64 1))]), I.n 3 20 (.buildSlice 23 2 #[(0, .tmp 18), (1, .tmp 19)]), I.n 4 21 (I.c2 25 17 20 29 23), I.n 5 3 (I.sa 21)]) (.seq (.reg 5 [I.n 0 22 (I.mv 1), I.n 1 23 (.build 35 #[(0, .const (Value.int .i64 3)), (1, .const (Value.int .i64 1))]), I.n 2 24 (.build 35 #[(0, .const (Value.int .i64 1)), (1, .const (Value.int .i64 1))]), I.n 3 25 (.buildSlice 23 2 #[(0, .tmp 23), (1, .tmp 24)]), I.n 4 26 (I.c2 25 22 25 29 23), I.n 5 4 (I.sa 26)]) (.seq (.reg 6 [I.n 0 28 (I.mv 1), I.n 1 29 (.call { callee := .value (.func 38), args := #[.tmp 28, .const (Value.int .i64 0), .const (Value.int .i64 2)], argTypes := #[29, 3, 3] }), I.n 2 27 (I.mv 29), I.n 3 30 (I.ex 27 0), I.n 4 31 (I.ex 27 1), I.n 5 5 (I.sa 30), I.n 6 6 (I.sa 31)]) (.seq (.reg 7 [I.n 0 32 (I.mv 3), I.n 1 33 (I.bc .eql 30 32 0 30), I.n 2 34 (I.mv 33), I.w 3 35 (I.mv 4) 34 true, I.w 4 36 (I.bc .eql 30 35 0 30) 34 true, I.n 5 37 (I.pc 34 36 false), I.n 6 38 (I.mv 37), I.w 7 39 (I.mv 6) 38 true, I.w 8 40 (I.bc .eql 30 39 0 30) 38 true, I.n 9 41 (I.pc 38 40 false), I.n 10 42 (I.mv 41), I.w 11 43 (I.mv 5) 42 true, I.w 12 44 (I.ln 43 23) 42 true, I.w 13 45 (I.bc .eql 3 44 1 3) 42 true, I.n 14 46 (I.pc 42 45 false), I.n 15 47 (I.mv 46), I.w 16 48 (I.mv 5) 47 true, I.w 17 49 (I.ic 23 48 0) 47 true, I.w 18 50 (I.ld 35 49) 47 true, I.w 19 51 (.build 35 #[(0, .const (Value.int .i64 1)), (1, .const (Value.int .i64 1))]) 47 true, I.w 20 52 (I.bo .eql 35 50 51 35) 47 true, I.n 21 53 (I.pc 47 52 false), I.n 22 54 (I.mv 53), I.w 23 55 (I.mv 1) 54 true, I.w 24 56 (I.nc 55) 54 true, I.w 25 57 (I.fa 44 56 0) 54 true, I.w 26 58 (I.c1 29 57 42) 54 true, I.w 27 59 (I.bc .eql 3 58 2 3) 54 true, I.n 28 60 (I.pc 54 59 false), I.n 29 0 (I.sa 60)]) .ret))))))) := by
  intro c h
  have : c = Tryd.f22.body.get rfl := by rw [← Option.some_inj, ← h]; rfl
  rw [this]; rfl
namespace Ev
theorem nil_at {E : Env} {nt : Nat} (id q r sz ty j0 : Nat) {l : List Ins} {K : Exit → St → Prop} {sl : List (Nat × AV)} {hp : List (Nat × Blk)} {ct v0 ty0 n0 : Nat} {cs : List AV} (hg : get hp q = some ⟨n0, ty0, v0, 0, true, [cs]⟩) (hn : cs[j0]? = some nilA) (hr : get hp r = none)
    (h : Wp E nt (.reg id l) K ⟨sl, (q, ⟨n0, ty0, v0, 0, true, [cs.set j0 (.own r ct 0 0)]⟩) :: (r, ⟨sz, ty, ct, 0, false, []⟩) :: hp, ct + 8⟩) : Wp E nt (.reg id l) K ⟨sl, hp, ct⟩ := nil_cell q r sz ty j0 hg hn hr h
end Ev
theorem happX0 {nm ct : Nat} {hp : List (Nat × Blk)} {K : AV → List (Nat × Blk) → Nat → Prop} (B L S : Nat) (F : List (Nat × Blk)) {vb vl fl vs fs : Nat} {Ls : List (List Sp)} {Ns : List Int} {t : ByteArray} {w : List Sp} (hne : L ≠ B ∧ S ≠ B ∧ S ≠ L) (hw : w.length ≤ 100000000) (hb : tbs w ≤ 1000000000) (hN : Ns.length = Ls.length + 1) (hL : Ls.length ≤ 1000000) (he : ∀ h : Ns ≠ [], happE w (Ns.getLast h) = 0)
    (hs : subs hp (hisG B L S vb vl fl vs fs Ls Ns t)) (hF : subs hp F) (hB : get F B = none ∧ get F L = none ∧ get F S = none)
    (hk : ∀ vl' vs' c', ct + 8 ≤ c' → K (.v (.int .i64 0)) (hisG B L S vb vl' fl vs' fs (Ls ++ [norm w]) (Ns ++ [outW w]) t ++ F) c') : Ev.HCallX env nm 25 [.ptr B vb 0 0, .lst 3 (sps w)] hp ct K :=
  happX B L S F hne hw hb hN hL he hs hF hB (fun vl' vs' c' h => by rw [if_pos rfl, if_pos rfl]; exact hk vl' vs' c' h)
def sh1 : List Sp := [⟨2, 0, ⟨#[98]⟩⟩, ⟨1, 1, ⟨#[]⟩⟩]
def sh2 : List Sp := [⟨3, 1, ⟨#[]⟩⟩, ⟨1, 1, ⟨#[]⟩⟩]
theorem sh1_norm : norm sh1 = sh1 := by decide +kernel
theorem sh2_norm : norm sh2 = sh2 := by decide +kernel
theorem sh_run : hruA [sh1, sh2] [1, 2, 1] 0 2 = .tup [.lst 3 (sps [⟨1, 1, ⟨#[]⟩⟩]), .v (.int .i64 0)] := by rfl
theorem shown17_call : CallW env 22 [] (fun r hs => r = .v (.bool true) ∧ hs = []) := by
  have hNew := hnew_ok ⟨#[97]⟩ (by decide) (by decide +kernel)
  have hc : cntB ⟨#[97]⟩ = 1 := by decide +kernel
  rw [hc] at hNew
  have e1 : outW sh1 = 2 := by decide +kernel
  have e2 : outW sh2 = 1 := by decide +kernel
  have g1 : happE sh1 1 = 0 := by decide +kernel
  have g2 : happE sh2 2 = 0 := by decide +kernel
  refine Ev.fn [0, 1, 2, 3, 4, 5, 6, 16] 0 [.tmp 0] Tryd.func22 (comp22 _ rfl) ?_
  repeat' (first | (with_reducible refine Ev.nil_at 2 512 9100 1 23 0 rfl rfl rfl ?_) | ((with_reducible refine Ev.br0 ?_); (first | refine Ev.brp ?_ | refine Ev.brn ?_); conv => whnf) | ((with_reducible refine Ev.c0 ?_); first | refine Ev.cp ?_ | refine Ev.cn ?_) | ((refine Ev.sw ?_); conv => whnf) | refine Ev.sn ?_ | ((with_reducible refine Ev.chk_k ?_ ?_); rotate_left; exact Ev.bt; conv => whnf) | ((with_reducible (refine Ev.RI.run ?_; constructor)) <;> intro _) | ((refine Ev.sg ?_); conv => whnf) | ((with_reducible refine Ev.sided ?_ ?_); conv => whnf) | ((with_reducible refine Ev.kr (hs := [25, 38, 29]) (fun Q hQ => ?_)); (simp only [Ev.runE_cons, Ev.runE_nil]); conv => whnf) | (with_reducible refine hQ _ ?_; clear hQ Q) | ((refine Ev.sf ?_); intro F hF; conv => whnf) | (with_reducible refine hF _ ?_; clear hF F) | ((with_reducible refine Ev.go_k (fun c' => ?_)); conv => whnf) | ((with_reducible refine Ev.il0 29 ?_); refine Ev.il 29 [0, 2] [.tmp 2] Tryd.func29 (comp29 _ rfl) (fun ct' => ?_)) | ((refine Ev.call_own hNew rfl (by simp) ⟨rfl, rfl, trivial⟩ ?_); conv => whnf) | ((((with_reducible refine Ev.hca0 ?_); refine Ev.hcall_row [_] [] rfl (by decide) ?_; refine happX0 512 9100 513 [] (Ls := []) (Ns := [1]) (t := ⟨#[97]⟩) (w := sh1) (by decide) (by decide) (by decide +kernel) rfl (by decide) (fun _ => g1) ⟨Ev.slot_eq rfl rfl, Ev.slot_eq rfl rfl, Ev.slot_eq rfl rfl, trivial⟩ trivial ⟨rfl, rfl, rfl⟩ (fun vl' vs' c' _ => ?_); rw [sh1_norm, e1]; conv => whnf)); conv => whnf) | ((((with_reducible refine Ev.hca0 ?_); refine Ev.hcall_row [_] [] rfl (by decide) ?_; refine happX0 512 9100 513 [] (Ls := [sh1]) (Ns := [1, 2]) (t := ⟨#[97]⟩) (w := sh2) (by decide) (by decide) (by decide +kernel) rfl (by decide) (fun _ => g2) ⟨Ev.slot_eq rfl rfl, Ev.slot_eq rfl rfl, Ev.slot_eq rfl rfl, trivial⟩ trivial ⟨rfl, rfl, rfl⟩ (fun vl' vs' c' _ => ?_); rw [sh2_norm, e2]; conv => whnf)); conv => whnf) | ((((with_reducible refine Ev.hca0 ?_); refine hruX 512 9100 513 [] (Ls := [sh1, sh2]) (Ns := [1, 2, 1]) (t := ⟨#[97]⟩) sh_run (fun _ => rfl) (by decide) rfl (by decide) (by decide) (by decide +kernel) (by decide) ⟨Ev.slot_eq rfl rfl, Ev.slot_eq rfl rfl, Ev.slot_eq rfl rfl, trivial⟩ trivial ⟨rfl, rfl, rfl⟩ (fun fl' c' _ => ?_); conv => whnf)); conv => whnf) | ((first | refine Ev.el_map0 ?_ (fun hi => ?_) | refine Ev.el_mapN ?_ (fun hi => ?_)); rotate_left; conv => whnf) | ((with_reducible refine Ev.sd0 ?_); exact Ev.sd) | fail)
  exact ⟨rfl, rfl⟩
end Go.Proofs.YtadlnaljicikfaaDoor.Abs

namespace Go.Proofs.YtadlnaljicikfaaDoor.Abs
open Go
set_option maxRecDepth 100000
set_option linter.unusedSimpArgs false
set_option linter.unusedVariables false
attribute [local irreducible] Ev.Unr Ev.Go' Ev.bytK Ev.runK Ev.FinL Ev.brC Ev.Side Ev.Wp Ev.Again Ev.To Ev.Fin
open Go.Lib Go.RowKit
theorem comp5 : ∀ c, Tryd.f5.body = some c → comp c = (.seq (.reg 0 [I.n 0 6 (I.sb false)]) (.seq (.reg 1 [I.n 0 22 (I.c0 22), I.n 1 7 (I.sa 22)]) (.seq (.reg 2 [I.n 0 23 (I.mv 0), I.n 1 24 (I.mv 0), I.n 2 25 (I.ln 24 9), I.n 3 26 (.call { callee := .builtin .min, args := #[.tmp 25, .const (Value.int .i64 20)], argTypes := #[3, 3] }), I.n 4 27 (.slice 9 (.tmp 23) none (some (.tmp 26)) none), I.n 5 28 (I.c1 37 27 9), I.n 6 8 (I.sa 28)]) (.seq (.reg 3 [I.n 0 30 (I.mv 8), I.n 1 31 (I.c1 24 30 9), I.n 2 29 (I.mv 31), I.n 3 32 (I.ex 29 0), I.n 4 33 (I.ex 29 1), I.n 5 9 (I.sa 32), I.n 6 10 (I.sa 33)]) (.seq (.seq (.reg 4 [I.n 0 34 (I.mv 7), I.n 1 35 (.unOp .not 4 (.tmp 34)), I.n 2 36 (I.mv 35), I.w 3 37 (I.mv 9) 36 false, I.w 4 38 (.binOp .eql 29 (.tmp 37) (.const (Value.pointer none)) 29) 36 false, I.n 5 39 (I.pb 36 true 38), I.n 6 40 (I.mv 39), I.w 7 41 (I.mv 10) 40 false, I.w 8 42 (I.bc .neq 30 41 0 30) 40 false, I.n 9 43 (I.pb 40 true 42)]) (.cond (.tmp 43) (.seq (.reg 5 [I.n 0 6 (I.sb false)]) .ret) .skip)) (.seq (.reg 6 [I.n 0 44 (I.mv 8), I.n 1 45 (I.c1 32 44 9), I.n 2 46 (.build 35 #[(0, .const (Value.int .i64 1)), (1, .tmp 45)]), I.n 3 47 (I.b1 23 46), I.n 4 11 (I.sa 47)]) (.seq (.reg 7 [I.n 0 12 (I.si 0)]) (.seq (.reg 8 [I.n 0 13 (I.si 0)]) (.seq (.reg 9 [I.n 0 14 (I.si 0)]) (.seq (.seq (.reg 10 [I.n 0 48 (I.mv 1), I.n 1 49 (.binOp .and 5 (.tmp 48) (.const (Value.int .u8 1)) 5), I.n 2 50 (.binOp .neq 5 (.tmp 49) (.const (Value.int .u8 0)) 5)]) (.cond (.tmp 50) (.seq (.reg 11 [I.n 0 51 (I.mv 11), I.n 1 52 (.build 35 #[(0, .const (Value.int .i64 3)), (1, .const (Value.int .i64 1))]), I.n 2 53 (I.b1 23 52), I.n 3 54 (I.ap 51 53 23 23), I.n 4 11 (I.sa 54)]) (.seq (.reg 12 [I.n 0 12 (I.si 5)]) (.reg 13 [I.n 0 13 (I.si 5)]))) .skip)) (.seq (.seq (.reg 14 [I.n 0 55 (I.mv 1), I.n 1 56 (.binOp .and 5 (.tmp 55) (.const (Value.int .u8 2)) 5), I.n 2 57 (.binOp .neq 5 (.tmp 56) (.const (Value.int .u8 0)) 5)]) (.cond (.tmp 57) (.seq (.reg 15 [I.n 0 58 (I.mv 11), I.n 1 59 (.build 35 #[]), I.n 2 60 (I.b1 23 59), I.n 3 61 (I.ap 58 60 23 23), I.n 4 11 (I.sa 61)]) (.seq (.reg 16 [I.n 0 12 (I.si 1)]) (.reg 17 [I.n 0 13 (I.si 1)]))) .skip)) (.seq (.seq (.reg 18 [I.n 0 62 (I.mv 1), I.n 1 63 (.binOp .and 5 (.tmp 62) (.const (Value.int .u8 4)) 5), I.n 2 64 (.binOp .neq 5 (.tmp 63) (.const (Value.int .u8 0)) 5)]) (.cond (.tmp 64) (.seq (.reg 19 [I.n 0 65 (I.mv 2), I.n 1 66 (I.bc .and 3 65 1023 3), I.n 2 67 (.binOp .add 3 (.const (Value.int .i64 1)) (.tmp 66) 3), I.n 3 14 (I.sa 67)]) (.seq (.seq (.reg 20 [I.n 0 68 (I.mv 2), I.n 1 69 (I.bc .lss 3 68 0 3)]) (.cond (.tmp 69) (.reg 21 [I.n 0 70 (I.mv 2), I.n 1 71 (I.bc .and 3 70 1023 3), I.n 2 72 (.binOp .sub 3 (.const (Value.int .i64 (-1))) (.tmp 71) 3), I.n 3 14 (I.sa 72)]) .skip)) (.reg 22 [I.n 0 13 (I.si 6)]))) .skip)) (.seq (.reg 23 [I.n 0 74 (I.mv 9), I.n 1 75 (I.mv 11), I.n 2 76 (I.mv 14), I.n 3 77 (.call { callee := .value (.func 33), args := #[.tmp 74, .tmp 75, .tmp 76], argTypes := #[29, 23, 3] }), I.n 4 73 (I.mv 77), I.n 5 78 (I.ex 73 0), I.n 6 79 (I.ex 73 1), I.n 7 15 (I.sa 78), I.n 8 16 (I.sa 79)]) (.seq (.reg 24 [I.n 0 81 (I.mv 9), I.n 1 82 (I.mv 14), I.n 2 83 (I.c2 30 81 82 29 3), I.n 3 80 (I.mv 83), I.n 4 84 (I.ex 80 0), I.n 5 85 (I.ex 80 1), I.n 6 17 (I.sa 84), I.n 7 18 (I.sa 85)]) (.seq (.reg 25 [I.n 0 87 (I.mv 9), I.n 1 88 (I.mv 14), I.n 2 89 (.call { callee := .value (.func 38), args := #[.tmp 87, .tmp 88, .const (Value.int .i64 0)], argTypes := #[29, 3, 3] }), I.n 3 86 (I.mv 89), I.n 4 90 (I.ex 86 0), I.n 5 91 (I.ex 86 1), I.n 6 19 (I.sa 90), I.n 7 20 (I.sa 91)]) (.seq (.reg 26 [I.n 0 92 (I.mv 9), I.n 1 93 (I.mv 11), I.n 2 94 (I.c2 25 92 93 29 23), I.n 3 21 (I.sa 94)]) (.seq (.reg 27 [I.n 0 95 (I.mv 16), I.n 1 96 (I.mv 13), I.n 2 97 (I.bo .eql 30 95 96 30), I.n 3 98 (I.mv 97), I.w 4 99 (I.mv 18) 98 true, I.w 5 100 (I.bc .eql 30 99 0 30) 98 true, I.w 6 101 (I.mv 14) 98 true, I.w 7 102 (I.bc .eql 3 101 0 3) 98 true, I.w 8 103 (I.bo .eql 4 100 102 4) 98 true, I.n 9 104 (I.pc 98 103 false), I.n 10 105 (I.mv 104), I.w 11 106 (I.mv 20) 105 true, I.w 12 107 (I.bc .eql 30 106 0 30) 105 true, I.w 13 108 (I.mv 14) 105 true, I.w 14 109 (I.bc .eql 3 108 0 3) 105 true, I.w 15 110 (I.bo .eql 4 107 109 4) 105 true, I.n 16 111 (I.pc 105 110 false), I.n 17 112 (I.mv 111), I.w 18 113 (I.mv 21) 112 true, I.w 19 114 (I.mv 12) 112 true, I.w 20 115 (I.bo .eql 30 113 114 30) 112 true, I.n 21 116 (I.pc 112 115 false), I.n 22 117 (I.mv 116), I.w 23 118 (I.mv 9) 117 true, I.w 24 119 (I.nc 118) 117 true, I.w 25 120 (I.fa 44 119 0) 117 true, I.w 26 121 (I.c1 29 120 42) 117 true, I.w 27 122 (I.mv 12) 117 true, I.w 28 123 (.call { callee := .builtin .min, args := #[.tmp 122, .const (Value.int .i64 1)], argTypes := #[3, 3] }) 117 true, I.w 29 124 (.binOp .sub 3 (.const (Value.int .i64 1)) (.tmp 123) 3) 117 true, I.w 30 125 (I.bo .eql 3 121 124 3) 117 true, I.n 31 126 (I.pc 117 125 false), I.n 32 6 (I.sa 126)]) .ret))))))))))))))))) := by
  intro c h
  have : c = Tryd.f5.body.get rfl := by rw [← Option.some_inj, ← h]; rfl
  rw [this]; rfl
theorem and_mask (r : Int) : 0 ≤ bitsOf .and .i64 r 1023 ∧ bitsOf .and .i64 r 1023 ≤ 1023 := by
  show 0 ≤ IntKind.i64.wrap (BitVec.ofInt 64 r &&& BitVec.ofInt 64 1023).toNat ∧ IntKind.i64.wrap (BitVec.ofInt 64 r &&& BitVec.ofInt 64 1023).toNat ≤ 1023
  have h : (BitVec.ofInt 64 r &&& BitVec.ofInt 64 1023).toNat ≤ 1023 := by
    rw [BitVec.toNat_and]
    exact Nat.and_le_right
  rw [wrap_id (by omega)]
  omega
theorem hov_snd {n : Int} {a : List Sp} {r e : Int} (h : hovE [] [n] a r = e) : ∃ x, hovA [] [n] a r = .tup [x, .v (.int .i64 e)] ∧ ∀ ρ, rnA ρ x = x := by
  unfold hovA
  by_cases h0 : e = 0
  · subst h0
    rw [if_pos h]
    have hm : opMayF a = 0 := by
      unfold hovE at h
      split at h
      · exact Decidable.byContradiction fun hm => by rw [if_pos hm] at h; exact hm h
      · cases h
    have ht : tmE a (([] : List (List Sp)).drop r.toNat) = 0 := by
      unfold tmE; rw [if_pos hm, List.drop_nil]; rfl
    unfold thrA
    rw [ht, if_pos rfl]
    exact ⟨_, rfl, fun ρ => rfl⟩
  · rw [if_neg (by rw [h]; exact h0), h]
    exact ⟨_, rfl, fun ρ => rfl⟩
structure HF (n : Int) (a : List Sp) (want asked rev : Int) : Prop where
  len : a.length ≤ 3
  tb : tbs a = 0
  ov : hovE [] [n] a rev = asked
  ap : happE a n = want
  w : want = 0 ∨ want = 1 ∨ want = 5
def hfP (n : Int) (a : List Sp) (w : Int) : Bool := decide (a.length ≤ 3) && decide (tbs a = 0) && decide (happE a n = w) && decide (hovE [] [n] a 0 = w)
def hfK (n : Int) : Sp := ⟨1, n, ⟨#[]⟩⟩
def hfD : Sp := ⟨3, 1, ⟨#[]⟩⟩
def hfZ : Sp := ⟨0, 0, ⟨#[]⟩⟩
theorem hf_all : ∀ i : Fin 21, (hfP i.val [hfK i.val] 0 && hfP i.val [hfK i.val, hfD] 5 && hfP i.val [hfK i.val, hfZ] 1 && hfP i.val [hfK i.val, hfD, hfZ] 1) = true := by decide +kernel
theorem hfP_of {n : Int} {a : List Sp} {w : Int} (h : hfP n a w = true) (hw : w = 0 ∨ w = 1 ∨ w = 5) : HF n a w w 0 := by
  simp only [hfP, Bool.and_eq_true, decide_eq_true_eq] at h
  exact ⟨h.1.1.1, h.1.1.2, h.2, h.1.2, hw⟩
theorem hf_facts {n : Int} (h : 0 ≤ n ∧ n ≤ 20) : HF n [hfK n] 0 0 0 ∧ HF n [hfK n, hfD] 5 5 0 ∧ HF n [hfK n, hfZ] 1 1 0 ∧ HF n [hfK n, hfD, hfZ] 1 1 0 := by
  obtain ⟨m, rfl⟩ := Int.eq_ofNat_of_zero_le h.1
  have := hf_all ⟨m, by omega⟩
  simp only [Bool.and_eq_true] at this
  exact ⟨hfP_of this.1.1.1 (.inl rfl), hfP_of this.1.1.2 (.inr (.inr rfl)), hfP_of this.1.2 (.inr (.inl rfl)), hfP_of this.2 (.inr (.inl rfl))⟩
theorem HF.far {n : Int} {a : List Sp} {w x : Int} (h : HF n a w x 0) {r : Int} (hr : r < 0 ∨ 0 < r) : HF n a w 6 r :=
  ⟨h.len, h.tb, by unfold hovE; rw [if_neg (by simp; omega)], h.ap, h.w⟩
set_option maxHeartbeats 4000000 in
theorem historyFirst_call (t : ByteArray) (bits r : Int) (hb : 0 ≤ bits ∧ bits < 256) : CallW env 5 [.v (.string t), .v (.int .u8 bits), .v (.int .i64 r)] (fun x hs => x = .v (.bool true) ∧ hs = []) := by
  have hS := shown17_call
  have hx : (min (t.size : Int) 20).toNat = min t.size 20 := by omega
  have hs20 : (t.extract 0 (min t.size 20)).size ≤ 20 := by rw [ByteArray.size_extract]; omega
  have hF : CallW env 37 [.v (.string (t.extract 0 (min (t.size : Int) 20).toNat))] (fun r hs => r = .v (.string (fitS (t.extract 0 (min t.size 20)))) ∧ hs = []) := by rw [hx]; exact fit_call _ (by omega)
  have hu1 := fit_size (t.extract 0 (min t.size 20)) (by omega)
  have hu2 := fit_count (t.extract 0 (min t.size 20))
  have hval := fit_valid (t.extract 0 (min t.size 20))
  generalize fitS (t.extract 0 (min t.size 20)) = u at *
  have hN0 : newE u = 0 := by unfold newE cntB; rw [if_neg (by omega), if_neg (by omega)]
  have hNew := hnew_ok u (by omega) hN0
  have hCnt := pcount_call u (by omega)
  obtain ⟨n, hn, hn20⟩ : ∃ n : Int, countD u.data.toList = n ∧ 0 ≤ n ∧ n ≤ 20 := ⟨_, rfl, by omega⟩
  rw [hn] at hCnt
  have hcb : cntB u = n := hn
  rw [hcb] at hNew
  have hm := and_mask r
  obtain ⟨f0, f1, f2, f3⟩ := hf_facts hn20
  refine Ev.fn [0, 1, 2, 6, 7, 8, 9, 10, 11, 12, 13, 14, 16, 18, 20, 21, 43, 50, 57, 64, 69] 0 [.tmp 6] Tryd.func5 (comp5 _ rfl) ?_
  repeat' (first | (with_reducible refine Ev.nil_at 6 1544 9100 1 23 0 rfl rfl rfl ?_) | (with_reducible refine Ev.join (a := .seq (.reg 10 _) _) (fun s => ∃ (c v vb vl vs : Nat) (a : List Sp) (want asked rev : Int), s = ⟨[(1, .v (.int .u8 bits)), (2, .v (.int .i64 r)), (9, .ptr 1544 vb 0 0), (11, .own 3096 v 0 a.length), (12, .v (.int .i64 want)), (13, .v (.int .i64 asked)), (14, .v (.int .i64 rev))], hisG 1544 9100 1545 vb vl 0 vs 0 [] [n] u ++ [(3096, ⟨3, 35, v, 0, false, sps a⟩)], c⟩ ∧ ((a = [hfK n] ∧ want = 0) ∨ (a = [hfK n, hfD] ∧ want = 5)) ∧ asked = want ∧ rev = 0) ?_ ?_) | ((with_reducible refine Ev.br0 ?_); (first | refine Ev.brp ?_ | refine Ev.brn ?_); conv => whnf) | ((with_reducible refine Ev.c0 ?_); first | refine Ev.cp ?_ | refine Ev.cn ?_) | ((refine Ev.sw ?_); conv => whnf) | refine Ev.sn ?_ | ((with_reducible refine Ev.chk_k ?_ ?_); rotate_left; exact Ev.bt; conv => whnf) | ((with_reducible (refine Ev.RI.run ?_; constructor)) <;> intro _) | ((refine Ev.sg ?_); conv => whnf) | ((with_reducible refine Ev.sided ?_ ?_); conv => whnf) | ((with_reducible refine Ev.kr (hs := [25, 38, 30, 33, 29]) (fun Q hQ => ?_)); (simp only [Ev.runE_cons, Ev.runE_nil]); conv => whnf) | (with_reducible refine hQ _ ?_; clear hQ Q) | ((refine Ev.sf ?_); intro F hF; conv => whnf) | (with_reducible refine hF _ ?_; clear hF F) | ((with_reducible refine Ev.go_k (fun c' => ?_)); conv => whnf) | ((with_reducible refine Ev.il0 29 ?_); refine Ev.il 29 [0, 2] [.tmp 2] Tryd.func29 (comp29 _ rfl) (fun ct' => ?_)) | ((refine Ev.call_own hNew rfl (by simp) ⟨rfl, rfl, trivial⟩ ?_); conv => whnf) | ((with_reducible refine Ev.ca0 ?_); (first | refine Ev.ca (hS) ?_ | refine Ev.ca (hF) ?_ | refine Ev.ca (hCnt) ?_); conv => whnf) | ((first | refine Ev.el_map0 ?_ (fun hi => ?_) | refine Ev.el_mapN ?_ (fun hi => ?_)); rotate_left; conv => whnf) | ((with_reducible refine Ev.sd0 ?_); exact Ev.sd) | fail)
  · (refine Ev.to _ ?hs1 ?hh1 ?hc1 ⟨?_, ?_, ?_, ?_, ?_, [hfK n], 0, 0, 0, rfl, ?hp1⟩; (case hs1 | hh1 => ((repeat' (first | exact trivial | refine And.intro ?_ ?_)) <;> (first | exact Ev.se | (refine Ev.slot_eq rfl ?_; first | (first | rfl | (simp; done)) | ((first | refine Ev.int_eq ?_ | refine Ev.own_eq ?_ | refine Ev.blk_eq ?_); (first | rfl | (simp; done)))) | exact Ev.sr))); (case hc1 => exact Nat.le_refl _))
    exact ⟨.inl ⟨rfl, rfl⟩, rfl, rfl⟩
  · (refine Ev.to _ ?hs2 ?hh2 ?hc2 ⟨?_, ?_, ?_, ?_, ?_, [hfK n, hfD], 5, 5, 0, rfl, ?hp2⟩; (case hs2 | hh2 => ((repeat' (first | exact trivial | refine And.intro ?_ ?_)) <;> (first | exact Ev.se | (refine Ev.slot_eq rfl ?_; first | (first | rfl | (simp; done)) | ((first | refine Ev.int_eq ?_ | refine Ev.own_eq ?_ | refine Ev.blk_eq ?_); (first | rfl | (simp; done)))) | exact Ev.sr))); (case hc2 => exact Nat.le_refl _))
    exact ⟨.inr ⟨rfl, rfl⟩, rfl, rfl⟩
  rintro s1 ⟨c, v, vb, vl, vs, a, _, want, _, rfl, hP, rfl, rfl⟩
  have hal := sps_len a
  have hal2 : a.length ≤ 2 := by rcases hP with ⟨rfl, _⟩ | ⟨rfl, _⟩ <;> simp
  repeat' (first | (with_reducible refine Ev.join (a := .seq (.reg 14 _) _) (fun s => ∃ (c v vb vl vs : Nat) (a : List Sp) (want asked rev : Int), s = ⟨[(1, .v (.int .u8 bits)), (2, .v (.int .i64 r)), (9, .ptr 1544 vb 0 0), (11, .own 3096 v 0 a.length), (12, .v (.int .i64 want)), (13, .v (.int .i64 asked)), (14, .v (.int .i64 rev))], hisG 1544 9100 1545 vb vl 0 vs 0 [] [n] u ++ [(3096, ⟨3, 35, v, 0, false, sps a⟩)], c⟩ ∧ HF n a want asked rev ∧ asked = want ∧ rev = 0) ?_ ?_) | ((with_reducible refine Ev.br0 ?_); (first | refine Ev.brp ?_ | refine Ev.brn ?_); conv => whnf) | ((with_reducible refine Ev.c0 ?_); first | refine Ev.cp ?_ | refine Ev.cn ?_) | ((refine Ev.sw ?_); conv => whnf) | refine Ev.sn ?_ | ((with_reducible refine Ev.chk_k ?_ ?_); rotate_left; exact Ev.bt; conv => whnf) | ((with_reducible (refine Ev.RI.run ?_; constructor)) <;> intro _) | ((refine Ev.sg ?_); conv => whnf) | ((with_reducible refine Ev.sided ?_ ?_); conv => whnf) | ((with_reducible refine Ev.kr (hs := [25, 38, 30, 33, 29]) (fun Q hQ => ?_)); (simp only [Ev.runE_cons, Ev.runE_nil]); conv => whnf) | (with_reducible refine hQ _ ?_; clear hQ Q) | ((refine Ev.sf ?_); intro F hF; conv => whnf) | (with_reducible refine hF _ ?_; clear hF F) | ((with_reducible refine Ev.go_k (fun c' => ?_)); conv => whnf) | ((with_reducible refine Ev.il0 29 ?_); refine Ev.il 29 [0, 2] [.tmp 2] Tryd.func29 (comp29 _ rfl) (fun ct' => ?_)) | ((first | refine Ev.el_map0 ?_ (fun hi => ?_) | refine Ev.el_mapN ?_ (fun hi => ?_)); rotate_left; conv => whnf) | ((with_reducible refine Ev.sd0 ?_); exact Ev.sd) | fail)
  · (refine Ev.to _ ?hs3 ?hh3 ?hc3 ⟨?_, v, vb, vl, vs, a, want, want, 0, rfl, ?hp3⟩; (case hs3 | hh3 => ((repeat' (first | exact trivial | refine And.intro ?_ ?_)) <;> (first | exact Ev.se | (refine Ev.slot_eq rfl ?_; first | (first | rfl | (simp; done)) | ((first | refine Ev.int_eq ?_ | refine Ev.own_eq ?_ | refine Ev.blk_eq ?_); (first | rfl | (simp; done)))) | exact Ev.sr))); (case hc3 => exact Nat.le_refl _))
    exact ⟨by rcases hP with ⟨rfl, rfl⟩ | ⟨rfl, rfl⟩ <;> assumption, rfl, rfl⟩
  · (refine Ev.to _ ?hs4 ?hh4 ?hc4 ⟨?_, ?_, ?_, ?_, ?_, a ++ [hfZ], 1, 1, 0, rfl, ?hp4⟩; (case hs4 | hh4 => ((repeat' (first | exact trivial | refine And.intro ?_ ?_)) <;> (first | exact Ev.se | (refine Ev.slot_eq rfl ?_; first | (first | (rw [sps_app1]; rfl) | (rw [List.length_append]; rfl) | rfl | (simp; done)) | ((first | refine Ev.int_eq ?_ | refine Ev.own_eq ?_ | refine Ev.blk_eq ?_); (first | (rw [sps_app1]; rfl) | (rw [List.length_append]; rfl) | rfl | (simp; done)))) | exact Ev.sr))); (case hc4 => exact Nat.le_refl _))
    exact ⟨by rcases hP with ⟨rfl, rfl⟩ | ⟨rfl, rfl⟩ <;> assumption, rfl, rfl⟩
  rintro s1 ⟨c, v, vb, vl, vs, a, _, want, _, rfl, hP, rfl, rfl⟩
  repeat' (first | (with_reducible refine Ev.join (a := .seq (.reg 18 _) _) (fun s => ∃ (c v vb vl vs : Nat) (a : List Sp) (want asked rev : Int), s = ⟨[(9, .ptr 1544 vb 0 0), (11, .own 3096 v 0 a.length), (12, .v (.int .i64 want)), (13, .v (.int .i64 asked)), (14, .v (.int .i64 rev))], hisG 1544 9100 1545 vb vl 0 vs 0 [] [n] u ++ [(3096, ⟨3, 35, v, 0, false, sps a⟩)], c⟩ ∧ HF n a want asked rev) ?_ ?_) | ((with_reducible refine Ev.br0 ?_); (first | refine Ev.brp ?_ | refine Ev.brn ?_); conv => whnf) | ((with_reducible refine Ev.c0 ?_); first | refine Ev.cp ?_ | refine Ev.cn ?_) | ((refine Ev.sw ?_); conv => whnf) | refine Ev.sn ?_ | ((with_reducible refine Ev.chk_k ?_ ?_); rotate_left; exact Ev.bt; conv => whnf) | ((with_reducible (refine Ev.RI.run ?_; constructor)) <;> intro _) | ((refine Ev.sg ?_); conv => whnf) | ((with_reducible refine Ev.sided ?_ ?_); conv => whnf) | ((with_reducible refine Ev.kr (hs := [25, 38, 30, 33, 29]) (fun Q hQ => ?_)); (simp only [Ev.runE_cons, Ev.runE_nil]); conv => whnf) | (with_reducible refine hQ _ ?_; clear hQ Q) | ((refine Ev.sf ?_); intro F hF; conv => whnf) | (with_reducible refine hF _ ?_; clear hF F) | ((with_reducible refine Ev.go_k (fun c' => ?_)); conv => whnf) | ((with_reducible refine Ev.il0 29 ?_); refine Ev.il 29 [0, 2] [.tmp 2] Tryd.func29 (comp29 _ rfl) (fun ct' => ?_)) | ((first | refine Ev.el_map0 ?_ (fun hi => ?_) | refine Ev.el_mapN ?_ (fun hi => ?_)); rotate_left; conv => whnf) | ((with_reducible refine Ev.sd0 ?_); exact Ev.sd) | fail)
  · (refine Ev.to _ ?hs5 ?hh5 ?hc5 ⟨?_, v, vb, vl, vs, a, want, want, 0, rfl, ?hp5⟩; (case hs5 | hh5 => ((repeat' (first | exact trivial | refine And.intro ?_ ?_)) <;> (first | exact Ev.se | (refine Ev.slot_eq rfl ?_; first | (first | rfl | (simp; done)) | ((first | refine Ev.int_eq ?_ | refine Ev.own_eq ?_ | refine Ev.blk_eq ?_); (first | rfl | (simp; done)))) | exact Ev.sr))); (case hc5 => exact Nat.le_refl _))
    exact hP
  · have hw1 : IntKind.i64.wrap (-1 - bitsOf .and .i64 r 1023) = -1 - bitsOf .and .i64 r 1023 := wrap_id (by omega)
    (refine Ev.to _ ?hs6 ?hh6 ?hc6 ⟨?_, v, vb, vl, vs, a, want, 6, -1 - bitsOf .and .i64 r 1023, rfl, ?hp6⟩; (case hs6 | hh6 => ((repeat' (first | exact trivial | refine And.intro ?_ ?_)) <;> (first | exact Ev.se | (refine Ev.slot_eq rfl ?_; first | (first | exact hw1 | rfl | (simp; done)) | ((first | refine Ev.int_eq ?_ | refine Ev.own_eq ?_ | refine Ev.blk_eq ?_); (first | exact hw1 | rfl | (simp; done)))) | exact Ev.sr))); (case hc6 => exact Nat.le_refl _))
    exact hP.far (by omega)
  · have hw1 : IntKind.i64.wrap (1 + bitsOf .and .i64 r 1023) = 1 + bitsOf .and .i64 r 1023 := wrap_id (by omega)
    (refine Ev.to _ ?hs7 ?hh7 ?hc7 ⟨?_, v, vb, vl, vs, a, want, 6, 1 + bitsOf .and .i64 r 1023, rfl, ?hp7⟩; (case hs7 | hh7 => ((repeat' (first | exact trivial | refine And.intro ?_ ?_)) <;> (first | exact Ev.se | (refine Ev.slot_eq rfl ?_; first | (first | exact hw1 | rfl | (simp; done)) | ((first | refine Ev.int_eq ?_ | refine Ev.own_eq ?_ | refine Ev.blk_eq ?_); (first | exact hw1 | rfl | (simp; done)))) | exact Ev.sr))); (case hc7 => exact Nat.le_refl _))
    exact hP.far (by omega)
  rintro s1 ⟨c, v, vb, vl, vs, a, want, asked, rev, rfl, hP⟩
  have hal := sps_len a
  have hta : List.take a.length (List.drop 0 (sps a)) = sps a := by rw [List.drop_zero, List.take_of_length_le (by omega)]
  obtain ⟨x, hX, hp0'⟩ := hov_snd hP.ov
  have hp0 : ∀ ρ, rnA ρ (.tup [x, .v (.int .i64 asked)]) = .tup [x, .v (.int .i64 asked)] := fun ρ => by simp only [rnA, rnAs, hp0']
  have haa : asked = asked := rfl
  have hww : want = want := rfl
  by_cases hr : rev = 0
  · subst hr
    have hA : hatA u [] 0 = .tup [.v (.string u), .v (.int .i64 0)] := by unfold hatA allA allR; simp [hval, allG]
    have hR : hruA [] [n] 0 0 = foldA (keepL n) [] := rfl
    have hr0 : ∀ ρ, rnA ρ (foldA (keepL n) []) = foldA (keepL n) [] := fun ρ => rfl
    repeat' (first | (((with_reducible refine Ev.freeze_at 23 11 rfl rfl ?_ ?_); rotate_left; rw [hta])) | (with_reducible refine Ev.c_pos haa ?_) | (with_reducible refine Ev.br_pos haa ?_) | (with_reducible refine Ev.c_pos hww ?_) | (with_reducible refine Ev.br_pos hww ?_) | ((with_reducible refine Ev.br0 ?_); (first | refine Ev.brp ?_ | refine Ev.brn ?_); conv => whnf) | ((with_reducible refine Ev.c0 ?_); first | refine Ev.cp ?_ | refine Ev.cn ?_) | ((refine Ev.sw ?_); conv => whnf) | refine Ev.sn ?_ | ((with_reducible refine Ev.chk_k ?_ ?_); rotate_left; exact Ev.bt; conv => whnf) | ((with_reducible (refine Ev.RI.run ?_; constructor)) <;> intro _) | ((refine Ev.sg ?_); conv => whnf) | ((with_reducible refine Ev.sided ?_ ?_); conv => whnf) | ((with_reducible refine Ev.kr (hs := [25, 38, 30, 33, 29]) (fun Q hQ => ?_)); (simp only [Ev.runE_cons, Ev.runE_nil]); conv => whnf) | (with_reducible refine hQ _ ?_; clear hQ Q) | ((refine Ev.sf ?_); intro F hF; conv => whnf) | (with_reducible refine hF _ ?_; clear hF F) | ((with_reducible refine Ev.go_k (fun c' => ?_)); conv => whnf) | ((with_reducible refine Ev.il0 29 ?_); refine Ev.il 29 [0, 2] [.tmp 2] Tryd.func29 (comp29 _ rfl) (fun ct' => ?_)) | ((((with_reducible refine Ev.hca0 ?_); refine hovX 1544 9100 1545 [(3096, _)] (Ls := []) (Ns := [n]) (t := u) (a := a) hX hp0 (by decide) rfl (by have := hP.len; simp [lenS]; omega) (by have := hP.tb; omega) (by simp) (by decide) (by simp) ⟨Ev.slot_eq rfl rfl, Ev.slot_eq rfl rfl, Ev.slot_eq rfl rfl, trivial⟩ ⟨Ev.slot_eq rfl rfl, trivial⟩ ⟨rfl, rfl, rfl⟩ (fun fl' c' _ => ?_); conv => whnf)); conv => whnf) | ((((with_reducible refine Ev.hca0 ?_); refine hatX 1544 9100 1545 [(3096, _)] (Ls := []) (Ns := [n]) (t := u) hA (fun ρ => rfl) (by decide) (by simp) (by simp [totb]; omega) (by decide) ⟨Ev.slot_eq rfl rfl, Ev.slot_eq rfl rfl, Ev.slot_eq rfl rfl, trivial⟩ ⟨Ev.slot_eq rfl rfl, trivial⟩ ⟨rfl, rfl, rfl⟩ (fun fl' c' _ => ?_); conv => whnf)); conv => whnf) | ((((with_reducible refine Ev.hca0 ?_); refine hruX 1544 9100 1545 [(3096, _)] (Ls := []) (Ns := [n]) (t := u) hR hr0 (by decide) rfl (by intro x hx; simp at hx; subst hx; omega) (by decide) (by decide) (by decide) ⟨Ev.slot_eq rfl rfl, Ev.slot_eq rfl rfl, Ev.slot_eq rfl rfl, trivial⟩ ⟨Ev.slot_eq rfl rfl, trivial⟩ ⟨rfl, rfl, rfl⟩ (fun fl' c' _ => ?_); conv => whnf)); conv => whnf) | ((((with_reducible refine Ev.hca0 ?_); refine happX 1544 9100 1545 [] (Ls := []) (Ns := [n]) (t := u) (w := a) (e := want) (by decide) (by have := hP.len; omega) (by have := hP.tb; omega) rfl (by decide) (fun _ => hP.ap) ⟨Ev.slot_eq rfl rfl, Ev.slot_eq rfl rfl, Ev.slot_eq rfl rfl, trivial⟩ trivial ⟨rfl, rfl, rfl⟩ (fun vl' vs' c' _ => ?_); conv => whnf)); conv => whnf) | ((first | refine Ev.el_map0 ?_ (fun hi => ?_) | refine Ev.el_mapN ?_ (fun hi => ?_)); rotate_left; conv => whnf) | ((with_reducible refine Ev.sd0 ?_); exact Ev.sd) | fail)
    exact ⟨by rcases hP.w with rfl | rfl | rfl <;> rfl, rfl⟩
  · have hA : hatA u [] rev = .tup [.v (.string ⟨#[]⟩), .v (.int .i64 6)] := by unfold hatA; rw [if_neg (by simp; omega)]
    have hR : hruA [] [n] rev 0 = .tup [nilA, .v (.int .i64 6)] := by unfold hruA; rw [if_neg (by simp; omega)]
    have hr0 : ∀ ρ, rnA ρ (.tup [nilA, .v (.int .i64 6)]) = .tup [nilA, .v (.int .i64 6)] := fun ρ => rfl
    repeat' (first | (((with_reducible refine Ev.freeze_at 23 11 rfl rfl ?_ ?_); rotate_left; rw [hta])) | (with_reducible refine Ev.c_pos haa ?_) | (with_reducible refine Ev.br_pos haa ?_) | (with_reducible refine Ev.c_pos hww ?_) | (with_reducible refine Ev.br_pos hww ?_) | ((with_reducible refine Ev.br0 ?_); (first | refine Ev.brp ?_ | refine Ev.brn ?_); conv => whnf) | ((with_reducible refine Ev.c0 ?_); first | refine Ev.cp ?_ | refine Ev.cn ?_) | ((refine Ev.sw ?_); conv => whnf) | refine Ev.sn ?_ | ((with_reducible refine Ev.chk_k ?_ ?_); rotate_left; exact Ev.bt; conv => whnf) | ((with_reducible (refine Ev.RI.run ?_; constructor)) <;> intro _) | ((refine Ev.sg ?_); conv => whnf) | ((with_reducible refine Ev.sided ?_ ?_); conv => whnf) | ((with_reducible refine Ev.kr (hs := [25, 38, 30, 33, 29]) (fun Q hQ => ?_)); (simp only [Ev.runE_cons, Ev.runE_nil]); conv => whnf) | (with_reducible refine hQ _ ?_; clear hQ Q) | ((refine Ev.sf ?_); intro F hF; conv => whnf) | (with_reducible refine hF _ ?_; clear hF F) | ((with_reducible refine Ev.go_k (fun c' => ?_)); conv => whnf) | ((with_reducible refine Ev.il0 29 ?_); refine Ev.il 29 [0, 2] [.tmp 2] Tryd.func29 (comp29 _ rfl) (fun ct' => ?_)) | ((((with_reducible refine Ev.hca0 ?_); refine hovX 1544 9100 1545 [(3096, _)] (Ls := []) (Ns := [n]) (t := u) (a := a) hX hp0 (by decide) rfl (by have := hP.len; simp [lenS]; omega) (by have := hP.tb; omega) (by simp) (by decide) (by simp) ⟨Ev.slot_eq rfl rfl, Ev.slot_eq rfl rfl, Ev.slot_eq rfl rfl, trivial⟩ ⟨Ev.slot_eq rfl rfl, trivial⟩ ⟨rfl, rfl, rfl⟩ (fun fl' c' _ => ?_); conv => whnf)); conv => whnf) | ((((with_reducible refine Ev.hca0 ?_); refine hatX 1544 9100 1545 [(3096, _)] (Ls := []) (Ns := [n]) (t := u) hA (fun ρ => rfl) (by decide) (by simp) (by simp [totb]; omega) (by decide) ⟨Ev.slot_eq rfl rfl, Ev.slot_eq rfl rfl, Ev.slot_eq rfl rfl, trivial⟩ ⟨Ev.slot_eq rfl rfl, trivial⟩ ⟨rfl, rfl, rfl⟩ (fun fl' c' _ => ?_); conv => whnf)); conv => whnf) | ((((with_reducible refine Ev.hca0 ?_); refine hruX 1544 9100 1545 [(3096, _)] (Ls := []) (Ns := [n]) (t := u) hR hr0 (by decide) rfl (by intro x hx; simp at hx; subst hx; omega) (by decide) (by decide) (by decide) ⟨Ev.slot_eq rfl rfl, Ev.slot_eq rfl rfl, Ev.slot_eq rfl rfl, trivial⟩ ⟨Ev.slot_eq rfl rfl, trivial⟩ ⟨rfl, rfl, rfl⟩ (fun fl' c' _ => ?_); conv => whnf)); conv => whnf) | ((((with_reducible refine Ev.hca0 ?_); refine happX 1544 9100 1545 [] (Ls := []) (Ns := [n]) (t := u) (w := a) (e := want) (by decide) (by have := hP.len; omega) (by have := hP.tb; omega) rfl (by decide) (fun _ => hP.ap) ⟨Ev.slot_eq rfl rfl, Ev.slot_eq rfl rfl, Ev.slot_eq rfl rfl, trivial⟩ trivial ⟨rfl, rfl, rfl⟩ (fun vl' vs' c' _ => ?_); conv => whnf)); conv => whnf) | ((first | refine Ev.el_map0 ?_ (fun hi => ?_) | refine Ev.el_mapN ?_ (fun hi => ?_)); rotate_left; conv => whnf) | ((with_reducible refine Ev.sd0 ?_); exact Ev.sd) | fail)
    all_goals first
      | (exfalso; clear hX hA hR hp0 hp0' hr0 hS hF hNew hCnt; simp_all; done)
      | exact ⟨by rcases hP.w with rfl | rfl | rfl <;> rfl, rfl⟩
end Go.Proofs.YtadlnaljicikfaaDoor.Abs
