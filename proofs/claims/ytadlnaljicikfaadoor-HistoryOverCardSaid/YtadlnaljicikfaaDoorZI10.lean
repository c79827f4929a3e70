/- A part of the proof: a calculus over values, and contracts of functions. No condition. -/
import Derived.Test.YtadlnaljicikfaaDoorZI9
set_option linter.unusedVariables false
set_option linter.unusedSimpArgs false
namespace Go.Proofs.YtadlnaljicikfaaDoor.Abs
open Go Go.Lib
theorem nof_own (l : List Sp) (hl : l.length ≤ 100000000) (hb : tbs l ≤ 1000000000) : CallW env 35 [.lst 3 (sps l)] (fun r hs => ∃ E : List Sp, r = .own 0 0 0 (norm l).length ∧ hs = [⟨3, 35, 0, 0, false, sps E⟩] ∧ E.take (norm l).length = norm l ∧ E.length = l.length) := by
  have hsl := sps_len l
  have hmx : 2000000003 ≤ maxLen := by decide
  refine Ev.fnO [0, 2, 3, 4, 5, 6, 15, 16, 17, 18, 28, 31] 0 [.tmp 2] Tryd.func35 (comp35 _ rfl) ?_
  repeat' (first | (with_reducible refine Ev.join (a := .reg 3 _) (fun s => ∃ (c v : Nat) (E : List Sp), s = ⟨[(0, .lst 3 (sps l)), (2, nilA), (3, .own 528 v 0 (full l).length)], [(528, ⟨3, 35, v, 0, false, sps E⟩)], c⟩ ∧ E.take (full l).length = full l ∧ (full l).length ≤ E.length ∧ E.length = l.length) ?_ ?_) | ((refine Ev.sw ?_); conv => whnf) | refine Ev.sn ?_ | ((with_reducible refine Ev.chk_k ?_ ?_); rotate_left; exact Ev.bt; conv => whnf) | ((with_reducible (refine Ev.RI.run ?_; constructor)) <;> intro _) | ((refine Ev.sg ?_); conv => whnf) | ((with_reducible refine Ev.sided ?_ ?_); conv => whnf) | ((with_reducible refine Ev.kr (hs := [79, 122]) (fun Q hQ => ?_)); (simp only [Ev.runE_cons, Ev.runE_nil]); conv => whnf) | (with_reducible refine hQ _ ?_; clear hQ Q) | ((refine Ev.sf ?_); intro F hF; conv => whnf) | (with_reducible refine hF _ ?_; clear hF F) | ((with_reducible refine Ev.go_k (fun c' => ?_)); conv => whnf) | ((with_reducible refine Ev.il0 79 ?_); refine Ev.il 79 [0, 1, 4, 5, 6, 7, 12, 19, 29] [.tmp 4] Tryd.func79 (comp79 _ rfl) (fun ct' => ?_)) | ((with_reducible refine Ev.il0 122 ?_); refine Ev.il 122 [0, 1, 4, 5, 7, 8, 9, 16] [.tmp 4] Tryd.func122 (comp122 _ rfl) (fun ct' => ?_)) | ((with_reducible refine Ev.ca0 ?_); (first | refine Ev.call_det (empty_call _) rfl rfl ?_ | refine Ev.ca (empty_call _) ?_); conv => whnf) | ((with_reducible refine Ev.dr0 ?_); (first | refine Ev.dr 11 [79, 122] [0, 1, 2, 3, 4, 5, 6, 7, 8] ?_ | refine Ev.dr 12 [79, 122] [0, 1, 2, 3, 4, 5, 6, 7, 8, 9, 10] ?_ | refine Ev.dr 13 [79, 122] [0, 1, 2, 3, 4, 5, 6, 7, 8, 9, 10] ?_); intro Q hQ; (simp only [Ev.runE_cons, Ev.runE_nil]); conv => whnf) | ((first | refine Ev.el_map0 ?_ (fun hi => ?_) | refine Ev.el_mapN ?_ (fun hi => ?_)); rotate_left; conv => whnf) | ((with_reducible refine Ev.sd0 ?_); exact Ev.sd) | fail)
  · refine Ev.loop (fun k s => ∃ i c : Nat, s = ⟨[(0, .own 528 0 0 l.length), (1, .clo (.func 80) [] []), (4, .v (.int .i64 0)), (7, .v (.int .i64 l.length)), (8, .v (.int .i64 i))], [(528, ⟨3, 35, 0, 0, false, sps l⟩)], c⟩ ∧ k + i = l.length ∧ ∀ j (hj : j < l.length), j < i → emptyS l[j] = false) ?_ ?_
    · (refine Ev.to _ ?hs1 ?hh1 ?hc1 ⟨l.length, 0, ct', rfl, ?hp1⟩; (case hs1 | hh1 => ((repeat' (first | exact trivial | refine And.intro ?_ ?_)) <;> (first | exact Ev.se | (refine Ev.slot_eq rfl ?_; first | (first | (simp; done) | rfl) | ((first | refine Ev.int_eq ?_ | refine Ev.own_eq ?_ | refine Ev.blk_eq ?_); (first | (simp; done) | rfl))) | exact Ev.sr))); (case hc1 => exact Nat.le_refl _))
      exact ⟨by omega, fun j hj h => by omega⟩
    rintro k s1 ⟨i, c, rfl, hk, he⟩
    repeat' (first | ((refine Ev.sw ?_); conv => whnf) | refine Ev.sn ?_ | ((with_reducible refine Ev.chk_k ?_ ?_); rotate_left; exact Ev.bt; conv => whnf) | ((with_reducible (refine Ev.RI.run ?_; constructor)) <;> intro _) | ((refine Ev.sg ?_); conv => whnf) | ((with_reducible refine Ev.sided ?_ ?_); conv => whnf) | ((with_reducible refine Ev.kr (hs := [79, 122]) (fun Q hQ => ?_)); (simp only [Ev.runE_cons, Ev.runE_nil]); conv => whnf) | (with_reducible refine hQ _ ?_; clear hQ Q) | ((refine Ev.sf ?_); intro F hF; conv => whnf) | (with_reducible refine hF _ ?_; clear hF F) | ((with_reducible refine Ev.go_k (fun c' => ?_)); conv => whnf) | ((with_reducible refine Ev.il0 79 ?_); refine Ev.il 79 [0, 1, 4, 5, 6, 7, 12, 19, 29] [.tmp 4] Tryd.func79 (comp79 _ rfl) (fun ct' => ?_)) | ((with_reducible refine Ev.il0 122 ?_); refine Ev.il 122 [0, 1, 4, 5, 7, 8, 9, 16] [.tmp 4] Tryd.func122 (comp122 _ rfl) (fun ct' => ?_)) | ((with_reducible refine Ev.ca0 ?_); (first | refine Ev.call_det (empty_call _) rfl rfl ?_ | refine Ev.ca (empty_call _) ?_); conv => whnf) | ((with_reducible refine Ev.dr0 ?_); (first | refine Ev.dr 11 [79, 122] [0, 1, 2, 3, 4, 5, 6, 7, 8] ?_ | refine Ev.dr 12 [79, 122] [0, 1, 2, 3, 4, 5, 6, 7, 8, 9, 10] ?_ | refine Ev.dr 13 [79, 122] [0, 1, 2, 3, 4, 5, 6, 7, 8, 9, 10] ?_); intro Q hQ; (simp only [Ev.runE_cons, Ev.runE_nil]); conv => whnf) | ((first | refine Ev.el_map0 ?_ (fun hi => ?_) | refine Ev.el_mapN ?_ (fun hi => ?_)); rotate_left; conv => whnf) | ((with_reducible refine Ev.sd0 ?_); exact Ev.sd) | fail)
    · rename_i h; exact absurd h (by omega)
    · rename_i hemp _
      have f1 := full_none he
      have f2 := full_no hi hemp
      refine Ev.loop (fun k s => ∃ (j c : Nat) (E : List Sp), s = ⟨[(0, .own 528 0 0 l.length), (1, .clo (.func 80) [] []), (4, nilA), (5, .v (.int .i64 (full (l.take j)).length)), (6, .v (.int .i64 j))], [(528, ⟨3, 35, 0, 0, false, sps E⟩)], c⟩ ∧ k + j = l.length ∧ E.length = l.length ∧ (full (l.take j)).length < j ∧ E.take (full (l.take j)).length = full (l.take j) ∧ E.drop j = l.drop j) ?_ ?_
      · have f3 : (full (l.take (i + 1))).length = i := by rw [f2, f1, List.length_take]; omega
        (refine Ev.to _ ?hs2 ?hh2 ?hc2 ⟨l.length - (i + 1), i + 1, c', l, rfl, ?hp2⟩; (case hs2 | hh2 => ((repeat' (first | exact trivial | refine And.intro ?_ ?_)) <;> (first | exact Ev.se | (refine Ev.slot_eq rfl ?_; first | (first | (rw [f3]; done) | exact wrap_succ (by omega) | (simp; done) | rfl) | ((first | refine Ev.int_eq ?_ | refine Ev.own_eq ?_ | refine Ev.blk_eq ?_); (first | (rw [f3]; done) | exact wrap_succ (by omega) | (simp; done) | rfl))) | exact Ev.sr))); (case hc2 => exact Nat.le_refl _))
        exact ⟨by omega, rfl, by omega, by rw [f3, f2, f1], rfl⟩
      rintro k s1 ⟨j, c, E, rfl, hk, hE, hj, hE1, hE2⟩
      have hEj : ∀ (h : j < l.length) (h' : j < E.length), E[j] = l[j] := fun h h' => by
        have e1 : E[j]? = l[j]? := by
          have a := congrArg (fun l => l[0]?) hE2
          simpa using a
        rw [List.getElem?_eq_getElem h, List.getElem?_eq_getElem h'] at e1
        exact Option.some.inj e1
      repeat' (first | ((refine Ev.sw ?_); conv => whnf) | refine Ev.sn ?_ | ((with_reducible refine Ev.chk_k ?_ ?_); rotate_left; exact Ev.bt; conv => whnf) | ((with_reducible (refine Ev.RI.run ?_; constructor)) <;> intro _) | ((refine Ev.sg ?_); conv => whnf) | ((with_reducible refine Ev.sided ?_ ?_); conv => whnf) | ((with_reducible refine Ev.kr (hs := [79, 122]) (fun Q hQ => ?_)); (simp only [Ev.runE_cons, Ev.runE_nil]); conv => whnf) | (with_reducible refine hQ _ ?_; clear hQ Q) | ((refine Ev.sf ?_); intro F hF; conv => whnf) | (with_reducible refine hF _ ?_; clear hF F) | ((with_reducible refine Ev.go_k (fun c' => ?_)); conv => whnf) | ((with_reducible refine Ev.il0 79 ?_); refine Ev.il 79 [0, 1, 4, 5, 6, 7, 12, 19, 29] [.tmp 4] Tryd.func79 (comp79 _ rfl) (fun ct' => ?_)) | ((with_reducible refine Ev.il0 122 ?_); refine Ev.il 122 [0, 1, 4, 5, 7, 8, 9, 16] [.tmp 4] Tryd.func122 (comp122 _ rfl) (fun ct' => ?_)) | ((with_reducible refine Ev.ca0 ?_); (first | refine Ev.call_det (empty_call _) rfl rfl ?_ | refine Ev.ca (empty_call _) ?_); conv => whnf) | ((with_reducible refine Ev.dr0 ?_); (first | refine Ev.dr 11 [79, 122] [0, 1, 2, 3, 4, 5, 6, 7, 8] ?_ | refine Ev.dr 12 [79, 122] [0, 1, 2, 3, 4, 5, 6, 7, 8, 9, 10] ?_ | refine Ev.dr 13 [79, 122] [0, 1, 2, 3, 4, 5, 6, 7, 8, 9, 10] ?_); intro Q hQ; (simp only [Ev.runE_cons, Ev.runE_nil]); conv => whnf) | ((first | refine Ev.el_map0 ?_ (fun hi => ?_) | refine Ev.el_mapN ?_ (fun hi => ?_)); rotate_left; conv => whnf) | ((with_reducible refine Ev.sd0 ?_); exact Ev.sd) | fail)
      · rename_i h
        have hjl : j < l.length := by omega
        rw [hEj hjl hi] at h
        have f3 := full_no hjl h
        (refine Ev.again (k - 1) _ ?hm3 ?hs3 ?hh3 ?hc3 ⟨j + 1, c + 8, E, rfl, ?hp3⟩; (case hs3 | hh3 => ((repeat' (first | exact trivial | refine And.intro ?_ ?_)) <;> (first | exact Ev.se | (refine Ev.slot_eq rfl ?_; first | (first | exact wrap_succ (by omega) | (rw [f3]; done) | rfl) | ((first | refine Ev.int_eq ?_ | refine Ev.own_eq ?_ | refine Ev.blk_eq ?_); (first | exact wrap_succ (by omega) | (rw [f3]; done) | rfl))) | exact Ev.sr))); (case hc3 => exact Nat.le_refl _); (case hm3 => omega))
        exact ⟨by omega, hE, by rw [f3]; omega, by rw [f3]; exact hE1, by rw [← List.drop_drop, hE2, List.drop_drop]⟩
      · rename_i hi2 h
        have hjl : j < l.length := by omega
        have hEj' := hEj hjl hi2
        rw [hEj'] at h
        have f3 := full_yes hjl h
        have f4 := full_len (l.take j)
        have hw : IntKind.i64.wrap ((full (l.take j)).length + 1 : Int) = ((full (l.take (j + 1))).length : Int) := by rw [f3, wrap_id (by omega)]; simp
        (refine Ev.again (k - 1) _ ?hm4 ?hs4 ?hh4 ?hc4 ⟨j + 1, c + 8, E.set (full (l.take j)).length E[j], rfl, ?hp4⟩; (case hs4 | hh4 => ((repeat' (first | exact trivial | refine And.intro ?_ ?_)) <;> (first | exact Ev.se | (refine Ev.slot_eq rfl ?_; first | (first | exact wrap_succ (by omega) | exact hw | (rw [Nat.zero_add, Int.toNat_natCast]; exact congrArg (fun n => Blk.mk 3 35 _ 0 false n) (sps_set _ _ _)) | rfl) | ((first | refine Ev.int_eq ?_ | refine Ev.own_eq ?_ | refine Ev.blk_eq ?_); (first | exact wrap_succ (by omega) | exact hw | (rw [Nat.zero_add, Int.toNat_natCast]; exact congrArg (fun n => Blk.mk 3 35 _ 0 false n) (sps_set _ _ _)) | rfl))) | exact Ev.sr))); (case hc4 => exact Nat.le_refl _); (case hm4 => omega))
        refine ⟨by omega, by simp [hE], by rw [f3]; simp; omega, ?_, ?_⟩
        · rw [f3, List.length_append, List.length_singleton, List.take_succ_eq_append_getElem (by simp; omega), List.take_set_of_le (Nat.le_refl _), hE1, List.getElem_set_self, hEj']
        · rw [List.drop_set_of_lt (by omega), ← List.drop_drop, hE2, List.drop_drop]
      · have hjl : j = l.length := by omega
        subst hjl
        rw [List.take_length] at hj hE1 ⊢
        have hr : List.take (0 + ((full l).length : Int).toNat) (sps E) ++ List.replicate (l.length - ((full l).length : Int).toNat) (List.map AV.v [Value.int .i64 0, Value.int .i64 0, Value.string ⟨#[]⟩]) ++ List.drop (0 + ((full l).length : Int).toNat + (l.length - ((full l).length : Int).toNat)) (sps E) = sps (full l ++ List.replicate (l.length - (full l).length) ⟨0, 0, ⟨#[]⟩⟩) := by
          rw [Int.toNat_natCast, Nat.zero_add, List.drop_of_length_le (by rw [sps_len]; omega), List.append_nil, sps_app1]
          congr 1
          · show List.take _ (E.map spC) = _
            rw [← List.map_take, hE1]; rfl
          · simp [sps, spC]
        (refine Ev.to _ ?hs5 ?hh5 ?hc5 ⟨c', 0, full l ++ List.replicate (l.length - (full l).length) ⟨0, 0, ⟨#[]⟩⟩, rfl, ?hp5⟩; (case hs5 | hh5 => ((repeat' (first | exact trivial | refine And.intro ?_ ?_)) <;> (first | exact Ev.se | (refine Ev.slot_eq rfl ?_; first | (first | (exact congrArg (fun n => Blk.mk 3 35 _ 0 false n) hr) | (simp; done) | rfl) | ((first | refine Ev.int_eq ?_ | refine Ev.own_eq ?_ | refine Ev.blk_eq ?_); (first | (exact congrArg (fun n => Blk.mk 3 35 _ 0 false n) hr) | (simp; done) | rfl))) | exact Ev.sr))); (case hc5 => exact Nat.le_refl _))
        exact ⟨List.take_left .., by simp, by simp; omega⟩
    · (refine Ev.again (k - 1) _ ?hm6 ?hs6 ?hh6 ?hc6 ⟨i + 1, c, rfl, ?hp6⟩; (case hs6 | hh6 => ((repeat' (first | exact trivial | refine And.intro ?_ ?_)) <;> (first | exact Ev.se | (refine Ev.slot_eq rfl ?_; first | (first | exact wrap_succ (by omega) | rfl) | ((first | refine Ev.int_eq ?_ | refine Ev.own_eq ?_ | refine Ev.blk_eq ?_); (first | exact wrap_succ (by omega) | rfl))) | exact Ev.sr))); (case hc6 => exact Nat.le_refl _); (case hm6 => omega))
      refine ⟨by omega, fun j hj hji => ?_⟩
      by_cases e : j = i
      · subst e; assumption
      · exact he j hj (by omega)
    · have e := full_take he (by omega)
      (refine Ev.to _ ?hs7 ?hh7 ?hc7 ⟨c', 0, l, rfl, ?hp7⟩; (case hs7 | hh7 => ((repeat' (first | exact trivial | refine And.intro ?_ ?_)) <;> (first | exact Ev.se | (refine Ev.slot_eq rfl ?_; first | (first | (rw [e]; simp; done) | rfl) | ((first | refine Ev.int_eq ?_ | refine Ev.own_eq ?_ | refine Ev.blk_eq ?_); (first | (rw [e]; simp; done) | rfl))) | exact Ev.sr))); (case hc7 => exact Nat.le_refl _))
      exact ⟨by rw [e]; simp, by rw [e]; exact Nat.le_refl _, rfl⟩
    · rename_i h; exact absurd rfl h
  · rintro s1 ⟨c, v, E, rfl, hF, hF1, hF2⟩
    have hFl := full_len l
    repeat' (first | ((with_reducible refine Ev.br0 ?_); (first | refine Ev.brp ?_ | refine Ev.brn ?_); conv => whnf) | ((with_reducible refine Ev.c0 ?_); first | refine Ev.cp ?_ | refine Ev.cn ?_) | ((refine Ev.sw ?_); conv => whnf) | refine Ev.sn ?_ | ((with_reducible refine Ev.chk_k ?_ ?_); rotate_left; exact Ev.bt; conv => whnf) | ((with_reducible (refine Ev.RI.run ?_; constructor)) <;> intro _) | ((refine Ev.sg ?_); conv => whnf) | ((with_reducible refine Ev.sided ?_ ?_); conv => whnf) | ((with_reducible refine Ev.kr (hs := []) (fun Q hQ => ?_)); (simp only [Ev.runE_cons, Ev.runE_nil]); conv => whnf) | (with_reducible refine hQ _ ?_; clear hQ Q) | ((refine Ev.sf ?_); intro F hF; conv => whnf) | (with_reducible refine hF _ ?_; clear hF F) | ((with_reducible refine Ev.go_k (fun c' => ?_)); conv => whnf) | ((with_reducible refine Ev.dr0 ?_); (first | refine Ev.dr 11 [] [0, 1, 2, 3, 4, 5, 6, 7, 8] ?_ | refine Ev.dr 12 [] [0, 1, 2, 3, 4, 5, 6, 7, 8, 9, 10] ?_ | refine Ev.dr 13 [] [0, 1, 2, 3, 4, 5, 6, 7, 8, 9, 10] ?_); intro Q hQ; (simp only [Ev.runE_cons, Ev.runE_nil]); conv => whnf) | ((first | refine Ev.el_map0 ?_ (fun hi => ?_) | refine Ev.el_mapN ?_ (fun hi => ?_)); rotate_left; conv => whnf) | ((with_reducible refine Ev.sd0 ?_); exact Ev.sd) | fail)
    refine Ev.loop (fun k s => ∃ (i last c : Nat) (E : List Sp), s = ⟨[(0, .lst 3 (sps l)), (2, nilA), (3, .own 528 v 0 (full l).length), (4, .v (.int .i64 last)), (15, .own 528 v 0 (full l).length), (16, .v (.int .i64 (full l).length)), (17, .v (.int .i64 i))], [(528, ⟨3, 35, v, 0, false, sps E⟩)], c⟩ ∧ k + i = (full l).length ∧ CInv l i last E) ?_ ?_
    · (refine Ev.to _ ?hs8 ?hh8 ?hc8 ⟨(full l).length, 0, 0, c, E, rfl, ?hp8⟩; (case hs8 | hh8 => ((repeat' (first | exact trivial | refine And.intro ?_ ?_)) <;> (first | exact Ev.se | (refine Ev.slot_eq rfl ?_; first | (first | (simp; done) | rfl) | ((first | refine Ev.int_eq ?_ | refine Ev.own_eq ?_ | refine Ev.blk_eq ?_); (first | (simp; done) | rfl))) | exact Ev.sr))); (case hc8 => exact Nat.le_refl _))
      exact ⟨by omega, hF2, by rw [hF], .inl ⟨rfl, rfl⟩⟩
    rintro k s1 ⟨i, last, c, E, rfl, hk, hI⟩
    have hln : (sps E).length = E.length := sps_len E
    have hE : E.length = l.length := hI.1
    have hll : last = 0 ∨ last < i := by
      rcases hI.2.2 with h | ⟨_, _, _, _, h, _⟩
      · exact .inl h.2
      · exact .inr h
    have hw : IntKind.i64.wrap ((last : Int) + 1) = ((last + 1 : Nat) : Int) := by rw [wrap_id (by omega)]; simp
    repeat' (first | ((with_reducible refine Ev.br0 ?_); (first | refine Ev.brp ?_ | refine Ev.brn ?_); conv => whnf) | ((with_reducible refine Ev.c0 ?_); first | refine Ev.cp ?_ | refine Ev.cn ?_) | ((refine Ev.sw ?_); conv => whnf) | refine Ev.sn ?_ | ((with_reducible refine Ev.chk_k ?_ ?_); rotate_left; exact Ev.bt; conv => whnf) | ((with_reducible (refine Ev.RI.run ?_; constructor)) <;> intro _) | ((refine Ev.sg ?_); conv => whnf) | ((with_reducible refine Ev.sided ?_ ?_); conv => whnf) | ((with_reducible refine Ev.kr (hs := []) (fun Q hQ => ?_)); (simp only [Ev.runE_cons, Ev.runE_nil]); conv => whnf) | (with_reducible refine hQ _ ?_; clear hQ Q) | ((refine Ev.sf ?_); intro F hF; conv => whnf) | (with_reducible refine hF _ ?_; clear hF F) | ((with_reducible refine Ev.go_k (fun c' => ?_)); conv => whnf) | ((refine el_set (by rw [sps_len, Nat.zero_add, Int.toNat_natCast]; omega) ?_); conv => whnf) | ((with_reducible refine Ev.dr0 ?_); (first | refine Ev.dr 11 [] [0, 1, 2, 3, 4, 5, 6, 7, 8] ?_ | refine Ev.dr 12 [] [0, 1, 2, 3, 4, 5, 6, 7, 8, 9, 10] ?_ | refine Ev.dr 13 [] [0, 1, 2, 3, 4, 5, 6, 7, 8, 9, 10] ?_); intro Q hQ; (simp only [Ev.runE_cons, Ev.runE_nil]); conv => whnf) | ((first | refine Ev.el_map0 ?_ (fun hi => ?_) | refine Ev.el_mapN ?_ (fun hi => ?_)); rotate_left; conv => whnf) | ((with_reducible refine Ev.sd0 ?_); exact Ev.sd) | fail)
    · rename_i hi0
      have : i = 0 := by omega
      subst this
      obtain ⟨rfl, h2⟩ := hI.first (by omega) hb
      (refine Ev.again (k - 1) _ ?hm9 ?hs9 ?hh9 ?hc9 ⟨1, 0, c + 8, E, rfl, ?hp9⟩; (case hs9 | hh9 => ((repeat' (first | exact trivial | refine And.intro ?_ ?_)) <;> (first | exact Ev.se | (refine Ev.slot_eq rfl ?_; first | (first | exact wrap_succ (by omega) | rfl) | ((first | refine Ev.int_eq ?_ | refine Ev.own_eq ?_ | refine Ev.blk_eq ?_); (first | exact wrap_succ (by omega) | rfl))) | exact Ev.sr))); (case hc9 => exact Nat.le_refl _); (case hm9 => omega))
      exact ⟨by omega, h2⟩
    · have hlE : last < E.length := by assumption
      have hi1 : i < E.length := by assumption
      have hkk : E[i].k = E[last].k := by assumption
      (refine Ev.again (k - 1) _ ?hm10 ?hs10 ?hh10 ?hc10 ⟨i + 1, last, c + 8, E.set last (mrg E[last] E[i]), rfl, ?hp10⟩; (case hs10 | hh10 => ((repeat' (first | exact trivial | refine And.intro ?_ ?_)) <;> (first | exact Ev.se | (refine Ev.slot_eq rfl ?_; first | (first | exact wrap_succ (by omega) | (refine congrArg (fun n => Blk.mk 3 35 _ 0 false n) ?_; show ((sps E).set (0 + (last : Int).toNat) _).set (0 + (last : Int).toNat) (spC (mrg E[last] E[i])) = _; rw [Nat.zero_add, Int.toNat_natCast, List.set_set, sps_set]) | rfl) | ((first | refine Ev.int_eq ?_ | refine Ev.own_eq ?_ | refine Ev.blk_eq ?_); (first | exact wrap_succ (by omega) | (refine congrArg (fun n => Blk.mk 3 35 _ 0 false n) ?_; show ((sps E).set (0 + (last : Int).toNat) _).set (0 + (last : Int).toNat) (spC (mrg E[last] E[i])) = _; rw [Nat.zero_add, Int.toNat_natCast, List.set_set, sps_set]) | rfl))) | exact Ev.sr))); (case hc10 => exact Nat.le_refl _); (case hm10 => omega))
      exact ⟨by omega, hI.same (by omega) (by omega) hlE hi1 hkk⟩
    · have := hI.size (by omega) (by omega) ‹last < E.length› ‹i < E.length›
      refine Ev.Side.of ?_; omega
    · have hlE : last < E.length := by omega
      have hi1 : i < E.length := by omega
      have hkk : ¬ E[i].k = E[last].k := by assumption
      (refine Ev.again (k - 1) _ ?hm11 ?hs11 ?hh11 ?hc11 ⟨i + 1, last + 1, c + 8, E.set (last + 1) E[i], rfl, ?hp11⟩; (case hs11 | hh11 => ((repeat' (first | exact trivial | refine And.intro ?_ ?_)) <;> (first | exact Ev.se | (refine Ev.slot_eq rfl ?_; first | (first | exact wrap_succ (by omega) | exact hw | (refine congrArg (fun n => Blk.mk 3 35 _ 0 false n) ?_; show (sps E).set (0 + (IntKind.i64.wrap ((last : Int) + 1)).toNat) (spC E[i]) = _; rw [hw, Nat.zero_add, Int.toNat_natCast, sps_set]) | rfl) | ((first | refine Ev.int_eq ?_ | refine Ev.own_eq ?_ | refine Ev.blk_eq ?_); (first | exact wrap_succ (by omega) | exact hw | (refine congrArg (fun n => Blk.mk 3 35 _ 0 false n) ?_; show (sps E).set (0 + (IntKind.i64.wrap ((last : Int) + 1)).toNat) (spC E[i]) = _; rw [hw, Nat.zero_add, Int.toNat_natCast, sps_set]) | rfl))) | exact Ev.sr))); (case hc11 => exact Nat.le_refl _); (case hm11 => omega))
      exact ⟨by omega, hI.new (by omega) (by omega) hlE hi1 hkk⟩
    · refine Ev.Side.of ?_; rw [hw]; show last + 1 < E.length; omega
    · have hc := hI
      rw [show i = (full l).length by omega] at hc
      have he := hc.end
      have hn : (norm l).length = min (last + 1) (full l).length := by rw [← he, List.length_take]; omega
      refine Ev.finL [(528, v)] (by simp) (fun F hF => ?_)
      simp only [Ev.FinP.resK, get_cons, get_nil, Nat.reduceEqDiff, if_false, if_true, handed, rens, ren, idx, and_self, Option.map_some, resOf]
      refine hF _ ?_
      have e1 : (min (IntKind.i64.wrap ((last : Int) + 1)) ((full l).length : Int)).toNat - 0 = (norm l).length := by rw [hn, hw]; omega
      rw [e1]
      exact ⟨E, rfl, rfl, by rw [hn]; exact he, hE⟩
  · refine Ev.Side.of ⟨by omega, ?_, ?_, sps_all3 l⟩ <;> simp
end Go.Proofs.YtadlnaljicikfaaDoor.Abs
namespace Go.Proofs.YtadlnaljicikfaaDoor.Abs
open Go
set_option maxRecDepth 100000
attribute [local irreducible] Ev.Unr Ev.Go' Ev.bytK Ev.runK Ev.FinL Ev.brC Ev.Side Ev.Wp Ev.Again Ev.To Ev.Fin
open Go.Lib Go.RowKit
def p0_FnYb : Ev.Pl := (.one 0 false (.one 7 false (.two 1 (.one 2 false (.one 3 false (.one 4 false (.one 5 false (.one 6 false (.one 8 false (.one 9 false (.one 10 false (.one 11 false (.one 12 true (.one 13 false .fin))))))))))) 8 (.one 9 false (.one 10 false (.one 11 false (.one 1 false (.one 2 false (.one 3 false (.one 4 false (.one 5 false (.one 6 false (.one 12 true (.one 13 false .fin))))))))))))))
def p1_FnYb : Ev.Pl := (.one 0 false (.one 1 false (.one 5 false (.one 8 false (.one 12 false (.two 2 (.one 3 false (.one 4 false (.one 6 true (.one 7 false (.one 14 false (.two 9 (.one 10 false (.two 11 (.one 13 true (.one 15 false (.one 16 false (.one 17 false (.one 18 false .fin))))) 15 (.one 11 false (.one 13 true (.one 16 false (.one 17 false (.one 18 false .fin))))))) 15 (.one 9 false (.one 10 false (.one 11 false (.one 13 true (.one 16 false (.one 17 false (.one 18 false .fin))))))))))))) 9 (.one 10 false (.two 2 (.one 3 false (.one 4 false (.one 6 true (.one 7 false (.one 14 false (.two 11 (.one 13 true (.one 15 false (.one 16 false (.one 17 false (.one 18 false .fin))))) 15 (.one 11 false (.one 13 true (.one 16 false (.one 17 false (.one 18 false .fin))))))))))) 11 (.one 13 true (.one 2 false (.one 3 false (.one 4 false (.one 6 true (.one 7 false (.one 14 false (.one 15 false (.one 16 false (.one 17 false (.one 18 false .fin)))))))))))))))))))
theorem comp154 : ∀ c, Tryd.f154.body = some c → comp c = (.seq (.reg 0 [I.n 0 2 (I.si 0)]) (.seq (.seq (.reg 1 [I.n 0 3 (I.mv 0), I.n 1 4 (I.nc 3), I.n 2 5 (I.fa 182 4 0), I.n 3 6 (I.ld 23 5), I.n 4 7 (I.ln 6 23), I.n 5 8 (I.bc .eql 3 7 0 3)]) (.cond (.tmp 8) (.seq (.reg 2 [I.n 0 2 (I.si 0)]) .ret) .skip)) (.seq (.reg 3 [I.n 0 9 (I.mv 0), I.n 1 10 (I.nc 9), I.n 2 11 (I.fa 182 10 0), I.n 3 12 (I.ld 23 11), I.n 4 13 (I.ic 23 12 0), I.n 5 14 (I.fa 35 13 0), I.n 6 15 (I.ld 3 14), I.n 7 2 (I.sa 15)]) .ret))) := by
  intro c h
  have : c = Tryd.f154.body.get rfl := by rw [← Option.some_inj, ← h]; rfl
  rw [this]; rfl
theorem comp156 : ∀ c, Tryd.f156.body = some c → comp c = (.seq (.reg 0 [I.n 0 2 (I.si 0)]) (.seq (.draw 1 [I.n 0 3 (I.mv 0), I.n 1 4 (I.nc 3), I.n 2 5 (I.fa 182 4 0), I.n 3 6 (I.ld 23 5), I.n 4 7 (I.ic 23 6 0), I.n 5 8 (I.fa 35 7 1), I.n 6 9 (I.ld 3 8), I.n 7 10 (I.mv 0), I.n 8 11 (I.nc 10), I.n 9 12 (I.fa 182 11 1), I.n 10 13 (I.ld 115 12), I.n 11 14 (I.ln 13 115), I.n 12 15 (I.bo .add 3 9 14 3), I.n 13 2 (I.sa 15)] [[], [0], [1], [2], [3], [4], [5], [], [7], [8], [9], [10], [6, 11], [12, 0, 1, 2, 3, 4, 5, 6, 7, 8, 9, 10, 11, 12]]) .ret)) := by
  intro c h
  have : c = Tryd.f156.body.get rfl := by rw [← Option.some_inj, ← h]; rfl
  rw [this]; rfl
theorem comp155 : ∀ c, Tryd.f155.body = some c → comp c = (.seq (.reg 0 [I.n 0 4 (.alloc 35)]) (.seq (.reg 1 [I.n 0 6 (I.mv 0), I.n 1 7 (I.nc 6), I.n 2 8 (I.fa 182 7 0), I.n 3 9 (I.ld 23 8), I.n 4 10 (I.ic 23 9 0), I.n 5 11 (I.fa 35 10 0), I.n 6 12 (I.ld 3 11), I.n 7 13 (.build 35 #[(0, .tmp 12)]), I.n 8 5 (.alloc 35), I.u 9 (I.st 35 5 13)]) (.seq (.seq (.reg 2 [I.n 0 14 (I.fa 35 5 0), I.n 1 15 (I.ld 3 14), I.n 2 16 (I.bc .eql 3 15 2 3)]) (.cond (.tmp 16) (.draw 3 [I.n 0 17 (I.mv 0), I.n 1 18 (I.mv 0), I.n 2 19 (I.nc 18), I.n 3 20 (I.fa 182 19 1), I.n 4 21 (I.ld 115 20), I.n 5 22 (I.mv 1), I.n 6 23 (.slice 115 (.tmp 21) none (some (.tmp 22)) none), I.n 7 24 (I.cv 115 9 23), I.n 8 25 (I.mv 0), I.n 9 26 (I.nc 25), I.n 10 27 (I.fa 182 26 1), I.n 11 28 (I.ld 115 27), I.n 12 29 (I.mv 1), I.n 13 30 (.slice 115 (.tmp 28) (some (.tmp 29)) none none), I.n 14 31 (I.fa 35 5 2), I.u 15 (I.st 9 31 24), I.n 16 32 (I.nc 17), I.n 17 33 (I.fa 182 32 1), I.u 18 (I.st 115 33 30)] [[], [], [1], [2], [3], [], [4, 5], [6], [], [8], [9], [10], [], [11, 12], [1, 2, 3, 4, 5, 6, 7], [14, 7, 1, 2, 3, 4, 5, 6, 7], [0, 0, 1, 2, 3, 4, 5, 6, 7, 8, 9, 10, 11, 12, 13, 14, 15], [16, 0, 1, 2, 3, 4, 5, 6, 7, 8, 9, 10, 11, 12, 13, 14, 15], [17, 13, 15, 0, 1, 2, 3, 4, 5, 6, 7, 8, 9, 10, 11, 12, 13, 14, 15]]) (.seq (.reg 4 [I.n 0 34 (I.mv 1), I.n 1 35 (I.fa 35 5 1), I.u 2 (I.st 3 35 34)]) (.reg 5 [I.n 0 36 (I.mv 0), I.n 1 37 (I.nc 36), I.n 2 38 (I.fa 182 37 0), I.n 3 39 (I.ld 23 38), I.n 4 40 (I.ic 23 39 0), I.n 5 41 (I.fa 35 40 1), I.n 6 42 (I.ld 3 41), I.n 7 43 (I.mv 1), I.n 8 44 (I.bo .sub 3 42 43 3), I.n 9 45 (I.ic 23 39 0), I.n 10 46 (I.fa 35 45 1), I.u 11 (I.st 3 46 44)])))) (.seq (.seq (.reg 6 [I.n 0 47 (I.mv 0), I.n 1 48 (I.c1 156 47 164), I.n 2 49 (I.bc .eql 3 48 0 3)]) (.cond (.tmp 49) (.seq (.reg 7 [I.n 0 50 (I.mv 0), I.n 1 51 (I.mv 0), I.n 2 52 (I.nc 51), I.n 3 53 (I.fa 182 52 0), I.n 4 54 (I.ld 23 53), I.n 5 55 (.slice 23 (.tmp 54) (some (.const (Value.int .i64 1))) none none), I.n 6 56 (I.nc 50), I.n 7 57 (I.fa 182 56 0), I.u 8 (I.st 23 57 55)]) (.reg 8 [I.n 0 58 (I.mv 0), I.n 1 59 (I.c1 164 58 164)])) .skip)) (.seq (.reg 9 [I.n 0 60 (I.ld 35 5), I.u 1 (I.st 35 4 60)]) .ret))))) := by
  intro c h
  have : c = Tryd.f155.body.get rfl := by rw [← Option.some_inj, ← h]; rfl
  rw [this]; rfl
theorem comp164 : ∀ c, Tryd.f164.body = some c → comp c = (.seq (.reg 0 [I.n 0 2 (I.mv 0), I.n 1 3 (I.nc 2), I.n 2 4 (I.fa 182 3 1), I.u 3 (.store 115 (.tmp 4) (.const (Value.slice none 0 0)))]) (.seq (.reg 1 [I.n 0 5 (I.mv 0), I.n 1 6 (I.nc 5), I.n 2 7 (I.fa 182 6 0), I.n 3 8 (I.ld 23 7), I.n 4 9 (I.ln 8 23), I.n 5 10 (I.bc .gtr 3 9 0 3)]) (.cond (.tmp 10) (.reg 2 [I.n 0 11 (I.mv 0), I.n 1 12 (I.mv 0), I.n 2 13 (I.nc 12), I.n 3 14 (I.fa 182 13 0), I.n 4 15 (I.ld 23 14), I.n 5 16 (I.ic 23 15 0), I.n 6 17 (I.fa 35 16 2), I.n 7 18 (I.ld 9 17), I.n 8 19 (I.cv 9 115 18), I.n 9 20 (I.nc 11), I.n 10 21 (I.fa 182 20 1), I.u 11 (I.st 115 21 19)]) .skip))) := by
  intro c h
  have : c = Tryd.f164.body.get rfl := by rw [← Option.some_inj, ← h]; rfl
  rw [this]; rfl
def txA : List Sp → AV
  | [] => nilA
  | s :: _ => .lst 1 (rnsV (nIs (pts s.t.data.toList)))
def kdS : List Sp → Int
  | [] => 0
  | s :: _ => s.k
def RdR (x E : List Sp) (off : Nat) : Prop := off + x.length ≤ E.length ∧ ∀ s l, x = s :: l → ∃ t, ∀ h : off < E.length, E[off] = ⟨s.k, s.n, t⟩ ∧ (E.drop (off + 1)).take l.length = l
abbrev rdH (vb w : Nat) (E : List Sp) (off n : Nat) (tx : AV) : List (Nat × Blk) := [(5128, ⟨2, 182, vb, 0, true, [[.own 5129 w off n, tx]]⟩), (5129, ⟨3, 35, w, 0, false, sps E⟩)]
theorem hcall_sub {E : Env} {N : Nat} {f : FuncId} {args : List AV} {hp : List (Nat × Blk)} {R R' : AV → List (Nat × Blk) → Prop} (hc : HCallW E N f args hp R) (h : ∀ r hp1, R r hp1 → ∃ H, R' r H ∧ subs hp1 H) : HCallW E N f args hp R' := by
  intro M0 w0 c M J w vs inv hn hr
  obtain ⟨a, b⟩ := hc M0 w0 c M J w vs inv hn hr
  refine ⟨a, b.mono ?_⟩
  rintro e w' ⟨v, r, hp1, c', M', J', x1, x2, x3, x4⟩
  obtain ⟨H, y1, y2⟩ := h r hp1 x2
  exact ⟨v, r, H, c', M', J', x1, y1, x3.less (s' := ⟨[], H, 0⟩) (fun t x h => by simp [get_nil] at h) (subs_get y2), x4⟩
theorem crkind_call (vb w : Nat) {x E : List Sp} {off : Nat} (h : RdR x E off) : HCallW env 65536 154 [.ptr 5128 vb 0 0] (rdH vb w E off x.length (txA x)) (fun r hp1 => r = .v (.int .i64 (kdS x)) ∧ hp1 = rdH vb w E off x.length (txA x)) := by
  have hE := sps_len E
  have h1 := h.1
  refine Ev.fnH [0, 2, 8] 65536 [.tmp 2] Tryd.func154 (comp154 _ rfl) (fun ct => ?_)
  repeat' (first | ((refine Ev.sw ?_); conv => whnf) | refine Ev.sn ?_ | ((with_reducible refine Ev.chk_k ?_ ?_); rotate_left; exact Ev.bt; conv => whnf) | ((with_reducible (refine Ev.RI.run ?_; constructor)) <;> intro _) | ((refine Ev.sg ?_); conv => whnf) | ((with_reducible refine Ev.sided ?_ ?_); conv => whnf) | ((with_reducible refine Ev.kr (hs := []) (fun Q hQ => ?_)); (simp only [Ev.runE_cons, Ev.runE_nil]); conv => whnf) | (with_reducible refine hQ _ ?_; clear hQ Q) | ((refine Ev.sf ?_); intro F hF; conv => whnf) | (with_reducible refine hF _ ?_; clear hF F) | ((with_reducible refine Ev.go_k (fun c' => ?_)); conv => whnf) | ((first | refine Ev.el_map0 ?_ (fun hi => ?_) | refine Ev.el_mapN ?_ (fun hi => ?_)); rotate_left; conv => whnf) | ((with_reducible refine Ev.sd0 ?_); exact Ev.sd) | fail)
  · rw [List.eq_nil_of_length_eq_zero (l := x) (by omega)]; exact ⟨rfl, rfl⟩
  · rename_i h0
    cases x with
    | nil => exact absurd rfl h0
    | cons s l =>
      obtain ⟨t, e⟩ := h.2 s l rfl
      refine ⟨?_, rfl⟩
      show AV.v (Value.int .i64 (E[off + Int.toNat 0]'hi).k) = _
      simp only [Int.toNat_zero, Nat.add_zero, (e hi).1]; rfl
theorem szS_alt {s : Sp} (h : SpOK s) (ht : s.t.size ≤ 1000000000) : IntKind.i64.wrap (s.n + (rnsV (nIs (pts s.t.data.toList))).length) = szS s := by
  rw [rnsV_len, nIs_len]
  rcases h.cases with ⟨a, b, c, d⟩ | ⟨a, b, c⟩
  · rw [szS_not (by omega), d]
    have : pts (⟨#[]⟩ : ByteArray).data.toList = [] := rfl
    rw [this, List.length_nil, Int.natCast_zero, Int.add_zero, wrap_id (by omega)]; omega
  · have := pts_len s.t.data.toList
    rw [len_list] at this
    rw [szS_put a, b, wrap_id (by omega)]; omega
theorem crsize_call (vb w : Nat) {s : Sp} {l E : List Sp} {off : Nat} (h : RdR (s :: l) E off) (hs : SpOK s) (ht : s.t.size ≤ 1000000000) : HCallW env 65536 156 [.ptr 5128 vb 0 0] (rdH vb w E off (l.length + 1) (txA (s :: l))) (fun r hp1 => r = .v (.int .i64 (szS s)) ∧ hp1 = rdH vb w E off (l.length + 1) (txA (s :: l))) := by
  have hE := sps_len E
  obtain ⟨t, e⟩ := h.2 s l rfl
  have h1 : off + (l.length + 1) ≤ E.length := h.1
  unfold txA
  refine Ev.fnH [0, 2] 65536 [.tmp 2] Tryd.func156 (comp156 _ rfl) (fun ct => ?_)
  repeat' (first | ((refine Ev.sw ?_); conv => whnf) | refine Ev.sn ?_ | ((with_reducible refine Ev.chk_k ?_ ?_); rotate_left; exact Ev.bt; conv => whnf) | ((with_reducible (refine Ev.RI.run ?_; constructor)) <;> intro _) | ((refine Ev.sg ?_); conv => whnf) | ((with_reducible refine Ev.sided ?_ ?_); conv => whnf) | ((with_reducible refine Ev.kr (hs := []) (fun Q hQ => ?_)); (simp only [Ev.runE_cons, Ev.runE_nil]); conv => whnf) | (with_reducible refine hQ _ ?_; clear hQ Q) | ((refine Ev.sf ?_); intro F hF; conv => whnf) | (with_reducible refine hF _ ?_; clear hF F) | ((with_reducible refine Ev.go_k (fun c' => ?_)); conv => whnf) | ((with_reducible refine Ev.dr0 ?_); (first | refine Ev.drt 1 [] p0_FnYb ?_); intro Q hQ; (simp only [Ev.runT_fin, Ev.runT_oneF, Ev.runT_oneT, Ev.runT_two]); conv => whnf) | ((with_reducible refine Ev.both ?_ ?_) <;> (conv => whnf)) | ((first | refine Ev.el_map0 ?_ (fun hi => ?_) | refine Ev.el_mapN ?_ (fun hi => ?_)); rotate_left; conv => whnf) | ((with_reducible refine Ev.sd0 ?_); exact Ev.sd) | fail)
  all_goals
    refine ⟨?_, rfl⟩
    show AV.v (Value.int .i64 (IntKind.i64.wrap ((E[off + Int.toNat 0]'hi).n + ((rnsV (nIs (pts s.t.data.toList))).length : Int)))) = _
    simp only [Int.toNat_zero, Nat.add_zero, (e hi).1, szS_alt hs ht]
set_option maxHeartbeats 4000000 in
theorem crtake_call (vb w : Nat) {s : Sp} {l E : List Sp} {off m : Nat} (h : RdR (s :: l) E off) (hs : SpOK s) (hb : tbs (s :: l) ≤ 1000000000) (hm : m ≤ szS s) : HCallW env 65536 155 [.ptr 5128 vb 0 0, .v (.int .i64 m)] (rdH vb w E off (l.length + 1) (txA (s :: l))) (fun r hp1 => ∃ E' off', r = spanA (fstS s m).k (fstS s m).n (fstS s m).t ∧ hp1 = rdH vb w E' off' (lessS s m l).length (txA (lessS s m l)) ∧ RdR (lessS s m l) E' off') := by
  have hE := sps_len E
  obtain ⟨t, e⟩ := h.2 s l rfl
  have h1 : off + (l.length + 1) ≤ E.length := h.1
  unfold txA
  have ht : s.t.size ≤ 1000000000 := by rw [tbs_cons] at hb; omega
  have hmz : (m : Int) ≤ 1048576 ∨ s.k = 2 := by
    rcases hs.cases with ⟨a, b, c, d⟩ | ⟨a, b, c⟩
    · rw [szS_not (by omega)] at hm; omega
    · exact .inr a
  have hpl := pts_len s.t.data.toList
  rw [len_list] at hpl
  have hk2 : ∀ hi : off + Int.toNat 0 < E.length, E[off + Int.toNat 0] = ⟨s.k, s.n, t⟩ := fun hi => (e hi).1
  have f2 : s.k = 2 → pts (rstS s m).t.data.toList = (pts s.t.data.toList).drop m ∧ fstS s m = ⟨2, 0, txt ((pts s.t.data.toList).take m)⟩ ∧ rstS s m = ⟨2, 0, txt ((pts s.t.data.toList).drop m)⟩ ∧ s.n = 0 ∧ m ≤ (pts s.t.data.toList).length := by
    intro a
    rcases hs.cases with ⟨a', _⟩ | ⟨a, b, c⟩
    · omega
    have hp := (pts_scal _ c).2
    have e2 : rstS s m = ⟨2, 0, txt ((pts s.t.data.toList).drop m)⟩ := if_pos a
    refine ⟨?_, if_pos a, e2, b, by rw [szS_put a] at hm; exact hm⟩
    rw [e2]
    show pts (txt _).data.toList = _
    rw [txt_list, (scal_text _ (fun p hp' => hp p (List.mem_of_mem_drop hp'))).2]
  have f1 : s.k ≠ 2 → s.t = ⟨#[]⟩ ∧ fstS s m = ⟨s.k, m, ⟨#[]⟩⟩ ∧ rstS s m = ⟨s.k, s.n - m, ⟨#[]⟩⟩ ∧ (m : Int) ≤ s.n ∧ s.n ≤ 1048576 := by
    intro a
    rcases hs.cases with ⟨a', b, c, d⟩ | ⟨a', b, c⟩
    · rw [szS_not a] at hm
      exact ⟨d, if_neg a, if_neg a, by omega, c⟩
    · exact absurd a' a
  refine hcall_sub (R := fun r hp1 => r = spanA (fstS s m).k (fstS s m).n (fstS s m).t ∧ ∃ E' off', RdR (lessS s m l) E' off' ∧ subs hp1 (rdH vb w E' off' (lessS s m l).length (txA (lessS s m l)))) ?_ ?_
  · refine Ev.fnH [0, 1, 4, 5, 16, 49] 65536 [.cell 4 35] Tryd.func155 (comp155 _ rfl) (fun ct => ?_)
    repeat' (first | (with_reducible refine Ev.join (a := .seq (.reg 2 _) _) (fun s' => ∃ (c c1 : Nat) (E1 : List Sp) (P1 : List Nat), s' = ⟨[(0, .ptr 5128 vb 0 0), (1, .v (.int .i64 m)), (4, .ptr 65536 ct 0 0), (5, .ptr 66112 c1 0 0)], [(5128, ⟨2, 182, vb, 0, true, [[.own 5129 w off (l.length + 1), .lst 1 (rnsV (nIs P1))]]⟩), (5129, ⟨3, 35, w, 0, false, sps E1⟩), (65536, ⟨3, 35, ct, 0, true, [spC ⟨0, 0, ⟨#[]⟩⟩]⟩), (66112, ⟨3, 35, c1, 0, true, [spC (fstS s m)]⟩)], c⟩ ∧ E1.length = E.length ∧ RdR (rstS s m :: l) E1 off ∧ P1 = pts (rstS s m).t.data.toList) ?_ ?_) | ((refine Ev.sw ?_); conv => whnf) | refine Ev.sn ?_ | ((with_reducible refine Ev.chk_k ?_ ?_); rotate_left; exact Ev.bt; conv => whnf) | ((with_reducible (refine Ev.RI.run ?_; constructor)) <;> intro _) | ((refine Ev.sg ?_); conv => whnf) | ((with_reducible refine Ev.sided ?_ ?_); conv => whnf) | ((with_reducible refine Ev.kr (hs := [156, 164]) (fun Q hQ => ?_)); (simp only [Ev.runE_cons, Ev.runE_nil]); conv => whnf) | (with_reducible refine hQ _ ?_; clear hQ Q) | ((refine Ev.sf ?_); intro F hF; conv => whnf) | (with_reducible refine hF _ ?_; clear hF F) | ((with_reducible refine Ev.go_k (fun c' => ?_)); conv => whnf) | ((with_reducible refine Ev.il0 156 ?_); refine Ev.il 156 [0, 2] [.tmp 2] Tryd.func156 (comp156 _ rfl) (fun ct' => ?_)) | ((with_reducible refine Ev.il0 164 ?_); refine Ev.il 164 [0, 10] [] Tryd.func164 (comp164 _ rfl) (fun ct' => ?_)) | ((with_reducible refine Ev.dr0 ?_); (first | refine Ev.drt 3 [156, 164] p1_FnYb ?_ | refine Ev.drt 1 [156, 164] p0_FnYb ?_); intro Q hQ; (simp only [Ev.runT_fin, Ev.runT_oneF, Ev.runT_oneT, Ev.runT_two]); conv => whnf) | ((with_reducible refine Ev.both ?_ ?_) <;> (conv => whnf)) | ((first | refine Ev.el_map0 ?_ (fun hi => ?_) | refine Ev.el_mapN ?_ (fun hi => ?_)); rotate_left; conv => whnf) | ((with_reducible refine Ev.sd0 ?_); exact Ev.sd) | fail)
    all_goals try (
      have hkk : (E[off + Int.toNat 0]'hi).k = 2 := by assumption
      rw [hk2] at hkk
      obtain ⟨g1, g2, g3, g4, g5⟩ := f2 hkk)
    all_goals try (refine Ev.Side.of ⟨by omega, ?_⟩; rw [rnsV_len, nIs_len]; omega)
    · have r1 : List.take ((rnsV (nIs (pts s.t.data.toList))).length - (m : Int).toNat) (List.drop (m : Int).toNat (rnsV (nIs (pts s.t.data.toList)))) = rnsV (nIs (pts (rstS s m).t.data.toList)) := by
        rw [g1, Int.toNat_natCast, List.take_of_length_le (by simp)]; simp [rnsV, nIs, List.map_drop]
      have r2 : [AV.v (.int .i64 (E[off + Int.toNat 0]'hi).k), AV.v (.int .i64 0), AV.v (.string (runesBytes (List.take ((m : Int).toNat - 0) (List.drop 0 (nIs (pts s.t.data.toList))))))] = spC (fstS s m) := by
        rw [hk2, hkk, g2, List.drop_zero, Nat.sub_zero, Int.toNat_natCast]
        have : List.take m (nIs (pts s.t.data.toList)) = nIs ((pts s.t.data.toList).take m) := by simp [nIs, List.map_take]
        rw [this, txt_runes]; rfl
      (refine Ev.to _ ?hs1 ?hh1 ?hc1 ⟨?_, ?_, E, pts (rstS s m).t.data.toList, rfl, ?hp1⟩; (case hs1 | hh1 => ((repeat' (first | exact trivial | refine And.intro ?_ ?_)) <;> (first | exact Ev.se | (refine Ev.slot_eq rfl ?_; first | (first | exact congrArg (fun x => Blk.mk 2 182 vb 0 true [[AV.own 5129 w off (l.length + 1), AV.lst 1 x]]) r1 | exact congrArg (fun x => Blk.mk 3 35 _ 0 true [x]) r2 | rfl) | ((first | refine Ev.int_eq ?_ | refine Ev.own_eq ?_ | refine Ev.blk_eq ?_); (first | exact congrArg (fun x => Blk.mk 2 182 vb 0 true [[AV.own 5129 w off (l.length + 1), AV.lst 1 x]]) r1 | exact congrArg (fun x => Blk.mk 3 35 _ 0 true [x]) r2 | rfl))) | exact Ev.sr))); (case hc1 => exact Nat.le_refl _))
      exact ⟨rfl, ⟨by simpa using h1, fun s' l' hx => by
        obtain ⟨rfl, rfl⟩ := List.cons.inj hx
        exact ⟨t, fun hi => by rw [(e hi).1, g3, hkk, g4]; exact ⟨rfl, (e hi).2⟩⟩⟩, rfl⟩
    · have r1 : List.take ((rnsV (nIs (pts s.t.data.toList))).length - (m : Int).toNat) (List.drop (m : Int).toNat (rnsV (nIs (pts s.t.data.toList)))) = rnsV (nIs (pts (rstS s m).t.data.toList)) := by
        rw [g1, Int.toNat_natCast, List.take_of_length_le (by simp)]; simp [rnsV, nIs, List.map_drop]
      have r2 : [AV.v (.int .i64 (E[off + Int.toNat 0]'hi).k), AV.v (.int .i64 0), AV.v (.string (runesBytes (List.take ((m : Int).toNat - 0) (List.drop 0 (nIs (pts s.t.data.toList))))))] = spC (fstS s m) := by
        rw [hk2, hkk, g2, List.drop_zero, Nat.sub_zero, Int.toNat_natCast]
        have : List.take m (nIs (pts s.t.data.toList)) = nIs ((pts s.t.data.toList).take m) := by simp [nIs, List.map_take]
        rw [this, txt_runes]; rfl
      (refine Ev.to _ ?hs2 ?hh2 ?hc2 ⟨?_, ?_, E, pts (rstS s m).t.data.toList, rfl, ?hp2⟩; (case hs2 | hh2 => ((repeat' (first | exact trivial | refine And.intro ?_ ?_)) <;> (first | exact Ev.se | (refine Ev.slot_eq rfl ?_; first | (first | exact congrArg (fun x => Blk.mk 2 182 vb 0 true [[AV.own 5129 w off (l.length + 1), AV.lst 1 x]]) r1 | exact congrArg (fun x => Blk.mk 3 35 _ 0 true [x]) r2 | rfl) | ((first | refine Ev.int_eq ?_ | refine Ev.own_eq ?_ | refine Ev.blk_eq ?_); (first | exact congrArg (fun x => Blk.mk 2 182 vb 0 true [[AV.own 5129 w off (l.length + 1), AV.lst 1 x]]) r1 | exact congrArg (fun x => Blk.mk 3 35 _ 0 true [x]) r2 | rfl))) | exact Ev.sr))); (case hc2 => exact Nat.le_refl _))
      exact ⟨rfl, ⟨by simpa using h1, fun s' l' hx => by
        obtain ⟨rfl, rfl⟩ := List.cons.inj hx
        exact ⟨t, fun hi => by rw [(e hi).1, g3, hkk, g4]; exact ⟨rfl, (e hi).2⟩⟩⟩, rfl⟩
    · have r1 : List.take ((rnsV (nIs (pts s.t.data.toList))).length - (m : Int).toNat) (List.drop (m : Int).toNat (rnsV (nIs (pts s.t.data.toList)))) = rnsV (nIs (pts (rstS s m).t.data.toList)) := by
        rw [g1, Int.toNat_natCast, List.take_of_length_le (by simp)]; simp [rnsV, nIs, List.map_drop]
      have r2 : [AV.v (.int .i64 (E[off + Int.toNat 0]'hi).k), AV.v (.int .i64 0), AV.v (.string (runesBytes (List.take ((m : Int).toNat - 0) (List.drop 0 (nIs (pts s.t.data.toList))))))] = spC (fstS s m) := by
        rw [hk2, hkk, g2, List.drop_zero, Nat.sub_zero, Int.toNat_natCast]
        have : List.take m (nIs (pts s.t.data.toList)) = nIs ((pts s.t.data.toList).take m) := by simp [nIs, List.map_take]
        rw [this, txt_runes]; rfl
      (refine Ev.to _ ?hs3 ?hh3 ?hc3 ⟨?_, ?_, E, pts (rstS s m).t.data.toList, rfl, ?hp3⟩; (case hs3 | hh3 => ((repeat' (first | exact trivial | refine And.intro ?_ ?_)) <;> (first | exact Ev.se | (refine Ev.slot_eq rfl ?_; first | (first | exact congrArg (fun x => Blk.mk 2 182 vb 0 true [[AV.own 5129 w off (l.length + 1), AV.lst 1 x]]) r1 | exact congrArg (fun x => Blk.mk 3 35 _ 0 true [x]) r2 | rfl) | ((first | refine Ev.int_eq ?_ | refine Ev.own_eq ?_ | refine Ev.blk_eq ?_); (first | exact congrArg (fun x => Blk.mk 2 182 vb 0 true [[AV.own 5129 w off (l.length + 1), AV.lst 1 x]]) r1 | exact congrArg (fun x => Blk.mk 3 35 _ 0 true [x]) r2 | rfl))) | exact Ev.sr))); (case hc3 => exact Nat.le_refl _))
      exact ⟨rfl, ⟨by simpa using h1, fun s' l' hx => by
        obtain ⟨rfl, rfl⟩ := List.cons.inj hx
        exact ⟨t, fun hi => by rw [(e hi).1, g3, hkk, g4]; exact ⟨rfl, (e hi).2⟩⟩⟩, rfl⟩
    · have r1 : List.take ((rnsV (nIs (pts s.t.data.toList))).length - (m : Int).toNat) (List.drop (m : Int).toNat (rnsV (nIs (pts s.t.data.toList)))) = rnsV (nIs (pts (rstS s m).t.data.toList)) := by
        rw [g1, Int.toNat_natCast, List.take_of_length_le (by simp)]; simp [rnsV, nIs, List.map_drop]
      have r2 : [AV.v (.int .i64 (E[off + Int.toNat 0]'hi).k), AV.v (.int .i64 0), AV.v (.string (runesBytes (List.take ((m : Int).toNat - 0) (List.drop 0 (nIs (pts s.t.data.toList))))))] = spC (fstS s m) := by
        rw [hk2, hkk, g2, List.drop_zero, Nat.sub_zero, Int.toNat_natCast]
        have : List.take m (nIs (pts s.t.data.toList)) = nIs ((pts s.t.data.toList).take m) := by simp [nIs, List.map_take]
        rw [this, txt_runes]; rfl
      (refine Ev.to _ ?hs4 ?hh4 ?hc4 ⟨?_, ?_, E, pts (rstS s m).t.data.toList, rfl, ?hp4⟩; (case hs4 | hh4 => ((repeat' (first | exact trivial | refine And.intro ?_ ?_)) <;> (first | exact Ev.se | (refine Ev.slot_eq rfl ?_; first | (first | exact congrArg (fun x => Blk.mk 2 182 vb 0 true [[AV.own 5129 w off (l.length + 1), AV.lst 1 x]]) r1 | exact congrArg (fun x => Blk.mk 3 35 _ 0 true [x]) r2 | rfl) | ((first | refine Ev.int_eq ?_ | refine Ev.own_eq ?_ | refine Ev.blk_eq ?_); (first | exact congrArg (fun x => Blk.mk 2 182 vb 0 true [[AV.own 5129 w off (l.length + 1), AV.lst 1 x]]) r1 | exact congrArg (fun x => Blk.mk 3 35 _ 0 true [x]) r2 | rfl))) | exact Ev.sr))); (case hc4 => exact Nat.le_refl _))
      exact ⟨rfl, ⟨by simpa using h1, fun s' l' hx => by
        obtain ⟨rfl, rfl⟩ := List.cons.inj hx
        exact ⟨t, fun hi => by rw [(e hi).1, g3, hkk, g4]; exact ⟨rfl, (e hi).2⟩⟩⟩, rfl⟩
    · have r1 : List.take ((rnsV (nIs (pts s.t.data.toList))).length - (m : Int).toNat) (List.drop (m : Int).toNat (rnsV (nIs (pts s.t.data.toList)))) = rnsV (nIs (pts (rstS s m).t.data.toList)) := by
        rw [g1, Int.toNat_natCast, List.take_of_length_le (by simp)]; simp [rnsV, nIs, List.map_drop]
      have r2 : [AV.v (.int .i64 (E[off + Int.toNat 0]'hi).k), AV.v (.int .i64 0), AV.v (.string (runesBytes (List.take ((m : Int).toNat - 0) (List.drop 0 (nIs (pts s.t.data.toList))))))] = spC (fstS s m) := by
        rw [hk2, hkk, g2, List.drop_zero, Nat.sub_zero, Int.toNat_natCast]
        have : List.take m (nIs (pts s.t.data.toList)) = nIs ((pts s.t.data.toList).take m) := by simp [nIs, List.map_take]
        rw [this, txt_runes]; rfl
      (refine Ev.to _ ?hs5 ?hh5 ?hc5 ⟨?_, ?_, E, pts (rstS s m).t.data.toList, rfl, ?hp5⟩; (case hs5 | hh5 => ((repeat' (first | exact trivial | refine And.intro ?_ ?_)) <;> (first | exact Ev.se | (refine Ev.slot_eq rfl ?_; first | (first | exact congrArg (fun x => Blk.mk 2 182 vb 0 true [[AV.own 5129 w off (l.length + 1), AV.lst 1 x]]) r1 | exact congrArg (fun x => Blk.mk 3 35 _ 0 true [x]) r2 | rfl) | ((first | refine Ev.int_eq ?_ | refine Ev.own_eq ?_ | refine Ev.blk_eq ?_); (first | exact congrArg (fun x => Blk.mk 2 182 vb 0 true [[AV.own 5129 w off (l.length + 1), AV.lst 1 x]]) r1 | exact congrArg (fun x => Blk.mk 3 35 _ 0 true [x]) r2 | rfl))) | exact Ev.sr))); (case hc5 => exact Nat.le_refl _))
      exact ⟨rfl, ⟨by simpa using h1, fun s' l' hx => by
        obtain ⟨rfl, rfl⟩ := List.cons.inj hx
        exact ⟨t, fun hi => by rw [(e hi).1, g3, hkk, g4]; exact ⟨rfl, (e hi).2⟩⟩⟩, rfl⟩
    · have r1 : List.take ((rnsV (nIs (pts s.t.data.toList))).length - (m : Int).toNat) (List.drop (m : Int).toNat (rnsV (nIs (pts s.t.data.toList)))) = rnsV (nIs (pts (rstS s m).t.data.toList)) := by
        rw [g1, Int.toNat_natCast, List.take_of_length_le (by simp)]; simp [rnsV, nIs, List.map_drop]
      have r2 : [AV.v (.int .i64 (E[off + Int.toNat 0]'hi).k), AV.v (.int .i64 0), AV.v (.string (runesBytes (List.take ((m : Int).toNat - 0) (List.drop 0 (nIs (pts s.t.data.toList))))))] = spC (fstS s m) := by
        rw [hk2, hkk, g2, List.drop_zero, Nat.sub_zero, Int.toNat_natCast]
        have : List.take m (nIs (pts s.t.data.toList)) = nIs ((pts s.t.data.toList).take m) := by simp [nIs, List.map_take]
        rw [this, txt_runes]; rfl
      (refine Ev.to _ ?hs6 ?hh6 ?hc6 ⟨?_, ?_, E, pts (rstS s m).t.data.toList, rfl, ?hp6⟩; (case hs6 | hh6 => ((repeat' (first | exact trivial | refine And.intro ?_ ?_)) <;> (first | exact Ev.se | (refine Ev.slot_eq rfl ?_; first | (first | exact congrArg (fun x => Blk.mk 2 182 vb 0 true [[AV.own 5129 w off (l.length + 1), AV.lst 1 x]]) r1 | exact congrArg (fun x => Blk.mk 3 35 _ 0 true [x]) r2 | rfl) | ((first | refine Ev.int_eq ?_ | refine Ev.own_eq ?_ | refine Ev.blk_eq ?_); (first | exact congrArg (fun x => Blk.mk 2 182 vb 0 true [[AV.own 5129 w off (l.length + 1), AV.lst 1 x]]) r1 | exact congrArg (fun x => Blk.mk 3 35 _ 0 true [x]) r2 | rfl))) | exact Ev.sr))); (case hc6 => exact Nat.le_refl _))
      exact ⟨rfl, ⟨by simpa using h1, fun s' l' hx => by
        obtain ⟨rfl, rfl⟩ := List.cons.inj hx
        exact ⟨t, fun hi => by rw [(e hi).1, g3, hkk, g4]; exact ⟨rfl, (e hi).2⟩⟩⟩, rfl⟩
    · have hkk : ¬ (E[off + Int.toNat 0]'hi).k = 2 := by assumption
      rw [hk2] at hkk
      obtain ⟨g1, g2, g3, g4, g5⟩ := f1 hkk
      have hw : IntKind.i64.wrap ((E[off + Int.toNat 0]'hi).n - m) = s.n - m := by rw [hk2]; exact wrap_id (by simp only; omega)
      have r1 : (sps E).set (off + Int.toNat 0) (withCells (spC (E[off + Int.toNat 0]'hi)) (0 + 1) [AV.v (.int .i64 (IntKind.i64.wrap ((E[off + Int.toNat 0]'hi).n - m)))]) = sps (E.set off ⟨s.k, s.n - m, t⟩) := by
        rw [hw, hk2, ← sps_set]; rfl
      have r2 : [AV.v (.int .i64 (E[off + Int.toNat 0]'hi).k), AV.v (.int .i64 m), AV.v (.string ⟨#[]⟩)] = spC (fstS s m) := by rw [hk2, g2]; rfl
      have r3 : rnsV (nIs (pts s.t.data.toList)) = rnsV (nIs (pts (rstS s m).t.data.toList)) := by rw [g1, g3]
      (refine Ev.to _ ?hs7 ?hh7 ?hc7 ⟨?_, ?_, E.set off ⟨s.k, s.n - m, t⟩, pts (rstS s m).t.data.toList, rfl, ?hp7⟩; (case hs7 | hh7 => ((repeat' (first | exact trivial | refine And.intro ?_ ?_)) <;> (first | exact Ev.se | (refine Ev.slot_eq rfl ?_; first | (first | exact congrArg (fun x => Blk.mk 2 182 vb 0 true [[AV.own 5129 w off (l.length + 1), AV.lst 1 x]]) r3 | exact congrArg (fun x => Blk.mk 3 35 _ 0 true [x]) r2 | exact congrArg (fun x => Blk.mk 3 35 w 0 false x) r1 | rfl) | ((first | refine Ev.int_eq ?_ | refine Ev.own_eq ?_ | refine Ev.blk_eq ?_); (first | exact congrArg (fun x => Blk.mk 2 182 vb 0 true [[AV.own 5129 w off (l.length + 1), AV.lst 1 x]]) r3 | exact congrArg (fun x => Blk.mk 3 35 _ 0 true [x]) r2 | exact congrArg (fun x => Blk.mk 3 35 w 0 false x) r1 | rfl))) | exact Ev.sr))); (case hc7 => exact Nat.le_refl _))
      refine ⟨by simp, ⟨by simpa using h1, fun s' l' hx => ?_⟩, rfl⟩
      obtain ⟨rfl, rfl⟩ := List.cons.inj hx
      refine ⟨t, fun hi => ?_⟩
      rw [List.getElem_set_self, g3]
      exact ⟨rfl, by rw [List.drop_set_of_lt (by omega)]; exact (e (by omega)).2⟩
    · rintro s' ⟨c, c1, E1, P1, rfl, hE1, hR1, hP1⟩
      have hE1' := sps_len E1
      obtain ⟨t1, e1⟩ := hR1.2 _ _ rfl
      have h11 : off + (l.length + 1) ≤ E1.length := hR1.1
      obtain ⟨p1, p2, p3, p4, p5, p6, p7⟩ := part_ok hs hm
      have hz : ∀ hi : off + Int.toNat 0 < E1.length, IntKind.i64.wrap ((E1[off + Int.toNat 0]'hi).n + ((rnsV (nIs P1)).length : Int)) = ((szS s - m : Nat) : Int) := by
        intro hi
        have q1 : E1[off + Int.toNat 0]'hi = ⟨(rstS s m).k, (rstS s m).n, t1⟩ := (e1 hi).1
        rw [q1, hP1, szS_alt p2 (by omega)]
        have q2 := szS_len p2
        rw [p4, List.length_drop, szS_len hs] at q2
        rw [q2]
      have hE2 : ∀ (hi : off + Int.toNat 1 + Int.toNat 0 < E1.length) (h0 : 0 < l.length), E1[off + Int.toNat 1 + Int.toNat 0]'hi = l[0] ∧ (E1.drop (off + 1 + 1)).take (l.length - 1) = l.drop 1 := by
        intro hi h0
        have q := (e1 (by omega)).2
        have hi' : off + 1 < E1.length := hi
        rw [List.drop_eq_getElem_cons hi'] at q
        cases l with
        | nil => exact absurd h0 (by simp)
        | cons a l =>
          rw [List.length_cons, List.take_succ_cons] at q
          obtain ⟨x1, x2⟩ := List.cons.inj q
          exact ⟨x1, x2⟩
      repeat' (first | ((refine Ev.sw ?_); conv => whnf) | refine Ev.sn ?_ | ((with_reducible refine Ev.chk_k ?_ ?_); rotate_left; exact Ev.bt; conv => whnf) | ((with_reducible (refine Ev.RI.run ?_; constructor)) <;> intro _) | ((refine Ev.sg ?_); conv => whnf) | ((with_reducible refine Ev.sided ?_ ?_); conv => whnf) | ((with_reducible refine Ev.kr (hs := [156, 164]) (fun Q hQ => ?_)); (simp only [Ev.runE_cons, Ev.runE_nil]); conv => whnf) | (with_reducible refine hQ _ ?_; clear hQ Q) | ((refine Ev.sf ?_); intro F hF; conv => whnf) | (with_reducible refine hF _ ?_; clear hF F) | ((with_reducible refine Ev.go_k (fun c' => ?_)); conv => whnf) | ((with_reducible refine Ev.il0 156 ?_); refine Ev.il 156 [0, 2] [.tmp 2] Tryd.func156 (comp156 _ rfl) (fun ct' => ?_)) | ((with_reducible refine Ev.il0 164 ?_); refine Ev.il 164 [0, 10] [] Tryd.func164 (comp164 _ rfl) (fun ct' => ?_)) | ((with_reducible refine Ev.dr0 ?_); (first | refine Ev.drt 3 [156, 164] p1_FnYb ?_ | refine Ev.drt 1 [156, 164] p0_FnYb ?_); intro Q hQ; (simp only [Ev.runT_fin, Ev.runT_oneF, Ev.runT_oneT, Ev.runT_two]); conv => whnf) | ((with_reducible refine Ev.both ?_ ?_) <;> (conv => whnf)) | ((first | refine Ev.el_map0 ?_ (fun hi => ?_) | refine Ev.el_mapN ?_ (fun hi => ?_)); rotate_left; conv => whnf) | ((with_reducible refine Ev.sd0 ?_); exact Ev.sd) | fail)
      · have q : ((szS s - m : Nat) : Int) = 0 := (hz (by show off + 0 < E1.length; omega)).symm.trans (by assumption)
        have hl : lessS s m l = l := if_pos (by omega)
        have h0 : 0 < l.length := by omega
        have y := hE2 hi h0
        rw [hl]
        cases l with
        | nil => simp at h0
        | cons a l =>
          have r1 : runesAV (E1[off + Int.toNat 1 + Int.toNat 0]'hi).t = rnsV (nIs (pts a.t.data.toList)) := by rw [y.1, runes_all]; rfl
          refine ⟨rfl, E1, off + 1, ⟨by simp at h11 ⊢; omega, fun s' l' hx => ?_⟩, Ev.slot_eq rfl ?_, Ev.slot_eq rfl rfl, trivial⟩
          · obtain ⟨rfl, rfl⟩ := List.cons.inj hx
            exact ⟨_, fun hi => y⟩
          · exact congrArg (fun x => Blk.mk 2 182 vb 0 true [[AV.own 5129 w (off + 1) (l.length + 1), AV.lst 1 x]]) r1
      · refine Ev.Side.of ?_
        rw [(hE2 hi (by omega)).1]
        have := tbs_drop (l := l) (i := 0) (by omega)
        rw [List.drop_zero] at this
        rw [tbs_cons] at hb
        omega
      · have q : ((szS s - m : Nat) : Int) = 0 := (hz (by show off + 0 < E1.length; omega)).symm.trans (by assumption)
        have hl : lessS s m l = l := if_pos (by omega)
        have h0 : l = [] := List.eq_nil_of_length_eq_zero (by omega)
        rw [hl]
        subst h0
        exact ⟨rfl, E1, off + 1, ⟨by simpa using h11, fun s' l' hx => by cases hx⟩, Ev.slot_eq rfl rfl, Ev.slot_eq rfl rfl, trivial⟩
      · have q : ¬ ((szS s - m : Nat) : Int) = 0 := by rw [← hz (by show off + 0 < E1.length; omega)]; assumption
        have hl : lessS s m l = rstS s m :: l := if_neg (by omega)
        rw [hl]
        subst hP1
        exact ⟨rfl, E1, off, hR1, Ev.slot_eq rfl rfl, Ev.slot_eq rfl rfl, trivial⟩
      · have q : ((szS s - m : Nat) : Int) = 0 := (hz (by show off + 0 < E1.length; omega)).symm.trans (by assumption)
        have hl : lessS s m l = l := if_pos (by omega)
        have h0 : 0 < l.length := by omega
        have y := hE2 hi h0
        rw [hl]
        cases l with
        | nil => simp at h0
        | cons a l =>
          have r1 : runesAV (E1[off + Int.toNat 1 + Int.toNat 0]'hi).t = rnsV (nIs (pts a.t.data.toList)) := by rw [y.1, runes_all]; rfl
          refine ⟨rfl, E1, off + 1, ⟨by simp at h11 ⊢; omega, fun s' l' hx => ?_⟩, Ev.slot_eq rfl ?_, Ev.slot_eq rfl rfl, trivial⟩
          · obtain ⟨rfl, rfl⟩ := List.cons.inj hx
            exact ⟨_, fun hi => y⟩
          · exact congrArg (fun x => Blk.mk 2 182 vb 0 true [[AV.own 5129 w (off + 1) (l.length + 1), AV.lst 1 x]]) r1
      · refine Ev.Side.of ?_
        rw [(hE2 hi (by omega)).1]
        have := tbs_drop (l := l) (i := 0) (by omega)
        rw [List.drop_zero] at this
        rw [tbs_cons] at hb
        omega
      · have q : ((szS s - m : Nat) : Int) = 0 := (hz (by show off + 0 < E1.length; omega)).symm.trans (by assumption)
        have hl : lessS s m l = l := if_pos (by omega)
        have h0 : l = [] := List.eq_nil_of_length_eq_zero (by omega)
        rw [hl]
        subst h0
        exact ⟨rfl, E1, off + 1, ⟨by simpa using h11, fun s' l' hx => by cases hx⟩, Ev.slot_eq rfl rfl, Ev.slot_eq rfl rfl, trivial⟩
      · have q : ¬ ((szS s - m : Nat) : Int) = 0 := by rw [← hz (by show off + 0 < E1.length; omega)]; assumption
        have hl : lessS s m l = rstS s m :: l := if_neg (by omega)
        rw [hl]
        subst hP1
        exact ⟨rfl, E1, off, hR1, Ev.slot_eq rfl rfl, Ev.slot_eq rfl rfl, trivial⟩
  · rintro r hp1 ⟨a, E', off', b, c⟩
    exact ⟨_, ⟨E', off', a, rfl, b⟩, c⟩
theorem comp153 : ∀ c, Tryd.f153.body = some c → comp c = (.seq (.reg 0 [I.n 0 2 (.assign (.const (Value.pointer none)))]) (.seq (.reg 1 [I.n 0 4 (I.mv 0), I.n 1 5 (I.c1 35 4 23), I.n 2 6 (.build 182 #[(0, .tmp 5)]), I.n 3 7 (.box 182 (.tmp 6)), I.n 4 3 (I.sa 7)]) (.seq (.reg 2 [I.n 0 8 (I.mv 3), I.n 1 9 (I.c1 164 8 164)]) (.seq (.reg 3 [I.n 0 10 (I.mv 3), I.n 1 2 (I.sa 10)]) .ret)))) := by
  intro c h
  have : c = Tryd.f153.body.get rfl := by rw [← Option.some_inj, ← h]; rfl
  rw [this]; rfl
theorem newReader_call (l : List Sp) (hl : l.length ≤ 100000000) (hb : tbs l ≤ 1000000000) (hbn : tbs (norm l) ≤ 1000000000) : CallW env 153 [.lst 3 (sps l)] (fun r hs => ∃ E, r = .ptr 0 0 0 0 ∧ hs = [⟨2, 182, 0, 0, true, [[.own 1 1 0 (norm l).length, txA (norm l)]]⟩, ⟨3, 35, 1, 0, false, sps E⟩] ∧ RdR (norm l) E 0) := by
  refine Ev.fnO [0, 2, 3] 0 [.tmp 2] Tryd.func153 (comp153 _ rfl) ?_
  repeat' (first | ((refine Ev.sw ?_); conv => whnf) | refine Ev.sn ?_ | ((with_reducible refine Ev.chk_k ?_ ?_); rotate_left; exact Ev.bt; conv => whnf) | ((with_reducible (refine Ev.RI.run ?_; constructor)) <;> intro _) | ((refine Ev.sg ?_); conv => whnf) | ((with_reducible refine Ev.sided ?_ ?_); conv => whnf) | ((with_reducible refine Ev.kr (hs := [164]) (fun Q hQ => ?_)); (simp only [Ev.runE_cons, Ev.runE_nil]); conv => whnf) | (with_reducible refine hQ _ ?_; clear hQ Q) | ((refine Ev.sf ?_); intro F hF; conv => whnf) | (with_reducible refine hF _ ?_; clear hF F) | ((with_reducible refine Ev.go_k (fun c' => ?_)); conv => whnf) | ((with_reducible refine Ev.il0 164 ?_); refine Ev.il 164 [0, 10] [] Tryd.func164 (comp164 _ rfl) (fun ct' => ?_)) | ((((with_reducible refine Ev.ca0 ?_); refine ⟨(nof_own l hl hb).mono ?_⟩; rintro _ _ ⟨E, rfl, rfl, hE1, hE2⟩; refine ⟨Nat.le_of_ble_eq_true rfl, ⟨rfl, trivial⟩, ?_⟩; conv => whnf)); conv => whnf) | ((first | refine Ev.el_map0 ?_ (fun hi => ?_) | refine Ev.el_mapN ?_ (fun hi => ?_)); rotate_left; conv => whnf) | ((with_reducible refine Ev.sd0 ?_); exact Ev.sd) | fail)
  · have h0 : 0 < (norm l).length := by omega
    have hE0 : 0 < E.length := by have := congrArg List.length hE1; rw [List.length_take] at this; omega
    have hlE : (norm l).length ≤ E.length := by have := congrArg List.length hE1; rw [List.length_take] at this; omega
    refine Ev.finL [(536, 1), (520, 0)] (by simp) (fun F hF => ?_)
    conv => whnf
    refine hF _ ?_
    generalize norm l = x at *
    cases x with
    | nil => simp at h0
    | cons s x =>
      rw [List.length_cons] at hE1
      have e0 : E = E[0] :: E.drop 1 := (List.drop_eq_getElem_cons hE0)
      have e1 := hE1
      rw [e0, List.take_succ_cons] at e1
      obtain ⟨x1, x2⟩ := List.cons.inj e1
      have r1 : runesAV E[0].t = rnsV (nIs (pts s.t.data.toList)) := by rw [x1, runes_all]
      refine ⟨E, rfl, ?_, by simpa using hlE, fun s' l' hx => ?_⟩
      · exact congrArg (fun x' => [Blk.mk 2 182 0 0 true [[AV.own 1 1 0 (x.length + 1), AV.lst 1 x']], Blk.mk 3 35 1 0 false (sps E)]) r1
      · obtain ⟨rfl, rfl⟩ := List.cons.inj hx
        exact ⟨_, fun _ => ⟨x1, x2⟩⟩
  · refine Ev.Side.of ?_
    have h0 : 0 < (norm l).length := by omega
    have hE0 : 0 < E.length := by have := congrArg List.length hE1; rw [List.length_take] at this; omega
    have e0 : E = E[0] :: E.drop 1 := (List.drop_eq_getElem_cons hE0)
    have ht := hbn
    generalize norm l = x at *
    cases x with
    | nil => simp at h0
    | cons s x =>
      rw [List.length_cons] at hE1
      rw [e0, List.take_succ_cons] at hE1
      obtain ⟨x1, x2⟩ := List.cons.inj hE1
      show E[0].t.size ≤ _
      rw [x1]; rw [tbs_cons] at ht; omega
  · refine Ev.Side.of ?_
    show 0 < E.length
    have := congrArg List.length hE1
    rw [List.length_take] at this; omega
  · have h0 : norm l = [] := List.eq_nil_of_length_eq_zero (by omega)
    refine Ev.finL [(536, 1), (520, 0)] (by simp) (fun F hF => ?_)
    conv => whnf
    refine hF _ ?_
    rw [h0]
    exact ⟨E, rfl, rfl, by simp, fun s' l' hx => by cases hx⟩
end Go.Proofs.YtadlnaljicikfaaDoor.Abs
namespace Go.Proofs.YtadlnaljicikfaaDoor.Abs
open Go Go.Lib
abbrev rdG (B R vb w : Nat) (E : List Sp) (off n : Nat) (tx : AV) : List (Nat × Blk) := [(B, ⟨2, 182, vb, 0, true, [[.own R w off n, tx]]⟩), (R, ⟨3, 35, w, 0, false, sps E⟩)]
theorem own_ren {M : Mem} {J : Locs} {r r' v off n : Nat} {u : Value} (h : Rel M J (.own r v off n) u) : Rel M J (.own r' v off n) u := by
  cases h with
  | pure h => cases h
  | own hL hl hN hA hc => exact .own hL hl hN hA hc
theorem ptr_ren {M : Mem} {J : Locs} {r r' v i o : Nat} {u : Value} (h : Rel M J (.ptr r v i o) u) : Rel M J (.ptr r' v i o) u := by
  cases h with
  | pure h => cases h
  | ptr hL hN => exact .ptr hL hN
theorem rdG_get {B R vb w : Nat} {E : List Sp} {off n : Nat} {tx : AV} {r : Nat} {k : Blk} (h : get (rdG B R vb w E off n tx) r = some k) :
    (r = B ∧ k = ⟨2, 182, vb, 0, true, [[.own R w off n, tx]]⟩) ∨ (r = R ∧ k = ⟨3, 35, w, 0, false, sps E⟩) := by
  rw [get_cons, get_cons, get_nil] at h
  split at h
  · rename_i e; exact .inl ⟨e.symm ▸ rfl, (Option.some.inj h).symm⟩
  · split at h
    · rename_i e; exact .inr ⟨e.symm ▸ rfl, (Option.some.inj h).symm⟩
    · cases h
theorem Inv.rd_ren {E : Env} {M0 : Bas} {w0 : World} {c : Nat} {M : Mem} {J : Locs} {W : World} {B R B' R' vb w : Nat} {S : List Sp} {off n : Nat} {tx : AV} (hne : B ≠ R) (inv : Inv E M0 w0 c M J ⟨[], rdG B R vb w S off n tx, 0⟩ #[] W) :
    Inv E M0 w0 c M J ⟨[], rdG B' R' vb w S off n tx, 0⟩ #[] W := by
  have gB : get (rdG B R vb w S off n tx) B = some ⟨2, 182, vb, 0, true, [[.own R w off n, tx]]⟩ := by rw [get_cons, if_pos rfl]
  have gR : get (rdG B R vb w S off n tx) R = some ⟨3, 35, w, 0, false, sps S⟩ := by rw [get_cons, if_neg (Ne.symm hne), get_cons, if_pos rfl]
  refine ⟨inv.below, inv.mem, inv.newM, inv.oldM, inv.glob, fun t x h => by simp [get_nil] at h, ?_, ?_, ?_, inv.vers, inv.oldJ, inv.far⟩
  · intro r k hk
    rcases rdG_get hk with ⟨rfl, rfl⟩ | ⟨rfl, rfl⟩
    · obtain ⟨L, C, h1, h2, h3⟩ := inv.heap _ _ gB
      refine ⟨L, C, h1, h2, h3.blk, h3.none, h3.size, h3.fits, h3.frz, h3.sz, ?_, ?_, h3.cap⟩
      · intro i e he
        cases i with
        | zero => obtain rfl := Option.some.inj he; rfl
        | succ i => simp at he
      · intro i e j c he hc
        cases i with
        | zero =>
          obtain rfl := Option.some.inj he
          cases j with
          | zero =>
            obtain rfl := Option.some.inj hc
            obtain ⟨u, u1, u2, u3⟩ := h3.cell 0 _ 0 _ rfl rfl
            exact ⟨u, u1, u2, own_ren u3⟩
          | succ j => exact h3.cell 0 _ (j + 1) c rfl hc
        | succ i => simp at he
    · exact inv.heap _ _ gR
  · intro r r' k k' L L' hk hk' hL hL' hN hN' hr
    rcases rdG_get hk with ⟨rfl, rfl⟩ | ⟨rfl, rfl⟩ <;> rcases rdG_get hk' with ⟨rfl, rfl⟩ | ⟨rfl, rfl⟩
    · exact absurd rfl hr
    · exact inv.apart _ _ _ _ L L' gB gR hL hL' hN hN' hne
    · exact inv.apart _ _ _ _ L L' gR gB hL hL' hN hN' (Ne.symm hne)
    · exact absurd rfl hr
  · intro r k L o u hk hL hN hu
    rcases rdG_get hk with ⟨rfl, rfl⟩ | ⟨rfl, rfl⟩
    · have := inv.owns _ _ L o u gB hL hN hu; exact this
    · exact inv.owns _ _ L o u gR hL hN hu
theorem hcall_rd {E : Env} {N : Nat} {f : FuncId} {vb w : Nat} {S : List Sp} {off n : Nat} {tx : AV} {args : List AV} {R : AV → Nat → List Sp → Nat → Nat → AV → Prop} (B' R' : Nat) (hne : B' ≠ R')
    (hc : HCallW E N f (.ptr 5128 vb 0 0 :: args) (rdH vb w S off n tx) fun r hp1 => ∃ S' off' n' tx', hp1 = rdH vb w S' off' n' tx' ∧ R r w S' off' n' tx') :
    HCallW E N f (.ptr B' vb 0 0 :: args) (rdG B' R' vb w S off n tx) fun r hp1 => ∃ S' off' n' tx', hp1 = rdG B' R' vb w S' off' n' tx' ∧ R r w S' off' n' tx' := by
  intro M0 w0 c M J W vs inv hn hr
  obtain ⟨a, b⟩ := hc M0 w0 c M J W vs (inv.rd_ren (B' := 5128) (R' := 5129) hne) hn (fun i x v hx hv => by
    cases i with
    | zero => obtain rfl := Option.some.inj hx; exact ptr_ren (hr 0 _ v rfl hv)
    | succ i => exact hr (i + 1) x v hx hv)
  refine ⟨a, b.mono ?_⟩
  rintro e w' ⟨v, r, hp1, c', M', J', x1, ⟨S', off', n', tx', rfl, x2⟩, x3, x4⟩
  exact ⟨v, r, _, c', M', J', x1, ⟨S', off', n', tx', rfl, x2⟩, x3.rd_ren (by decide), x4⟩
namespace Ev
theorem Gh_nil {E : Env} {sl : List (Nat × AV)} {hp : List (Nat × Blk)} {ct t r sz ty : Nat} (hg : get sl t = some nilA) (hr : get hp r = none) :
    Gh E ⟨sl, hp, ct⟩ ⟨(t, .own r ct 0 0) :: sl, (r, ⟨sz, ty, ct, 0, false, []⟩) :: hp, ct + 8⟩ := by
  intro M0 w0 M J tm w inv
  obtain ⟨v, hv, hrel⟩ := inv.slot t _ hg
  have hct : J ct = none := by
    cases h : J ct with
    | none => rfl
    | some L => exact absurd (inv.vers ct L h) (Nat.lt_irrefl _)
  let J' : Locs := fun x => if x = ct then some ⟨0, 0, sz, true⟩ else J x
  have hJ : ∀ q L, J q = some L → J' q = some L := by
    intro q L h
    show (if q = ct then _ else J q) = _
    rw [if_neg (by rintro rfl; rw [hct] at h; cases h)]; exact h
  have hc : J' ct = some ⟨0, 0, sz, true⟩ := if_pos rfl
  have hback : ∀ q L, J' q = some L → L.nil = false → J q = some L := by
    intro q L h hN
    have h : (if q = ct then some ⟨0, 0, sz, true⟩ else J q) = some L := h
    split at h
    · obtain rfl := Option.some.inj h; cases hN
    · exact h
  have hold : ∀ q k L, get hp q = some k → J' k.ver = some L → J k.ver = some L := by
    intro q k L h hL
    obtain ⟨L1, C1, a1, _⟩ := inv.heap q k h
    rw [hJ _ _ a1] at hL; rw [a1, hL]
  have hv' : v = .slice none 0 0 := by
    cases hrel with
    | pure h => cases h; rfl
  refine ⟨M, J', inv.below, inv.mem, inv.newM, inv.oldM, inv.glob, ?_, ?_, ?_, ?_, ?_, fun q L h => hJ _ _ (inv.oldJ q L h), inv.far⟩
  · intro t' x hx
    rw [get_cons] at hx
    split at hx
    · rename_i e
      obtain rfl := Option.some.inj hx
      subst e; subst hv'
      exact ⟨_, hv, .own hc (Nat.le_refl _) (fun _ => rfl) (fun h => by cases h) rfl⟩
    · obtain ⟨u, h1, h2⟩ := inv.slot t' x hx
      exact ⟨u, h1, h2.mono (fun _ _ _ h => h) hJ⟩
  · intro q k hk
    rw [get_cons] at hk
    split at hk
    · obtain rfl := Option.some.inj hk
      refine ⟨⟨0, 0, sz, true⟩, #[], hc, fun h => Bool.noConfusion h, ⟨fun h => Bool.noConfusion h, fun _ => rfl, ?_, Nat.le_refl _, Nat.le_refl _, rfl, fun i e h => ?_, fun i e j c h => ?_, Nat.zero_le _⟩⟩
      · show 0 = 0 * sz; omega
      · cases h
      · cases h
    · obtain ⟨L, C, h1, h2, h3⟩ := inv.heap q k hk
      exact ⟨L, C, hJ _ _ h1, h2, h3.blk, h3.none, h3.size, h3.fits, h3.frz, h3.sz, h3.len, fun i e j c h h' => by
        obtain ⟨u, u1, u2, u3⟩ := h3.cell i e j c h h'
        exact ⟨u, u1, u2, u3.mono (fun _ _ _ h => h) hJ⟩, h3.cap⟩
  · intro q q' k k' L L' hk hk' hL hL' hN hN' hne
    have f : ∀ q k L, get ((r, (⟨sz, ty, ct, 0, false, []⟩ : Blk)) :: hp) q = some k → J' k.ver = some L → L.nil = false → get hp q = some k ∧ J k.ver = some L := by
      intro q k L hk hL hN
      rw [get_cons] at hk
      split at hk
      · obtain rfl := Option.some.inj hk
        rw [hc] at hL; obtain rfl := Option.some.inj hL; cases hN
      · exact ⟨hk, hold q k L hk hL⟩
    obtain ⟨a1, a2⟩ := f q k L hk hL hN
    obtain ⟨b1, b2⟩ := f q' k' L' hk' hL' hN'
    exact inv.apart q q' k k' L L' a1 b1 a2 b2 hN hN' hne
  · intro q k L o u hk hL hN hu
    rw [get_cons] at hk
    split at hk
    · obtain rfl := Option.some.inj hk
      rw [hc] at hL; obtain rfl := Option.some.inj hL; cases hN
    · exact inv.owns q k L o u hk (hold q k L hk hL) hN hu
  · intro q L h
    have h : (if q = ct then some ⟨0, 0, sz, true⟩ else J q) = some L := h
    split at h
    · rename_i e; subst e; show q < q + 8; omega
    · exact Nat.lt_of_lt_of_le (inv.vers q L h) (Nat.le_add_right ct 8)
theorem nil_own {E : Env} {nt : Nat} (t r sz ty : Nat) {c : CC} {K : Exit → St → Prop} {sl : List (Nat × AV)} {hp : List (Nat × Blk)} {ct : Nat} (hg : get sl t = some nilA) (hr : get hp r = none)
    (h : Wp E nt c K ⟨(t, .own r ct 0 0) :: sl, (r, ⟨sz, ty, ct, 0, false, []⟩) :: hp, ct + 8⟩) : Wp E nt c K ⟨sl, hp, ct⟩ := WPk.ghost (Gh_nil hg hr) h
end Ev
namespace Ev
theorem Gh_cell {E : Env} {sl : List (Nat × AV)} {hp : List (Nat × Blk)} {ct q v0 ty0 r sz ty n0 j0 : Nat} {cs : List AV} (hg : get hp q = some ⟨n0, ty0, v0, 0, true, [cs]⟩) (hn : cs[j0]? = some nilA) (hr : get hp r = none) :
    Gh E ⟨sl, hp, ct⟩ ⟨sl, (q, ⟨n0, ty0, v0, 0, true, [cs.set j0 (.own r ct 0 0)]⟩) :: (r, ⟨sz, ty, ct, 0, false, []⟩) :: hp, ct + 8⟩ := by
  intro M0 w0 M J tm w inv
  have hqr : q ≠ r := by rintro rfl; rw [hr] at hg; cases hg
  have hct : J ct = none := by
    cases h : J ct with
    | none => rfl
    | some L => exact absurd (inv.vers ct L h) (Nat.lt_irrefl _)
  let J' : Locs := fun x => if x = ct then some ⟨0, 0, sz, true⟩ else J x
  have hJ : ∀ q L, J q = some L → J' q = some L := by
    intro q L h
    show (if q = ct then _ else J q) = _
    rw [if_neg (by rintro rfl; rw [hct] at h; cases h)]; exact h
  have hc : J' ct = some ⟨0, 0, sz, true⟩ := if_pos rfl
  have hold : ∀ q k L, get hp q = some k → J' k.ver = some L → J k.ver = some L := by
    intro q k L h hL
    obtain ⟨L1, C1, a1, _⟩ := inv.heap q k h
    rw [hJ _ _ a1] at hL; rw [a1, hL]
  have hcase : ∀ p k, get ((q, (⟨n0, ty0, v0, 0, true, [cs.set j0 (.own r ct 0 0)]⟩ : Blk)) :: (r, (⟨sz, ty, ct, 0, false, []⟩ : Blk)) :: hp) p = some k →
      (p = q ∧ k = ⟨n0, ty0, v0, 0, true, [cs.set j0 (.own r ct 0 0)]⟩) ∨ (p = r ∧ k = ⟨sz, ty, ct, 0, false, []⟩) ∨ (p ≠ q ∧ p ≠ r ∧ get hp p = some k) := by
    intro p k hk
    rw [get_cons] at hk
    split at hk
    · rename_i e; exact .inl ⟨e, (Option.some.inj hk).symm⟩
    · rename_i e
      rw [get_cons] at hk
      split at hk
      · rename_i e2; exact .inr (.inl ⟨e2, (Option.some.inj hk).symm⟩)
      · rename_i e2; exact .inr (.inr ⟨e, e2, hk⟩)
  have f : ∀ p k L, get ((q, (⟨n0, ty0, v0, 0, true, [cs.set j0 (.own r ct 0 0)]⟩ : Blk)) :: (r, (⟨sz, ty, ct, 0, false, []⟩ : Blk)) :: hp) p = some k → J' k.ver = some L → L.nil = false →
      ∃ k0, get hp p = some k0 ∧ J k0.ver = some L ∧ k0.frz = k.frz ∧ k0.sz = k.sz := by
    intro p k L hk hL hN
    rcases hcase p k hk with ⟨rfl, rfl⟩ | ⟨rfl, rfl⟩ | ⟨_, _, h⟩
    · exact ⟨_, hg, hold _ _ L hg hL, rfl, rfl⟩
    · rw [hc] at hL; obtain rfl := Option.some.inj hL; cases hN
    · exact ⟨k, h, hold p k L h hL, rfl, rfl⟩
  refine ⟨M, J', inv.below, inv.mem, inv.newM, inv.oldM, inv.glob, ?_, ?_, ?_, ?_, ?_, fun q L h => hJ _ _ (inv.oldJ q L h), inv.far⟩
  · intro t' x hx
    obtain ⟨u, h1, h2⟩ := inv.slot t' x hx
    exact ⟨u, h1, h2.mono (fun _ _ _ h => h) hJ⟩
  · intro p k hk
    rcases hcase p k hk with ⟨rfl, rfl⟩ | ⟨rfl, rfl⟩ | ⟨_, _, h⟩
    · obtain ⟨L, C, h1, h2, h3⟩ := inv.heap p _ hg
      refine ⟨L, C, hJ _ _ h1, h2, h3.blk, h3.none, h3.size, h3.fits, h3.frz, h3.sz, fun i e h => ?_, fun i e j c h h' => ?_, h3.cap⟩
      · cases i with
        | zero => simp at h; subst h; rw [List.length_set]; exact h3.len 0 cs rfl
        | succ i => simp at h
      · cases i with
        | succ i => simp at h
        | zero =>
          simp at h; subst h
          rw [List.getElem?_set] at h'
          split at h'
          · rename_i e
            subst e
            split at h'
            · obtain rfl := Option.some.inj h'
              obtain ⟨u, u1, u2, u3⟩ := h3.cell 0 cs j0 nilA rfl hn
              refine ⟨u, u1, u2, ?_⟩
              have u4 : Rel M J nilA u := u3.rel
              obtain rfl := u4.v_inv
              exact .own hc (Nat.le_refl _) (fun _ => rfl) (fun h => by cases h) rfl
            · cases h'
          · obtain ⟨u, u1, u2, u3⟩ := h3.cell 0 cs j c rfl h'
            exact ⟨u, u1, u2, u3.mono (fun _ _ _ h => h) hJ⟩
    · refine ⟨⟨0, 0, sz, true⟩, #[], hc, fun h => Bool.noConfusion h, ⟨fun h => Bool.noConfusion h, fun _ => rfl, ?_, Nat.le_refl _, Nat.le_refl _, rfl, fun i e h => ?_, fun i e j c h => ?_, Nat.zero_le _⟩⟩
      · show 0 = 0 * sz; omega
      · cases h
      · cases h
    · obtain ⟨L, C, h1, h2, h3⟩ := inv.heap p k h
      exact ⟨L, C, hJ _ _ h1, h2, h3.blk, h3.none, h3.size, h3.fits, h3.frz, h3.sz, h3.len, fun i e j c h h' => by
        obtain ⟨u, u1, u2, u3⟩ := h3.cell i e j c h h'
        exact ⟨u, u1, u2, u3.mono (fun _ _ _ h => h) hJ⟩, h3.cap⟩
  · intro p p' k k' L L' hk hk' hL hL' hN hN' hne
    obtain ⟨k1, a1, a2, _⟩ := f p k L hk hL hN
    obtain ⟨k2, b1, b2, _⟩ := f p' k' L' hk' hL' hN'
    exact inv.apart p p' k1 k2 L L' a1 b1 a2 b2 hN hN' hne
  · intro p k L o u hk hL hN hu
    obtain ⟨k1, a1, a2, a3, a4⟩ := f p k L hk hL hN
    have := inv.owns p k1 L o u a1 a2 hN hu
    rw [a3, a4] at this; exact this
  · intro q L h
    have h : (if q = ct then some ⟨0, 0, sz, true⟩ else J q) = some L := h
    split at h
    · rename_i e; subst e; show q < q + 8; omega
    · exact Nat.lt_of_lt_of_le (inv.vers q L h) (Nat.le_add_right ct 8)
theorem nil_cell {E : Env} {nt : Nat} (q r sz ty j0 : Nat) {c : CC} {K : Exit → St → Prop} {sl : List (Nat × AV)} {hp : List (Nat × Blk)} {ct v0 ty0 n0 : Nat} {cs : List AV} (hg : get hp q = some ⟨n0, ty0, v0, 0, true, [cs]⟩) (hn : cs[j0]? = some nilA) (hr : get hp r = none)
    (h : Wp E nt c K ⟨sl, (q, ⟨n0, ty0, v0, 0, true, [cs.set j0 (.own r ct 0 0)]⟩) :: (r, ⟨sz, ty, ct, 0, false, []⟩) :: hp, ct + 8⟩) : Wp E nt c K ⟨sl, hp, ct⟩ := WPk.ghost (Gh_cell hg hn hr) h
end Ev
structure CI (C : List Sp) (k : Nat) (x y out : List Sp) : Prop where
  len : x.length + y.length ≤ k
  ax : AllOK x
  ay : AllOK y
  fx : Ful x
  fy : Ful y
  ho : outM (mks x) = inM (mks y)
  eq : out ++ cmpS k x y = C
  bl : out.length + (x.length + y.length) ≤ 20000000
  bt : tbs x + tbs y ≤ 1000000000
theorem CI.fin {C : List Sp} {k : Nat} {out : List Sp} (h : CI C k [] [] out) : out = C := by
  have := h.eq
  cases k <;> simpa [cmpS] using this
theorem CI.vk {C : List Sp} {k : Nat} {v : Sp} {y out : List Sp} (h : CI C k [] (v :: y) out) : v.k = 2 := by
  have ho := h.ho
  rw [mks_cons, inM_app, mks_nil] at ho
  simp only [outM] at ho
  refine Decidable.byContradiction fun hk => ?_
  have h1 := (atS_size h.ay.head).1
  have h2 := szS_pos h.ay.head (h.fy v (by simp))
  rw [szS_not hk] at h2
  rcases span_at h.ay.head with ⟨a, _⟩ | ⟨a, b, c, d⟩
  · exact hk a
  · omega
theorem CI.uk {C : List Sp} {k : Nat} {u : Sp} {x out : List Sp} (h : CI C k (u :: x) [] out) : u.k = 3 := by
  have ho := h.ho
  rw [mks_cons, outM_app, mks_nil] at ho
  simp only [inM] at ho
  have h2 := szS_pos h.ax.head (h.fx u (by simp))
  have h3 := szS_len h.ax.head
  refine Decidable.byContradiction fun hk => ?_
  have h4 := atS_take h.ax.head (Nat.le_refl (szS u))
  rw [List.take_of_length_le (by omega)] at h4
  rcases h4 with ⟨_, e⟩ | ⟨a, _⟩ | ⟨_, l, e1, e2⟩
  · rw [e] at ho; have := (rep_keep (szS u)).2; omega
  · exact hk a
  · rw [e2] at ho; have := (map_put l).2; omega
theorem CI.s1 {C : List Sp} {k : Nat} {v : Sp} {x y out : List Sp} (h : CI C k x (v :: y) out) (hv : v.k = 2) : ∃ k', k = k' + 1 ∧ CI C k' x y (out ++ [v]) := by
  have hl := h.len
  simp only [List.length_cons] at hl
  obtain ⟨k', rfl⟩ : ∃ k', k = k' + 1 := ⟨k - 1, by omega⟩
  have ho := h.ho
  have hb := h.bt
  have hbl := h.bl
  have hv0 := put_in hv
  rw [mks_cons v, inM_app] at ho
  rw [tbs_cons v] at hb
  simp only [List.length_cons] at hbl
  refine ⟨k', rfl, by omega, h.ax, h.ay.tail, h.fx, h.fy.tail, by omega, ?_, by simp; omega, by omega⟩
  rw [← h.eq]
  cases x with
  | nil => simp only [cmpS]; rw [if_pos hv]; simp
  | cons u x => simp only [cmpS]; rw [if_pos hv]; simp
theorem CI.s2 {C : List Sp} {k : Nat} {u : Sp} {x y out : List Sp} (h : CI C k (u :: x) y out) (hu : u.k = 3) (hv : ∀ v ∈ y.head?, v.k ≠ 2) : ∃ k', k = k' + 1 ∧ CI C k' x y (out ++ [u]) := by
  have hl := h.len
  simp only [List.length_cons] at hl
  obtain ⟨k', rfl⟩ : ∃ k', k = k' + 1 := ⟨k - 1, by omega⟩
  have ho := h.ho
  have hb := h.bt
  have hbl := h.bl
  have hu0 := drop_out hu
  rw [mks_cons u, outM_app] at ho
  rw [tbs_cons u] at hb
  simp only [List.length_cons] at hbl
  refine ⟨k', rfl, by omega, h.ax.tail, h.ay, h.fx.tail, h.fy, by omega, ?_, by simp; omega, by omega⟩
  rw [← h.eq]
  cases y with
  | nil => simp only [cmpS]; simp
  | cons v y => simp only [cmpS]; rw [if_neg (hv v (by simp)), if_pos hu]; simp
theorem CI.s3 {C : List Sp} {k n : Nat} {u v : Sp} {x y out : List Sp} (h : CI C k (u :: x) (v :: y) out) (hv2 : v.k ≠ 2) (hu3 : u.k ≠ 3) (hn : min (szS u) (szS v) = n) :
    n ≤ szS u ∧ n ≤ szS v ∧ ∃ k', k = k' + 1 ∧ CI C k' (lessS u n x) (lessS v n y) (out ++ if v.k = 1 then [fstS u n] else if u.k = 1 then [fstS v n] else []) := by
  have hl := h.len
  simp only [List.length_cons] at hl
  obtain ⟨k', rfl⟩ : ∃ k', k = k' + 1 := ⟨k - 1, by omega⟩
  have hn1 : n ≤ szS u := by omega
  have hn2 : n ≤ szS v := by omega
  have hone : szS u = n ∨ szS v = n := by omega
  have hx := h.ax
  have hy := h.ay
  have ho := h.ho
  have hb := h.bt
  have hbl := h.bl
  simp only [List.length_cons] at hbl
  obtain ⟨a1, a2, a3, a4, a5⟩ := lessS_ok hx.head hx.tail hn1
  obtain ⟨b1, b2, b3, b4, b5⟩ := lessS_ok hy.head hy.tail hn2
  have mx := cut_marks hx.head hx.tail hn1
  have my := cut_marks hy.head hy.tail hn2
  have hlen : (lessS u n x).length + (lessS v n y).length ≤ x.length + y.length + 1 := by
    rcases hone with h | h
    · have := a4 h; omega
    · have := b4 h; omega
  have hom : outM ((atS u).take n) = n ∧ inM ((atS v).take n) = n := by
    refine ⟨?_, ?_⟩
    · rcases atS_take hx.head hn1 with ⟨_, e⟩ | ⟨e, _⟩ | ⟨_, l, e1, e2⟩
      · rw [e]; exact (rep_keep n).2
      · exact absurd e hu3
      · rw [e2, ← e1]; exact (map_put l).2
    · rcases atS_take hy.head hn2 with ⟨_, e⟩ | ⟨_, e⟩ | ⟨e, _⟩
      · rw [e]; exact (rep_keep n).1
      · rw [e]; exact (rep_drop n).1
      · exact absurd e hv2
  rw [mx, my, outM_app, inM_app] at ho
  rw [tbs_cons, tbs_cons v] at hb
  refine ⟨hn1, hn2, k', rfl, by omega, a1, b1, lessS_ful hx.head h.fx.tail hn1, lessS_ful hy.head h.fy.tail hn2, by omega, ?_, ?_, by omega⟩
  · rw [← h.eq]
    simp only [cmpS]
    rw [if_neg hv2, if_neg hu3, hn, List.append_assoc]
  · have : (if v.k = 1 then [fstS u n] else if u.k = 1 then [fstS v n] else []).length ≤ 1 := by split <;> (try split) <;> simp
    rw [List.length_append]; omega
theorem fstS_all {s : Sp} (h : SpOK s) : fstS s (szS s) = s := by
  rcases h.cases with ⟨a, b, c, d⟩ | ⟨a, b, c⟩
  · rw [fstS_not _ (by omega), szS_not (by omega)]
    obtain ⟨k, n, t⟩ := s
    simp only at b d ⊢
    subst d
    have : ((n.toNat : Nat) : Int) = n := by omega
    rw [this]
  · have e : fstS s (szS s) = ⟨2, 0, txt ((pts s.t.data.toList).take (szS s))⟩ := if_pos a
    rw [e, szS_put a, List.take_length, txt_pts c]
    obtain ⟨k, n, t⟩ := s
    simp only at a b ⊢
    subst a; subst b; rfl
theorem lessS_all (s : Sp) (l : List Sp) : lessS s (szS s) l = l := if_pos rfl
structure OI (C : List Sp) (k : Nat) (x y out : List Sp) : Prop where
  len : x.length + y.length ≤ k
  ax : AllOK x
  ay : AllOK y
  fx : Ful x
  fy : Ful y
  ho : inM (mks x) = inM (mks y)
  hb : outM (mks y) ≤ 1048576
  eq : out ++ ovrS k x y = C
  bl : out.length + (x.length + y.length) ≤ 20000000
  bt : tbs x + tbs y ≤ 1000000000
theorem OI.fin {C : List Sp} {k : Nat} {out : List Sp} (h : OI C k [] [] out) : out = C := by
  have := h.eq
  cases k <;> simpa [ovrS] using this
theorem in_put {v : Sp} {l : List Sp} (hv : SpOK v) (hf : emptyS v = false) (h : inM (mks (v :: l)) = 0) : v.k = 2 := by
  rw [mks_cons, inM_app] at h
  refine Decidable.byContradiction fun hk => ?_
  have h1 := (atS_size hv).1
  have h2 := szS_pos hv hf
  rw [szS_not hk] at h2
  rcases span_at hv with ⟨a, _⟩ | ⟨a, b, c, d⟩
  · exact hk a
  · omega
theorem OI.vk {C : List Sp} {k : Nat} {v : Sp} {y out : List Sp} (h : OI C k [] (v :: y) out) : v.k = 2 :=
  in_put (l := y) h.ay.head (h.fy v (by simp)) (by have := h.ho; rw [mks_nil] at this; simp only [inM] at this; omega)
theorem OI.uk {C : List Sp} {k : Nat} {u : Sp} {x out : List Sp} (h : OI C k (u :: x) [] out) : u.k = 2 :=
  in_put (l := x) h.ax.head (h.fx u (by simp)) (by have := h.ho; rw [mks_nil] at this; simp only [inM] at this; omega)
theorem OI.s1 {C : List Sp} {k : Nat} {v : Sp} {x y out : List Sp} (h : OI C k x (v :: y) out) (hv : v.k = 2) : ∃ k', k = k' + 1 ∧ OI C k' x y (out ++ [kpO v]) := by
  have hl := h.len
  simp only [List.length_cons] at hl
  obtain ⟨k', rfl⟩ : ∃ k', k = k' + 1 := ⟨k - 1, by omega⟩
  have ho := h.ho
  have hb := h.bt
  have hbl := h.bl
  have hq := h.hb
  have hv0 := put_in hv
  rw [mks_cons v, inM_app] at ho
  rw [mks_cons v, outM_app] at hq
  rw [tbs_cons v] at hb
  simp only [List.length_cons] at hbl
  refine ⟨k', rfl, by omega, h.ax, h.ay.tail, h.fx, h.fy.tail, by omega, by omega, ?_, by simp; omega, by omega⟩
  rw [← h.eq]
  cases x with
  | nil => simp only [ovrS]; rw [if_pos hv]; simp
  | cons u x => simp only [ovrS]; rw [if_pos hv]; simp
theorem OI.s2 {C : List Sp} {k : Nat} {u : Sp} {x y out : List Sp} (h : OI C k (u :: x) y out) (hu : u.k = 2) (hv : ∀ v ∈ y.head?, v.k ≠ 2) : ∃ k', k = k' + 1 ∧ OI C k' x y (out ++ [u]) := by
  have hl := h.len
  simp only [List.length_cons] at hl
  obtain ⟨k', rfl⟩ : ∃ k', k = k' + 1 := ⟨k - 1, by omega⟩
  have ho := h.ho
  have hb := h.bt
  have hbl := h.bl
  have hu0 := put_in hu
  rw [mks_cons u, inM_app] at ho
  rw [tbs_cons u] at hb
  simp only [List.length_cons] at hbl
  refine ⟨k', rfl, by omega, h.ax.tail, h.ay, h.fx.tail, h.fy, by omega, h.hb, ?_, by simp; omega, by omega⟩
  rw [← h.eq]
  cases y with
  | nil => simp only [ovrS]; simp
  | cons v y => simp only [ovrS]; rw [if_neg (hv v (by simp)), if_pos hu]; simp
theorem OI.s3 {C : List Sp} {k n : Nat} {u v : Sp} {x y out : List Sp} (h : OI C k (u :: x) (v :: y) out) (hv2 : v.k ≠ 2) (hu2 : u.k ≠ 2) (hn : min (szS u) (szS v) = n) :
    n ≤ szS u ∧ n ≤ szS v ∧ ∃ k', k = k' + 1 ∧ OI C k' (lessS u n x) (lessS v n y) (out ++ if v.k = 1 then [fstS u n] else []) := by
  have hl := h.len
  simp only [List.length_cons] at hl
  obtain ⟨k', rfl⟩ : ∃ k', k = k' + 1 := ⟨k - 1, by omega⟩
  have hn1 : n ≤ szS u := by omega
  have hn2 : n ≤ szS v := by omega
  have hone : szS u = n ∨ szS v = n := by omega
  have hx := h.ax
  have hy := h.ay
  have ho := h.ho
  have hb := h.bt
  have hbl := h.bl
  have hq := h.hb
  simp only [List.length_cons] at hbl
  obtain ⟨a1, a2, a3, a4, a5⟩ := lessS_ok hx.head hx.tail hn1
  obtain ⟨b1, b2, b3, b4, b5⟩ := lessS_ok hy.head hy.tail hn2
  have mx := cut_marks hx.head hx.tail hn1
  have my := cut_marks hy.head hy.tail hn2
  have hlen : (lessS u n x).length + (lessS v n y).length ≤ x.length + y.length + 1 := by
    rcases hone with h | h
    · have := a4 h; omega
    · have := b4 h; omega
  have one : ∀ {s : Sp}, SpOK s → s.k ≠ 2 → n ≤ szS s → inM ((atS s).take n) = n := by
    intro s hs hk hn
    rcases atS_take hs hn with ⟨_, e⟩ | ⟨_, e⟩ | ⟨e, _⟩
    · rw [e]; exact (rep_keep n).1
    · rw [e]; exact (rep_drop n).1
    · exact absurd e hk
  have o1 := one hx.head hu2 hn1
  have o2 := one hy.head hv2 hn2
  rw [mx, my, inM_app, inM_app] at ho
  rw [my, outM_app] at hq
  rw [tbs_cons, tbs_cons v] at hb
  refine ⟨hn1, hn2, k', rfl, by omega, a1, b1, lessS_ful hx.head h.fx.tail hn1, lessS_ful hy.head h.fy.tail hn2, by omega, by omega, ?_, ?_, by omega⟩
  · rw [← h.eq]
    simp only [ovrS]
    rw [if_neg hv2, if_neg hu2, hn, List.append_assoc]
  · have : (if v.k = 1 then [fstS u n] else []).length ≤ 1 := by split <;> simp
    rw [List.length_append]; omega
theorem rdX {N nm ct : Nat} {hp : List (Nat × Blk)} {K : AV → List (Nat × Blk) → Nat → Prop} {f : FuncId} {args : List AV} (B R : Nat) (F : List (Nat × Blk)) {va wa : Nat} {S : List Sp} {off n : Nat} {tx : AV} {P : AV → Nat → List Sp → Nat → Nat → AV → Prop} (hne : B ≠ R)
    (hc : HCallW env N f (.ptr 5128 va 0 0 :: args) (rdH va wa S off n tx) fun r hp1 => ∃ S' off' n' tx', hp1 = rdH va wa S' off' n' tx' ∧ P r wa S' off' n' tx')
    (hs : subs hp (rdG B R va wa S off n tx)) (hF : subs hp F) (hB : get F B = none) (hR : get F R = none)
    (hk : ∀ r S' off' n' tx', P r wa S' off' n' tx' → ∀ c', ct + 8 ≤ c' → K r (rdG B R va wa S' off' n' tx' ++ F) c') : Ev.HCallX env nm f (.ptr B va 0 0 :: args) hp ct K := by
  have out : ∀ (S : List Sp) (off n : Nat) (tx : AV) (r : Nat), get (rdG B R va wa S off n tx) r ≠ none → get F r = none := by
    intro S off n tx r h
    cases hg : get (rdG B R va wa S off n tx) r with
    | none => exact absurd hg h
    | some k => rcases rdG_get hg with ⟨rfl, _⟩ | ⟨rfl, _⟩ <;> assumption
  refine Ev.hcall_frame F (hcall_rd B R hne hc) rfl hs hF (out S off n tx) ?_
  rintro r hp1 ⟨S', off', n', tx', rfl, h⟩
  exact ⟨out S' off' n' tx', hk r S' off' n' tx' h⟩
theorem subs_rd {vb w : Nat} {E : List Sp} {off n : Nat} {tx : AV} : subs (rdH vb w E off n tx) (rdH vb w E off n tx) := ⟨Ev.slot_eq rfl rfl, Ev.slot_eq rfl rfl, trivial⟩
theorem kindX {nm ct : Nat} {hp : List (Nat × Blk)} {K : AV → List (Nat × Blk) → Nat → Prop} (B R : Nat) (F : List (Nat × Blk)) {va wa : Nat} {x S : List Sp} {off : Nat} (h : RdR x S off) (hne : B ≠ R)
    (hs : subs hp (rdG B R va wa S off x.length (txA x))) (hF : subs hp F) (hB : get F B = none) (hR : get F R = none)
    (hk : ∀ c', ct + 8 ≤ c' → K (.v (.int .i64 (kdS x))) (rdG B R va wa S off x.length (txA x) ++ F) c') : Ev.HCallX env nm 154 [.ptr B va 0 0] hp ct K := by
  refine rdX (P := fun r w S' off' n' tx' => r = .v (.int .i64 (kdS x)) ∧ S' = S ∧ off' = off ∧ n' = x.length ∧ tx' = txA x) B R F hne (hcall_sub (crkind_call va wa h) ?_) hs hF hB hR ?_
  · rintro r hp1 ⟨rfl, rfl⟩
    exact ⟨_, ⟨S, off, _, _, rfl, rfl, rfl, rfl, rfl, rfl⟩, subs_rd⟩
  · rintro r S' off' n' tx' ⟨rfl, rfl, rfl, rfl, rfl⟩
    exact hk
theorem sizeX {nm ct : Nat} {hp : List (Nat × Blk)} {K : AV → List (Nat × Blk) → Nat → Prop} (B R : Nat) (F : List (Nat × Blk)) {va wa : Nat} {s : Sp} {l S : List Sp} {off : Nat} (h : RdR (s :: l) S off) (hok : SpOK s) (ht : s.t.size ≤ 1000000000) (hne : B ≠ R)
    (hs : subs hp (rdG B R va wa S off (l.length + 1) (txA (s :: l)))) (hF : subs hp F) (hB : get F B = none) (hR : get F R = none)
    (hk : ∀ c', ct + 8 ≤ c' → K (.v (.int .i64 (szS s))) (rdG B R va wa S off (l.length + 1) (txA (s :: l)) ++ F) c') : Ev.HCallX env nm 156 [.ptr B va 0 0] hp ct K := by
  refine rdX (P := fun r w S' off' n' tx' => r = .v (.int .i64 (szS s)) ∧ S' = S ∧ off' = off ∧ n' = l.length + 1 ∧ tx' = txA (s :: l)) B R F hne (hcall_sub (crsize_call va wa h hok ht) ?_) hs hF hB hR ?_
  · rintro r hp1 ⟨rfl, rfl⟩
    exact ⟨_, ⟨S, off, _, _, rfl, rfl, rfl, rfl, rfl, rfl⟩, subs_rd⟩
  · rintro r S' off' n' tx' ⟨rfl, rfl, rfl, rfl, rfl⟩
    exact hk
theorem takeX {nm ct m : Nat} {mi : Int} {hp : List (Nat × Blk)} {K : AV → List (Nat × Blk) → Nat → Prop} (B R : Nat) (F : List (Nat × Blk)) {va wa : Nat} {s : Sp} {l S : List Sp} {off : Nat} (h : RdR (s :: l) S off) (hok : SpOK s) (ht : tbs (s :: l) ≤ 1000000000) (hm : m ≤ szS s) (hmi : mi = (m : Int)) (hne : B ≠ R)
    (hs : subs hp (rdG B R va wa S off (l.length + 1) (txA (s :: l)))) (hF : subs hp F) (hB : get F B = none) (hR : get F R = none)
    (hk : ∀ S' off', RdR (lessS s m l) S' off' → ∀ c', ct + 8 ≤ c' → K (spanA (fstS s m).k (fstS s m).n (fstS s m).t) (rdG B R va wa S' off' (lessS s m l).length (txA (lessS s m l)) ++ F) c') : Ev.HCallX env nm 155 [.ptr B va 0 0, .v (.int .i64 mi)] hp ct K := by
  subst hmi
  refine rdX (P := fun r w S' off' n' tx' => r = spanA (fstS s m).k (fstS s m).n (fstS s m).t ∧ RdR (lessS s m l) S' off' ∧ n' = (lessS s m l).length ∧ tx' = txA (lessS s m l)) B R F hne (hcall_sub (crtake_call va wa h hok ht hm) ?_) hs hF hB hR ?_
  · rintro r hp1 ⟨E', off', rfl, rfl, hR'⟩
    exact ⟨_, ⟨E', off', _, _, rfl, rfl, hR', rfl, rfl⟩, subs_rd⟩
  · rintro r S' off' n' tx' ⟨rfl, hR', rfl, rfl⟩
    exact hk S' off' hR'
end Go.Proofs.YtadlnaljicikfaaDoor.Abs
namespace Go.Proofs.YtadlnaljicikfaaDoor.Abs
open Go
set_option maxRecDepth 100000
attribute [local irreducible] Ev.Unr Ev.Go' Ev.bytK Ev.runK Ev.FinL Ev.brC Ev.Side Ev.Wp Ev.Again Ev.To Ev.Fin
open Go.Lib Go.RowKit
theorem comp113 : ∀ c, Tryd.f113.body = some c → comp c = (.seq (.reg 0 [I.n 0 4 I.sn, I.n 1 5 (I.si 0)]) (.scope (.seq (.seq (.reg 1 [I.n 0 15 (I.mv 0), I.n 1 16 (I.mv 1), I.n 2 17 (.buildSlice 22 2 #[(0, .tmp 15), (1, .tmp 16)]), I.n 3 18 (I.ln 17 22), I.n 4 19 (.move (.const (Value.int .i64 0)))]) (.block 0 (.loop (.seq (.reg 2 [I.n 0 20 (I.bo .lss 3 19 18 3)]) (.seq (.cond (.tmp 20) .skip (.exit 0)) (.seq (.block 1 (.seq (.reg 3 [I.n 0 21 (I.ia 22 17 19), I.n 1 22 (I.ld 23 21), I.n 2 7 (I.sa 22)]) (.seq (.reg 4 [I.n 0 23 (I.mv 7), I.n 1 24 (I.c1 72 23 23), I.n 2 8 (I.sa 24)]) (.seq (.reg 5 [I.n 0 25 (I.mv 8), I.n 1 26 (I.bc .neq 30 25 0 30)]) (.cond (.tmp 26) (.seq (.reg 6 [I.n 0 27 (I.mv 8), I.n 1 4 I.sn, I.n 2 5 (I.sa 27)]) .ret) .skip))))) (.reg 7 [I.n 0 28 (I.bc .add 3 19 1 3), I.n 1 19 (I.mv 28)]))))))) (.seq (.seq (.reg 8 [I.n 0 29 (I.mv 0), I.n 1 30 (I.c1 73 29 23), I.n 2 31 (I.mv 1), I.n 3 32 (I.c1 74 31 23), I.n 4 33 (I.bo .neq 3 30 32 3)]) (.cond (.tmp 33) (.seq (.reg 9 [I.n 0 4 I.sn, I.n 1 5 (I.si 5)]) .ret) .skip)) (.seq (.reg 10 [I.n 0 34 (I.mv 0), I.n 1 35 (I.c1 153 34 23), I.n 2 36 (I.mv 1), I.n 3 37 (I.c1 153 36 23), I.n 4 9 (I.sa 35), I.n 5 10 (I.sa 37)]) (.seq (.reg 11 [I.n 0 11 I.sn]) (.seq (.label 0) (.seq (.block 2 (.loop (.block 3 (.seq (.block 4 (.seq (.reg 12 [I.n 0 39 (I.mv 10), I.n 1 40 (I.c1 154 39 164), I.n 2 41 (I.bc .eql 3 40 2 3), I.n 3 38 (I.sa 41)]) (.cond (.tmp 38) (.seq (.reg 13 [I.n 0 42 (I.mv 11), I.n 1 43 (I.mv 10), I.n 2 44 (I.mv 10), I.n 3 45 (I.c1 156 44 164), I.n 4 46 (I.c2 155 43 45 164 3), I.n 5 47 (I.b1 23 46), I.n 6 48 (I.ap 42 47 23 23), I.n 7 11 (I.sa 48)]) (.exit 3)) (.seq (.reg 14 [I.n 0 50 (I.mv 9), I.n 1 51 (I.c1 154 50 164), I.n 2 52 (I.bc .eql 3 51 3 3), I.n 3 49 (I.sa 52)]) (.cond (.tmp 49) (.seq (.reg 15 [I.n 0 53 (I.mv 11), I.n 1 54 (I.mv 9), I.n 2 55 (I.mv 9), I.n 3 56 (I.c1 156 55 164), I.n 4 57 (I.c2 155 54 56 164 3), I.n 5 58 (I.b1 23 57), I.n 6 59 (I.ap 53 58 23 23), I.n 7 11 (I.sa 59)]) (.exit 3)) (.seq (.reg 16 [I.n 0 61 (I.mv 9), I.n 1 62 (I.c1 154 61 164), I.n 2 63 (I.bc .eql 3 62 0 3), I.n 3 64 (I.mv 63), I.w 4 65 (I.mv 10) 64 false, I.w 5 66 (I.c1 154 65 164) 64 false, I.w 6 67 (I.bc .eql 3 66 0 3) 64 false, I.n 7 68 (I.pb 64 true 67), I.n 8 60 (I.sa 68)]) (.cond (.tmp 60) (.exit 2) .skip))))))) (.seq (.reg 17 [I.n 0 69 (I.mv 9), I.n 1 70 (I.c1 156 69 164), I.n 2 71 (I.mv 10), I.n 3 72 (I.c1 156 71 164), I.n 4 73 (.call { callee := .builtin .min, args := #[.tmp 70, .tmp 72], argTypes := #[3, 3] }), I.n 5 12 (I.sa 73)]) (.seq (.reg 18 [I.n 0 74 (I.mv 9), I.n 1 75 (I.mv 12), I.n 2 76 (I.c2 155 74 75 164 3), I.n 3 77 (I.mv 10), I.n 4 78 (I.mv 12), I.n 5 79 (I.c2 155 77 78 164 3), I.n 6 13 (.alloc 35), I.n 7 14 (.alloc 35), I.u 8 (I.st 35 13 76), I.u 9 (I.st 35 14 79)]) (.block 5 (.seq (.reg 19 [I.n 0 81 (I.fa 35 14 0), I.n 1 82 (I.ld 3 81), I.n 2 83 (I.bc .eql 3 82 1 3), I.n 3 80 (I.sa 83)]) (.cond (.tmp 80) (.reg 20 [I.n 0 84 (I.mv 11), I.n 1 85 (I.ld 35 13), I.n 2 86 (I.b1 23 85), I.n 3 87 (I.ap 84 86 23 23), I.n 4 11 (I.sa 87)]) (.seq (.reg 21 [I.n 0 89 (I.fa 35 13 0), I.n 1 90 (I.ld 3 89), I.n 2 91 (I.bc .eql 3 90 1 3), I.n 3 88 (I.sa 91)]) (.cond (.tmp 88) (.reg 22 [I.n 0 92 (I.mv 11), I.n 1 93 (I.ld 35 14), I.n 2 94 (I.b1 23 93), I.n 3 95 (I.ap 92 94 23 23), I.n 4 11 (I.sa 95)]) .skip))))))))))) (.seq (.reg 23 [I.n 0 96 (I.mv 11), I.n 1 97 (I.c1 35 96 23), I.n 2 4 (I.sa 97), I.n 3 5 (I.si 0)]) .ret))))))))) := by
  intro c h
  have : c = Tryd.f113.body.get rfl := by rw [← Option.some_inj, ← h]; rfl
  rw [this]; rfl
theorem outS_leB : ∀ l : List Sp, AllOK l → 0 ≤ sumI outS l ∧ sumI outS l ≤ sumI inS l + tbs l
  | [], _ => by simp [sumI, tbs]
  | s :: l, h => by
    obtain ⟨i1, i2⟩ := outS_leB l h.tail
    rw [sumI_cons, sumI_cons, tbs_cons]
    have e := atS_size h.head
    have e3 := h.head.inS
    have hp := pts_len s.t.data.toList
    rw [len_list] at hp
    have : 0 ≤ outS s ∧ outS s ≤ inS s + s.t.size := by
      rw [← e.2]
      rcases h.head.cases with ⟨a | a, b, c, d⟩ | ⟨a, b, c⟩
      · rw [atS_keep a] at e ⊢; have := (rep_keep s.n.toNat).2; have := (rep_keep s.n.toNat).1; omega
      · rw [atS_drop a]; have := (rep_drop s.n.toNat).2; omega
      · rw [atS_put a]; have := (map_put (pts s.t.data.toList)).2; omega
    omega
theorem txA_shift (l : List Sp) (nm ver : Nat) : shift nm ver (txA l) = txA l := by cases l <;> rfl
set_option maxHeartbeats 4000000 in
theorem cmp_ok (a b : List Sp) (la : a.length ≤ 10000000) (lb : b.length ≤ 10000000) (ta : tbs a ≤ 100000000) (tb : tbs b ≤ 100000000) (sa : Small a) (sb : Small b) (ma : opMayF a = 0) (mb : opMayF b = 0)
    (ho : sumW (fun s => outF s.k s.n s.t) a = sumW (fun s => inF s.k s.n) b) : CallW env 113 [.lst 3 (sps a), .lst 3 (sps b)] (fun r hs => r = .tup [.lst 3 (sps (cmpO a b)), .v (.int .i64 0)] ∧ hs = []) := by
  have hA := opMay_call a (by omega) sa
  have hB := opMay_call b (by omega) sb
  rw [ma] at hA
  rw [mb] at hB
  have hO := opOut_call a (by omega) sa
  have hIn := opIn_call b (by omega)
  have oa := (OpS.of ma (by omega)).1
  have ob := (OpS.of mb (by omega)).1
  have na := oa.norm
  have nb := ob.norm
  have ho' : sumI outS a = sumI inS b := by
    have h1 := (OpS.of mb (by omega)).2
    have h2 := outW_eq a
    have h3 := outS_leB a oa.all
    have h4 := oa.bnd
    rw [wrap_id (by omega)] at h2
    rw [← h2, ← h1]; exact ho
  have hco := cmpO_all oa ob ho'
  have hmm : outM (mks (norm a)) = inM (mks (norm b)) := by
    have e1 := mks_size oa.all
    have e2 := mks_size ob.all
    rw [na.2.2.1, nb.2.2.1]; omega
  refine Ev.fn [0, 1, 4, 5, 7, 8, 9, 10, 11, 12, 13, 14, 17, 18, 19, 20, 26, 33, 38, 49, 60, 80, 88] 0 [.tmp 4, .tmp 5] Tryd.func113 (comp113 _ rfl) ?_
  repeat' (first | ((refine Ev.sw ?_); conv => whnf) | refine Ev.sn ?_ | ((with_reducible refine Ev.chk_k ?_ ?_); rotate_left; exact Ev.bt; conv => whnf) | ((with_reducible (refine Ev.RI.run ?_; constructor)) <;> intro _) | ((refine Ev.sg ?_); conv => whnf) | ((with_reducible refine Ev.sided ?_ ?_); conv => whnf) | ((with_reducible refine Ev.kr (hs := []) (fun Q hQ => ?_)); (simp only [Ev.runE_cons, Ev.runE_nil]); conv => whnf) | (with_reducible refine hQ _ ?_; clear hQ Q) | ((refine Ev.sf ?_); intro F hF; conv => whnf) | (with_reducible refine hF _ ?_; clear hF F) | ((with_reducible refine Ev.go_k (fun c' => ?_)); conv => whnf) | ((first | refine Ev.el_map0 ?_ (fun hi => ?_) | refine Ev.el_mapN ?_ (fun hi => ?_)); rotate_left; conv => whnf) | ((with_reducible refine Ev.sd0 ?_); exact Ev.sd) | fail)
  refine Ev.jumps (r := ?_) 0 (fun k s => False) (by rfl) ?_ (fun _ _ h => h.elim)
  repeat' (first | ((with_reducible refine Ev.br0 ?_); (first | refine Ev.brp ?_ | refine Ev.brn ?_); conv => whnf) | ((with_reducible refine Ev.c0 ?_); first | refine Ev.cp ?_ | refine Ev.cn ?_) | (with_reducible refine Ev.join (a := .reg 11 _) (fun s => ∃ (c va wa vb wb : Nat) (S T : List Sp), s = ⟨[(9, .ptr 5128 va 0 0), (10, .ptr 5144 vb 0 0), (11, nilA)], rdG 5128 5129 va wa S 0 (norm a).length (txA (norm a)) ++ rdG 5144 5145 vb wb T 0 (norm b).length (txA (norm b)), c⟩ ∧ RdR (norm a) S 0 ∧ RdR (norm b) T 0) ?_ ?_) | ((refine Ev.sw ?_); conv => whnf) | refine Ev.sn ?_ | ((with_reducible refine Ev.chk_k ?_ ?_); rotate_left; exact Ev.bt; conv => whnf) | ((with_reducible (refine Ev.RI.run ?_; constructor)) <;> intro _) | ((refine Ev.sg ?_); conv => whnf) | ((with_reducible refine Ev.sided ?_ ?_); conv => whnf) | ((with_reducible refine Ev.kr (hs := []) (fun Q hQ => ?_)); (simp only [Ev.runE_cons, Ev.runE_nil]); conv => whnf) | (with_reducible refine hQ _ ?_; clear hQ Q) | ((refine Ev.sf ?_); intro F hF; conv => whnf) | (with_reducible refine hF _ ?_; clear hF F) | ((with_reducible refine Ev.go_k (fun c' => ?_)); conv => whnf) | (with_reducible refine Ev.unroll 3 ?_) | ((with_reducible refine Ev.ca0 ?_); (first | refine Ev.ca (hA) ?_ | refine Ev.ca (hB) ?_ | refine Ev.ca (hO) ?_ | refine Ev.ca (hIn) ?_); conv => whnf) | ((((with_reducible refine Ev.ca0 ?_); refine ⟨(newReader_call a (by omega) (by omega) (by omega)).mono ?_⟩; rintro _ _ ⟨S, rfl, rfl, hS⟩; refine ⟨Nat.le_of_ble_eq_true rfl, ⟨rfl, rfl, trivial⟩, ?_⟩; conv => whnf)); conv => whnf) | ((((with_reducible refine Ev.ca0 ?_); refine ⟨(newReader_call b (by omega) (by omega) (by omega)).mono ?_⟩; rintro _ _ ⟨T, rfl, rfl, hT⟩; refine ⟨Nat.le_of_ble_eq_true rfl, ⟨rfl, rfl, trivial⟩, ?_⟩; conv => whnf)); conv => whnf) | ((first | refine Ev.el_map0 ?_ (fun hi => ?_) | refine Ev.el_mapN ?_ (fun hi => ?_)); rotate_left; conv => whnf) | ((with_reducible refine Ev.sd0 ?_); exact Ev.sd) | fail)
  · (refine Ev.to _ ?hs1 ?hh1 ?hc1 ⟨?_, 8, 9, 10, 11, S, T, rfl, ?hp1⟩; (case hs1 | hh1 => ((repeat' (first | exact trivial | refine And.intro ?_ ?_)) <;> (first | exact Ev.se | (refine Ev.slot_eq rfl ?_; first | (first | exact congrArg (fun t => Blk.mk 2 182 8 0 true [[AV.own 5129 9 0 (norm a).length, t]]) (txA_shift (norm a) 5128 8) | exact congrArg (fun t => Blk.mk 2 182 10 0 true [[AV.own 5145 11 0 (norm b).length, t]]) (txA_shift (norm b) 5144 10) | rfl) | ((first | refine Ev.int_eq ?_ | refine Ev.own_eq ?_ | refine Ev.blk_eq ?_); (first | exact congrArg (fun t => Blk.mk 2 182 8 0 true [[AV.own 5129 9 0 (norm a).length, t]]) (txA_shift (norm a) 5128 8) | exact congrArg (fun t => Blk.mk 2 182 10 0 true [[AV.own 5145 11 0 (norm b).length, t]]) (txA_shift (norm b) 5144 10) | rfl))) | exact Ev.sr))); (case hc1 => exact Nat.le_refl _))
    exact ⟨hS, hT⟩
  · rintro s1 ⟨c, va, wa, vb, wb, S, T, rfl, hS, hT⟩
    obtain ⟨C, hC⟩ : ∃ C, C = cmpS ((norm a).length + (norm b).length) (norm a) (norm b) := ⟨_, rfl⟩
    have hcC : Abs.norm C = cmpO a b := by rw [hC]; exact hco.2.2.2.2.1
    have hcL : C.length ≤ 20000000 ∧ tbs C ≤ 200000000 := by
      have h1 := hco.2.2.2.2.2.2.2.1
      have h2 := hco.2.2.2.2.2.2.2.2.1
      rw [hC]; omega
    refine Ev.nil_own 11 9000 3 35 rfl rfl ?_
    repeat' (first | ((refine Ev.sw ?_); conv => whnf) | refine Ev.sn ?_ | ((with_reducible refine Ev.chk_k ?_ ?_); rotate_left; exact Ev.bt; conv => whnf) | ((with_reducible (refine Ev.RI.run ?_; constructor)) <;> intro _) | ((refine Ev.sg ?_); conv => whnf) | ((with_reducible refine Ev.sided ?_ ?_); conv => whnf) | ((with_reducible refine Ev.kr (hs := []) (fun Q hQ => ?_)); (simp only [Ev.runE_cons, Ev.runE_nil]); conv => whnf) | (with_reducible refine hQ _ ?_; clear hQ Q) | ((refine Ev.sf ?_); intro F hF; conv => whnf) | (with_reducible refine hF _ ?_; clear hF F) | ((with_reducible refine Ev.go_k (fun c' => ?_)); conv => whnf) | ((first | refine Ev.el_map0 ?_ (fun hi => ?_) | refine Ev.el_mapN ?_ (fun hi => ?_)); rotate_left; conv => whnf) | ((with_reducible refine Ev.sd0 ?_); exact Ev.sd) | fail)
    refine Ev.loop (fun k s => ∃ (c va wa vb wb v : Nat) (S T : List Sp) (off oft : Nat) (x y out : List Sp), s = ⟨[(9, .ptr 5128 va 0 0), (10, .ptr 5144 vb 0 0), (11, .own 9000 v 0 out.length)], [(5128, ⟨2, 182, va, 0, true, [[.own 5129 wa off x.length, txA x]]⟩), (5129, ⟨3, 35, wa, 0, false, sps S⟩), (5144, ⟨2, 182, vb, 0, true, [[.own 5145 wb oft y.length, txA y]]⟩), (5145, ⟨3, 35, wb, 0, false, sps T⟩), (9000, ⟨3, 35, v, 0, false, sps out⟩)], c⟩ ∧ RdR x S off ∧ RdR y T oft ∧ CI C k x y out) ?_ ?_
    · (refine Ev.to _ ?hs2 ?hh2 ?hc2 ⟨(norm a).length + (norm b).length, ?_, ?_, ?_, ?_, ?_, ?_, S, T, 0, 0, norm a, norm b, [], rfl, ?hp2⟩; (case hs2 | hh2 => ((repeat' (first | exact trivial | refine And.intro ?_ ?_)) <;> (first | exact Ev.se | (refine Ev.slot_eq rfl ?_; first | (rfl) | ((first | refine Ev.int_eq ?_ | refine Ev.own_eq ?_ | refine Ev.blk_eq ?_); (rfl))) | exact Ev.sr))); (case hc2 => exact Nat.le_refl _))
      exact ⟨hS, hT, by omega, na.1.all, nb.1.all, na.2.2.2.2.2.2.2, nb.2.2.2.2.2.2.2, hmm, by rw [hC]; rfl, by simp; omega, by omega⟩
    rintro k s1 ⟨c, va, wa, vb, wb, v, S, T, off, oft, x, y, out, rfl, hS, hT, hI⟩
    have hol := sps_len out
    have hbl := hI.bl
    rcases x with _ | ⟨u, x⟩ <;> rcases y with _ | ⟨w, y⟩ <;> simp only [List.length_cons, List.length_nil] at hbl
    · have hout := hI.fin
      subst hout
      repeat' (first | ((with_reducible refine Ev.br0 ?_); (first | refine Ev.brp ?_ | refine Ev.brn ?_); conv => whnf) | ((with_reducible refine Ev.c0 ?_); first | refine Ev.cp ?_ | refine Ev.cn ?_) | ((refine Ev.sw ?_); conv => whnf) | refine Ev.sn ?_ | ((with_reducible refine Ev.chk_k ?_ ?_); rotate_left; exact Ev.bt; conv => whnf) | ((with_reducible (refine Ev.RI.run ?_; constructor)) <;> intro _) | ((refine Ev.sg ?_); conv => whnf) | ((with_reducible refine Ev.sided ?_ ?_); conv => whnf) | ((with_reducible refine Ev.kr (hs := [154, 156, 155]) (fun Q hQ => ?_)); (simp only [Ev.runE_cons, Ev.runE_nil]); conv => whnf) | (with_reducible refine hQ _ ?_; clear hQ Q) | ((refine Ev.sf ?_); intro F hF; conv => whnf) | (with_reducible refine hF _ ?_; clear hF F) | ((with_reducible refine Ev.go_k (fun c' => ?_)); conv => whnf) | ((((with_reducible refine Ev.hca0 ?_); refine kindX 5128 5129 [(5144, _), (5145, _), (9000, _)] hS (by decide) ⟨Ev.slot_eq rfl rfl, Ev.slot_eq rfl rfl, trivial⟩ ⟨Ev.slot_eq rfl rfl, Ev.slot_eq rfl rfl, Ev.slot_eq rfl rfl, trivial⟩ rfl rfl (fun c' _ => ?_); conv => whnf)); conv => whnf) | ((((with_reducible refine Ev.hca0 ?_); refine kindX 5144 5145 [(5128, _), (5129, _), (9000, _)] hT (by decide) ⟨Ev.slot_eq rfl rfl, Ev.slot_eq rfl rfl, trivial⟩ ⟨Ev.slot_eq rfl rfl, Ev.slot_eq rfl rfl, Ev.slot_eq rfl rfl, trivial⟩ rfl rfl (fun c' _ => ?_); conv => whnf)); conv => whnf) | ((with_reducible refine Ev.ca0 ?_); (first | refine Ev.call_det (nof_call out (by omega) (by omega)) rfl rfl ?_ | refine Ev.ca (nof_call out (by omega) (by omega)) ?_); conv => whnf) | ((first | refine Ev.el_map0 ?_ (fun hi => ?_) | refine Ev.el_mapN ?_ (fun hi => ?_)); rotate_left; conv => whnf) | ((with_reducible refine Ev.sd0 ?_); exact Ev.sd) | fail)
      exact ⟨by rw [hcC]; rfl, rfl⟩
    · have hk : kdS (w :: y) = 2 := hI.vk
      have htv : tbs (w :: y) ≤ 1000000000 := by have := hI.bt; omega
      have hsv : w.t.size ≤ 1000000000 := by rw [tbs_cons] at htv; omega
      have hnv : szS w ≤ szS w := Nat.le_refl _
      obtain ⟨k', rfl, hJ⟩ := hI.s1 hk
      repeat' (first | (with_reducible refine Ev.c_pos hk ?_) | (with_reducible refine Ev.br_pos hk ?_) | ((with_reducible refine Ev.br0 ?_); (first | refine Ev.brp ?_ | refine Ev.brn ?_); conv => whnf) | ((with_reducible refine Ev.c0 ?_); first | refine Ev.cp ?_ | refine Ev.cn ?_) | ((refine Ev.sw ?_); conv => whnf) | refine Ev.sn ?_ | ((with_reducible refine Ev.chk_k ?_ ?_); rotate_left; exact Ev.bt; conv => whnf) | ((with_reducible (refine Ev.RI.run ?_; constructor)) <;> intro _) | ((refine Ev.sg ?_); conv => whnf) | ((with_reducible refine Ev.sided ?_ ?_); conv => whnf) | ((with_reducible refine Ev.kr (hs := [154, 156, 155]) (fun Q hQ => ?_)); (simp only [Ev.runE_cons, Ev.runE_nil]); conv => whnf) | (with_reducible refine hQ _ ?_; clear hQ Q) | ((refine Ev.sf ?_); intro F hF; conv => whnf) | (with_reducible refine hF _ ?_; clear hF F) | ((with_reducible refine Ev.go_k (fun c' => ?_)); conv => whnf) | ((((with_reducible refine Ev.hca0 ?_); refine kindX 5128 5129 [(5144, _), (5145, _), (9000, _)] hS (by decide) ⟨Ev.slot_eq rfl rfl, Ev.slot_eq rfl rfl, trivial⟩ ⟨Ev.slot_eq rfl rfl, Ev.slot_eq rfl rfl, Ev.slot_eq rfl rfl, trivial⟩ rfl rfl (fun c' _ => ?_); conv => whnf)); conv => whnf) | ((((with_reducible refine Ev.hca0 ?_); refine kindX 5144 5145 [(5128, _), (5129, _), (9000, _)] hT (by decide) ⟨Ev.slot_eq rfl rfl, Ev.slot_eq rfl rfl, trivial⟩ ⟨Ev.slot_eq rfl rfl, Ev.slot_eq rfl rfl, Ev.slot_eq rfl rfl, trivial⟩ rfl rfl (fun c' _ => ?_); conv => whnf)); conv => whnf) | ((((with_reducible refine Ev.hca0 ?_); refine sizeX 5144 5145 [(5128, _), (5129, _), (9000, _)] hT hI.ay.head hsv (by decide) ⟨Ev.slot_eq rfl rfl, Ev.slot_eq rfl rfl, trivial⟩ ⟨Ev.slot_eq rfl rfl, Ev.slot_eq rfl rfl, Ev.slot_eq rfl rfl, trivial⟩ rfl rfl (fun c' _ => ?_); conv => whnf)); conv => whnf) | ((((with_reducible refine Ev.hca0 ?_); refine takeX 5144 5145 [(5128, _), (5129, _), (9000, _)] hT hI.ay.head htv hnv rfl (by decide) ⟨Ev.slot_eq rfl rfl, Ev.slot_eq rfl rfl, trivial⟩ ⟨Ev.slot_eq rfl rfl, Ev.slot_eq rfl rfl, Ev.slot_eq rfl rfl, trivial⟩ rfl rfl (fun T' oft' hT' c' _ => ?_); conv => whnf)); conv => whnf) | ((first | refine Ev.el_map0 ?_ (fun hi => ?_) | refine Ev.el_mapN ?_ (fun hi => ?_)); rotate_left; conv => whnf) | ((with_reducible refine Ev.sd0 ?_); exact Ev.sd) | fail)
      simp only [lessS_all, fstS_all hI.ay.head]
      rw [lessS_all] at hT'
      (refine Ev.again (k') _ ?hm3 ?hs3 ?hh3 ?hc3 ⟨?_, va, wa, vb, wb, ?_, S, T', off, oft', [], y, out ++ [w], rfl, ?hp3⟩; (case hs3 | hh3 => ((repeat' (first | exact trivial | refine And.intro ?_ ?_)) <;> (first | exact Ev.se | (refine Ev.slot_eq rfl ?_; first | (first | (rw [sps_app1]; rfl) | (simp; done) | rfl) | ((first | refine Ev.int_eq ?_ | refine Ev.own_eq ?_ | refine Ev.blk_eq ?_); (first | (rw [sps_app1]; rfl) | (simp; done) | rfl))) | exact Ev.sr))); (case hc3 => exact Nat.le_refl _); (case hm3 => omega))
      exact ⟨hS, hT', hJ⟩
    · have hk : kdS (u :: x) = 3 := hI.uk
      have htu : tbs (u :: x) ≤ 1000000000 := by have := hI.bt; omega
      have hsu : u.t.size ≤ 1000000000 := by rw [tbs_cons] at htu; omega
      have hnu : szS u ≤ szS u := Nat.le_refl _
      obtain ⟨k', rfl, hJ⟩ := hI.s2 hk (by simp)
      repeat' (first | (with_reducible refine Ev.c_pos hk ?_) | (with_reducible refine Ev.br_pos hk ?_) | ((with_reducible refine Ev.br0 ?_); (first | refine Ev.brp ?_ | refine Ev.brn ?_); conv => whnf) | ((with_reducible refine Ev.c0 ?_); first | refine Ev.cp ?_ | refine Ev.cn ?_) | ((refine Ev.sw ?_); conv => whnf) | refine Ev.sn ?_ | ((with_reducible refine Ev.chk_k ?_ ?_); rotate_left; exact Ev.bt; conv => whnf) | ((with_reducible (refine Ev.RI.run ?_; constructor)) <;> intro _) | ((refine Ev.sg ?_); conv => whnf) | ((with_reducible refine Ev.sided ?_ ?_); conv => whnf) | ((with_reducible refine Ev.kr (hs := [154, 156, 155]) (fun Q hQ => ?_)); (simp only [Ev.runE_cons, Ev.runE_nil]); conv => whnf) | (with_reducible refine hQ _ ?_; clear hQ Q) | ((refine Ev.sf ?_); intro F hF; conv => whnf) | (with_reducible refine hF _ ?_; clear hF F) | ((with_reducible refine Ev.go_k (fun c' => ?_)); conv => whnf) | ((((with_reducible refine Ev.hca0 ?_); refine kindX 5128 5129 [(5144, _), (5145, _), (9000, _)] hS (by decide) ⟨Ev.slot_eq rfl rfl, Ev.slot_eq rfl rfl, trivial⟩ ⟨Ev.slot_eq rfl rfl, Ev.slot_eq rfl rfl, Ev.slot_eq rfl rfl, trivial⟩ rfl rfl (fun c' _ => ?_); conv => whnf)); conv => whnf) | ((((with_reducible refine Ev.hca0 ?_); refine kindX 5144 5145 [(5128, _), (5129, _), (9000, _)] hT (by decide) ⟨Ev.slot_eq rfl rfl, Ev.slot_eq rfl rfl, trivial⟩ ⟨Ev.slot_eq rfl rfl, Ev.slot_eq rfl rfl, Ev.slot_eq rfl rfl, trivial⟩ rfl rfl (fun c' _ => ?_); conv => whnf)); conv => whnf) | ((((with_reducible refine Ev.hca0 ?_); refine sizeX 5128 5129 [(5144, _), (5145, _), (9000, _)] hS hI.ax.head hsu (by decide) ⟨Ev.slot_eq rfl rfl, Ev.slot_eq rfl rfl, trivial⟩ ⟨Ev.slot_eq rfl rfl, Ev.slot_eq rfl rfl, Ev.slot_eq rfl rfl, trivial⟩ rfl rfl (fun c' _ => ?_); conv => whnf)); conv => whnf) | ((((with_reducible refine Ev.hca0 ?_); refine takeX 5128 5129 [(5144, _), (5145, _), (9000, _)] hS hI.ax.head htu hnu rfl (by decide) ⟨Ev.slot_eq rfl rfl, Ev.slot_eq rfl rfl, trivial⟩ ⟨Ev.slot_eq rfl rfl, Ev.slot_eq rfl rfl, Ev.slot_eq rfl rfl, trivial⟩ rfl rfl (fun S' off' hS' c' _ => ?_); conv => whnf)); conv => whnf) | ((first | refine Ev.el_map0 ?_ (fun hi => ?_) | refine Ev.el_mapN ?_ (fun hi => ?_)); rotate_left; conv => whnf) | ((with_reducible refine Ev.sd0 ?_); exact Ev.sd) | fail)
      simp only [lessS_all, fstS_all hI.ax.head]
      rw [lessS_all] at hS'
      (refine Ev.again (k') _ ?hm4 ?hs4 ?hh4 ?hc4 ⟨?_, va, wa, vb, wb, ?_, S', T, off', oft, x, [], out ++ [u], rfl, ?hp4⟩; (case hs4 | hh4 => ((repeat' (first | exact trivial | refine And.intro ?_ ?_)) <;> (first | exact Ev.se | (refine Ev.slot_eq rfl ?_; first | (first | (rw [sps_app1]; rfl) | (simp; done) | rfl) | ((first | refine Ev.int_eq ?_ | refine Ev.own_eq ?_ | refine Ev.blk_eq ?_); (first | (rw [sps_app1]; rfl) | (simp; done) | rfl))) | exact Ev.sr))); (case hc4 => exact Nat.le_refl _); (case hm4 => omega))
      exact ⟨hS', hT, hJ⟩
    · by_cases hw2 : w.k = 2
      · have hk : kdS (w :: y) = 2 := hw2
        have htv : tbs (w :: y) ≤ 1000000000 := by have := hI.bt; omega
        have hsv : w.t.size ≤ 1000000000 := by rw [tbs_cons] at htv; omega
        have hnv : szS w ≤ szS w := Nat.le_refl _
        obtain ⟨k', rfl, hJ⟩ := hI.s1 hk
        repeat' (first | (with_reducible refine Ev.c_pos hk ?_) | (with_reducible refine Ev.br_pos hk ?_) | ((with_reducible refine Ev.br0 ?_); (first | refine Ev.brp ?_ | refine Ev.brn ?_); conv => whnf) | ((with_reducible refine Ev.c0 ?_); first | refine Ev.cp ?_ | refine Ev.cn ?_) | ((refine Ev.sw ?_); conv => whnf) | refine Ev.sn ?_ | ((with_reducible refine Ev.chk_k ?_ ?_); rotate_left; exact Ev.bt; conv => whnf) | ((with_reducible (refine Ev.RI.run ?_; constructor)) <;> intro _) | ((refine Ev.sg ?_); conv => whnf) | ((with_reducible refine Ev.sided ?_ ?_); conv => whnf) | ((with_reducible refine Ev.kr (hs := [154, 156, 155]) (fun Q hQ => ?_)); (simp only [Ev.runE_cons, Ev.runE_nil]); conv => whnf) | (with_reducible refine hQ _ ?_; clear hQ Q) | ((refine Ev.sf ?_); intro F hF; conv => whnf) | (with_reducible refine hF _ ?_; clear hF F) | ((with_reducible refine Ev.go_k (fun c' => ?_)); conv => whnf) | ((((with_reducible refine Ev.hca0 ?_); refine kindX 5128 5129 [(5144, _), (5145, _), (9000, _)] hS (by decide) ⟨Ev.slot_eq rfl rfl, Ev.slot_eq rfl rfl, trivial⟩ ⟨Ev.slot_eq rfl rfl, Ev.slot_eq rfl rfl, Ev.slot_eq rfl rfl, trivial⟩ rfl rfl (fun c' _ => ?_); conv => whnf)); conv => whnf) | ((((with_reducible refine Ev.hca0 ?_); refine kindX 5144 5145 [(5128, _), (5129, _), (9000, _)] hT (by decide) ⟨Ev.slot_eq rfl rfl, Ev.slot_eq rfl rfl, trivial⟩ ⟨Ev.slot_eq rfl rfl, Ev.slot_eq rfl rfl, Ev.slot_eq rfl rfl, trivial⟩ rfl rfl (fun c' _ => ?_); conv => whnf)); conv => whnf) | ((((with_reducible refine Ev.hca0 ?_); refine sizeX 5144 5145 [(5128, _), (5129, _), (9000, _)] hT hI.ay.head hsv (by decide) ⟨Ev.slot_eq rfl rfl, Ev.slot_eq rfl rfl, trivial⟩ ⟨Ev.slot_eq rfl rfl, Ev.slot_eq rfl rfl, Ev.slot_eq rfl rfl, trivial⟩ rfl rfl (fun c' _ => ?_); conv => whnf)); conv => whnf) | ((((with_reducible refine Ev.hca0 ?_); refine takeX 5144 5145 [(5128, _), (5129, _), (9000, _)] hT hI.ay.head htv hnv rfl (by decide) ⟨Ev.slot_eq rfl rfl, Ev.slot_eq rfl rfl, trivial⟩ ⟨Ev.slot_eq rfl rfl, Ev.slot_eq rfl rfl, Ev.slot_eq rfl rfl, trivial⟩ rfl rfl (fun T' oft' hT' c' _ => ?_); conv => whnf)); conv => whnf) | ((first | refine Ev.el_map0 ?_ (fun hi => ?_) | refine Ev.el_mapN ?_ (fun hi => ?_)); rotate_left; conv => whnf) | ((with_reducible refine Ev.sd0 ?_); exact Ev.sd) | fail)
        simp only [lessS_all, fstS_all hI.ay.head]
        rw [lessS_all] at hT'
        (refine Ev.again (k') _ ?hm5 ?hs5 ?hh5 ?hc5 ⟨?_, va, wa, vb, wb, ?_, S, T', off, oft', u :: x, y, out ++ [w], rfl, ?hp5⟩; (case hs5 | hh5 => ((repeat' (first | exact trivial | refine And.intro ?_ ?_)) <;> (first | exact Ev.se | (refine Ev.slot_eq rfl ?_; first | (first | (rw [sps_app1]; rfl) | (simp; done) | rfl) | ((first | refine Ev.int_eq ?_ | refine Ev.own_eq ?_ | refine Ev.blk_eq ?_); (first | (rw [sps_app1]; rfl) | (simp; done) | rfl))) | exact Ev.sr))); (case hc5 => exact Nat.le_refl _); (case hm5 => omega))
        exact ⟨hS, hT', hJ⟩
      have hn2 : ¬ kdS (w :: y) = 2 := hw2
      by_cases hu3 : u.k = 3
      · have hk : kdS (u :: x) = 3 := hu3
        have htu : tbs (u :: x) ≤ 1000000000 := by have := hI.bt; omega
        have hsu : u.t.size ≤ 1000000000 := by rw [tbs_cons] at htu; omega
        have hnu : szS u ≤ szS u := Nat.le_refl _
        obtain ⟨k', rfl, hJ⟩ := hI.s2 hk (by simpa using hw2)
        repeat' (first | (with_reducible refine Ev.c_pos hk ?_) | (with_reducible refine Ev.br_pos hk ?_) | (with_reducible refine Ev.c_neg hn2 ?_) | (with_reducible refine Ev.br_neg hn2 ?_) | ((with_reducible refine Ev.br0 ?_); (first | refine Ev.brp ?_ | refine Ev.brn ?_); conv => whnf) | ((with_reducible refine Ev.c0 ?_); first | refine Ev.cp ?_ | refine Ev.cn ?_) | ((refine Ev.sw ?_); conv => whnf) | refine Ev.sn ?_ | ((with_reducible refine Ev.chk_k ?_ ?_); rotate_left; exact Ev.bt; conv => whnf) | ((with_reducible (refine Ev.RI.run ?_; constructor)) <;> intro _) | ((refine Ev.sg ?_); conv => whnf) | ((with_reducible refine Ev.sided ?_ ?_); conv => whnf) | ((with_reducible refine Ev.kr (hs := [154, 156, 155]) (fun Q hQ => ?_)); (simp only [Ev.runE_cons, Ev.runE_nil]); conv => whnf) | (with_reducible refine hQ _ ?_; clear hQ Q) | ((refine Ev.sf ?_); intro F hF; conv => whnf) | (with_reducible refine hF _ ?_; clear hF F) | ((with_reducible refine Ev.go_k (fun c' => ?_)); conv => whnf) | ((((with_reducible refine Ev.hca0 ?_); refine kindX 5128 5129 [(5144, _), (5145, _), (9000, _)] hS (by decide) ⟨Ev.slot_eq rfl rfl, Ev.slot_eq rfl rfl, trivial⟩ ⟨Ev.slot_eq rfl rfl, Ev.slot_eq rfl rfl, Ev.slot_eq rfl rfl, trivial⟩ rfl rfl (fun c' _ => ?_); conv => whnf)); conv => whnf) | ((((with_reducible refine Ev.hca0 ?_); refine kindX 5144 5145 [(5128, _), (5129, _), (9000, _)] hT (by decide) ⟨Ev.slot_eq rfl rfl, Ev.slot_eq rfl rfl, trivial⟩ ⟨Ev.slot_eq rfl rfl, Ev.slot_eq rfl rfl, Ev.slot_eq rfl rfl, trivial⟩ rfl rfl (fun c' _ => ?_); conv => whnf)); conv => whnf) | ((((with_reducible refine Ev.hca0 ?_); refine sizeX 5128 5129 [(5144, _), (5145, _), (9000, _)] hS hI.ax.head hsu (by decide) ⟨Ev.slot_eq rfl rfl, Ev.slot_eq rfl rfl, trivial⟩ ⟨Ev.slot_eq rfl rfl, Ev.slot_eq rfl rfl, Ev.slot_eq rfl rfl, trivial⟩ rfl rfl (fun c' _ => ?_); conv => whnf)); conv => whnf) | ((((with_reducible refine Ev.hca0 ?_); refine takeX 5128 5129 [(5144, _), (5145, _), (9000, _)] hS hI.ax.head htu hnu rfl (by decide) ⟨Ev.slot_eq rfl rfl, Ev.slot_eq rfl rfl, trivial⟩ ⟨Ev.slot_eq rfl rfl, Ev.slot_eq rfl rfl, Ev.slot_eq rfl rfl, trivial⟩ rfl rfl (fun S' off' hS' c' _ => ?_); conv => whnf)); conv => whnf) | ((first | refine Ev.el_map0 ?_ (fun hi => ?_) | refine Ev.el_mapN ?_ (fun hi => ?_)); rotate_left; conv => whnf) | ((with_reducible refine Ev.sd0 ?_); exact Ev.sd) | fail)
        simp only [lessS_all, fstS_all hI.ax.head]
        rw [lessS_all] at hS'
        (refine Ev.again (k') _ ?hm6 ?hs6 ?hh6 ?hc6 ⟨?_, va, wa, vb, wb, ?_, S', T, off', oft, x, w :: y, out ++ [u], rfl, ?hp6⟩; (case hs6 | hh6 => ((repeat' (first | exact trivial | refine And.intro ?_ ?_)) <;> (first | exact Ev.se | (refine Ev.slot_eq rfl ?_; first | (first | (rw [sps_app1]; rfl) | (simp; done) | rfl) | ((first | refine Ev.int_eq ?_ | refine Ev.own_eq ?_ | refine Ev.blk_eq ?_); (first | (rw [sps_app1]; rfl) | (simp; done) | rfl))) | exact Ev.sr))); (case hc6 => exact Nat.le_refl _); (case hm6 => omega))
        exact ⟨hS', hT, hJ⟩
      have hn3 : ¬ kdS (u :: x) = 3 := hu3
      have hn0 : ¬ kdS (u :: x) = 0 := by
        show ¬ u.k = 0
        rcases hI.ax.head.cases with ⟨a, _⟩ | ⟨a, _⟩ <;> omega
      have hm0 : ¬ kdS (w :: y) = 0 := by
        show ¬ w.k = 0
        rcases hI.ay.head.cases with ⟨a, _⟩ | ⟨a, _⟩ <;> omega
      have htv : tbs (w :: y) ≤ 1000000000 := by have := hI.bt; omega
      have hsv : w.t.size ≤ 1000000000 := by rw [tbs_cons] at htv; omega
      have htu : tbs (u :: x) ≤ 1000000000 := by have := hI.bt; omega
      have hsu : u.t.size ≤ 1000000000 := by rw [tbs_cons] at htu; omega
      obtain ⟨n, hn⟩ : ∃ n, min (szS u) (szS w) = n := ⟨_, rfl⟩
      obtain ⟨hnu, hnv, k', rfl, hJ⟩ := hI.s3 hw2 hu3 hn
      have pk := (part_ok hI.ax.head hnu).2.2.2.2.2.1
      have qk := (part_ok hI.ay.head hnv).2.2.2.2.2.1
      have hmin : min ((szS u : Nat) : Int) ((szS w : Nat) : Int) = ((n : Nat) : Int) := by omega
      repeat' (first | (with_reducible refine Ev.c_neg hn2 ?_) | (with_reducible refine Ev.br_neg hn2 ?_) | (with_reducible refine Ev.c_neg hn3 ?_) | (with_reducible refine Ev.br_neg hn3 ?_) | (with_reducible refine Ev.c_neg hn0 ?_) | (with_reducible refine Ev.br_neg hn0 ?_) | (with_reducible refine Ev.c_neg hm0 ?_) | (with_reducible refine Ev.br_neg hm0 ?_) | ((with_reducible refine Ev.br0 ?_); (first | refine Ev.brp ?_ | refine Ev.brn ?_); conv => whnf) | ((with_reducible refine Ev.c0 ?_); first | refine Ev.cp ?_ | refine Ev.cn ?_) | ((refine Ev.sw ?_); conv => whnf) | refine Ev.sn ?_ | ((with_reducible refine Ev.chk_k ?_ ?_); rotate_left; exact Ev.bt; conv => whnf) | ((with_reducible (refine Ev.RI.run ?_; constructor)) <;> intro _) | ((refine Ev.sg ?_); conv => whnf) | ((with_reducible refine Ev.sided ?_ ?_); conv => whnf) | ((with_reducible refine Ev.kr (hs := [154, 156, 155]) (fun Q hQ => ?_)); (simp only [Ev.runE_cons, Ev.runE_nil]); conv => whnf) | (with_reducible refine hQ _ ?_; clear hQ Q) | ((refine Ev.sf ?_); intro F hF; conv => whnf) | (with_reducible refine hF _ ?_; clear hF F) | ((with_reducible refine Ev.go_k (fun c' => ?_)); conv => whnf) | ((((with_reducible refine Ev.hca0 ?_); refine kindX 5128 5129 [(5144, _), (5145, _), (9000, _)] hS (by decide) ⟨Ev.slot_eq rfl rfl, Ev.slot_eq rfl rfl, trivial⟩ ⟨Ev.slot_eq rfl rfl, Ev.slot_eq rfl rfl, Ev.slot_eq rfl rfl, trivial⟩ rfl rfl (fun c' _ => ?_); conv => whnf)); conv => whnf) | ((((with_reducible refine Ev.hca0 ?_); refine kindX 5144 5145 [(5128, _), (5129, _), (9000, _)] hT (by decide) ⟨Ev.slot_eq rfl rfl, Ev.slot_eq rfl rfl, trivial⟩ ⟨Ev.slot_eq rfl rfl, Ev.slot_eq rfl rfl, Ev.slot_eq rfl rfl, trivial⟩ rfl rfl (fun c' _ => ?_); conv => whnf)); conv => whnf) | ((((with_reducible refine Ev.hca0 ?_); refine sizeX 5128 5129 [(5144, _), (5145, _), (9000, _)] hS hI.ax.head hsu (by decide) ⟨Ev.slot_eq rfl rfl, Ev.slot_eq rfl rfl, trivial⟩ ⟨Ev.slot_eq rfl rfl, Ev.slot_eq rfl rfl, Ev.slot_eq rfl rfl, trivial⟩ rfl rfl (fun c' _ => ?_); conv => whnf)); conv => whnf) | ((((with_reducible refine Ev.hca0 ?_); refine sizeX 5144 5145 [(5128, _), (5129, _), (9000, _)] hT hI.ay.head hsv (by decide) ⟨Ev.slot_eq rfl rfl, Ev.slot_eq rfl rfl, trivial⟩ ⟨Ev.slot_eq rfl rfl, Ev.slot_eq rfl rfl, Ev.slot_eq rfl rfl, trivial⟩ rfl rfl (fun c' _ => ?_); conv => whnf)); conv => whnf) | ((((with_reducible refine Ev.hca0 ?_); refine takeX 5128 5129 [(5144, _), (5145, _), (9000, _)] hS hI.ax.head htu hnu hmin (by decide) ⟨Ev.slot_eq rfl rfl, Ev.slot_eq rfl rfl, trivial⟩ ⟨Ev.slot_eq rfl rfl, Ev.slot_eq rfl rfl, Ev.slot_eq rfl rfl, trivial⟩ rfl rfl (fun S' off' hS' c' _ => ?_); conv => whnf)); conv => whnf) | ((((with_reducible refine Ev.hca0 ?_); refine takeX 5144 5145 [(5128, _), (5129, _), (9000, _)] hT hI.ay.head htv hnv hmin (by decide) ⟨Ev.slot_eq rfl rfl, Ev.slot_eq rfl rfl, trivial⟩ ⟨Ev.slot_eq rfl rfl, Ev.slot_eq rfl rfl, Ev.slot_eq rfl rfl, trivial⟩ rfl rfl (fun T' oft' hT' c' _ => ?_); conv => whnf)); conv => whnf) | ((first | refine Ev.el_map0 ?_ (fun hi => ?_) | refine Ev.el_mapN ?_ (fun hi => ?_)); rotate_left; conv => whnf) | ((with_reducible refine Ev.sd0 ?_); exact Ev.sd) | fail)
      · have hwk : w.k = 1 := by rw [← qk]; assumption
        rw [if_pos hwk] at hJ
        (refine Ev.again (k') _ ?hm7 ?hs7 ?hh7 ?hc7 ⟨?_, va, wa, vb, wb, ?_, S', T', off', oft', lessS u n x, lessS w n y, out ++ [fstS u n], rfl, ?hp7⟩; (case hs7 | hh7 => ((repeat' (first | exact trivial | refine And.intro ?_ ?_)) <;> (first | exact Ev.se | (refine Ev.slot_eq rfl ?_; first | (first | (rw [sps_app1]; rfl) | (simp; done) | rfl) | ((first | refine Ev.int_eq ?_ | refine Ev.own_eq ?_ | refine Ev.blk_eq ?_); (first | (rw [sps_app1]; rfl) | (simp; done) | rfl))) | exact Ev.sr))); (case hc7 => exact Nat.le_refl _); (case hm7 => omega))
        exact ⟨hS', hT', hJ⟩
      · have hwk : ¬ w.k = 1 := by rw [← qk]; assumption
        have huk : u.k = 1 := by rw [← pk]; assumption
        rw [if_neg hwk, if_pos huk] at hJ
        (refine Ev.again (k') _ ?hm8 ?hs8 ?hh8 ?hc8 ⟨?_, va, wa, vb, wb, ?_, S', T', off', oft', lessS u n x, lessS w n y, out ++ [fstS w n], rfl, ?hp8⟩; (case hs8 | hh8 => ((repeat' (first | exact trivial | refine And.intro ?_ ?_)) <;> (first | exact Ev.se | (refine Ev.slot_eq rfl ?_; first | (first | (rw [sps_app1]; rfl) | (simp; done) | rfl) | ((first | refine Ev.int_eq ?_ | refine Ev.own_eq ?_ | refine Ev.blk_eq ?_); (first | (rw [sps_app1]; rfl) | (simp; done) | rfl))) | exact Ev.sr))); (case hc8 => exact Nat.le_refl _); (case hm8 => omega))
        exact ⟨hS', hT', hJ⟩
      · have hwk : ¬ w.k = 1 := by rw [← qk]; assumption
        have huk : ¬ u.k = 1 := by rw [← pk]; assumption
        rw [if_neg hwk, if_neg huk, List.append_nil] at hJ
        (refine Ev.again (k') _ ?hm9 ?hs9 ?hh9 ?hc9 ⟨?_, va, wa, vb, wb, v, S', T', off', oft', lessS u n x, lessS w n y, out, rfl, ?hp9⟩; (case hs9 | hh9 => ((repeat' (first | exact trivial | refine And.intro ?_ ?_)) <;> (first | exact Ev.se | (refine Ev.slot_eq rfl ?_; first | (rfl) | ((first | refine Ev.int_eq ?_ | refine Ev.own_eq ?_ | refine Ev.blk_eq ?_); (rfl))) | exact Ev.sr))); (case hc9 => exact Nat.le_refl _); (case hm9 => omega))
        exact ⟨hS', hT', hJ⟩
  · rename_i h; exact absurd ho h
theorem segE_zero {n : Int} {x : List Sp} (h : segE n x = 0) : opMayF x = 0 ∧ inW x = n ∧ outW x ≤ 1048576 ∧ isN x = true := by
  unfold segE at h
  by_cases h1 : opMayF x = 0
  · rw [if_neg (by simp [h1])] at h
    by_cases h2 : inW x = n
    · rw [if_neg (by simp [h2])] at h
      by_cases h3 : 1048576 < outW x
      · rw [if_pos h3] at h; cases h
      · rw [if_neg h3] at h
        cases h4 : isN x with
        | true => exact ⟨h1, h2, by omega, rfl⟩
        | false => rw [h4] at h; cases h
    · rw [if_pos h2] at h; cases h
  · rw [if_pos h1] at h; exact absurd h h1
theorem segE_of {n : Int} {x : List Sp} (h1 : opMayF x = 0) (h2 : inW x = n) (h3 : outW x ≤ 1048576) (h4 : isN x = true) : segE n x = 0 := by
  unfold segE; rw [if_neg (by simp [h1]), if_neg (by simp [h2]), if_neg (by omega), if_pos h4]
theorem allG_good : ∀ (l : List (List Sp)) (n : Int) (t : ByteArray), validD t.data.toList = true → countD t.data.toList = n → segsE n l = 0 → (∀ x ∈ l, x.length ≤ 100000000) → t.size + totb l ≤ 1000000000 →
    ∃ u, allG l t = (0, u) ∧ validD u.data.toList = true ∧ countD u.data.toList = endN n l ∧ u.size ≤ t.size + totb l
  | [], n, t, hv, hc, _, _, _ => ⟨t, rfl, hv, hc, by simp [totb]⟩
  | x :: l, n, t, hv, hc, hs, hx, hb => by
    have h0 : segE n x = 0 := by
      simp only [segsE] at hs
      by_cases h : segE n x = 0
      · exact h
      · rw [if_neg h] at hs; exact absurd hs h
    simp only [segsE] at hs
    rw [if_pos h0] at hs
    obtain ⟨a1, a2, a3, a4⟩ := segE_zero h0
    rw [totb_cons] at hb
    have hz : toE x t = 0 := toE_of a1 hv (by rw [a2, ← hc, countD_pts hv])
    obtain ⟨b1, b2, b3, b4⟩ := toT_facts hz (by have := hx x (by simp); omega) (by omega)
    obtain ⟨u, c1, c2, c3, c4⟩ := allG_good l (outW x) (toT x t) b1 (by rw [countD_pts b1, b3]) hs (fun y hy => hx y (by simp [hy])) (by omega)
    refine ⟨u, ?_, c2, c3, by rw [totb_cons]; omega⟩
    simp only [allG]; rw [if_pos hz]; exact c1
theorem chE_zero {c : Lg} (h : chE c = 0) : validD c.base.data.toList = true ∧ countD c.base.data.toList ≤ 1048576 ∧ rises c.revs = true ∧ c.revs.length = c.segs.length + 1 ∧ segsE (countD c.base.data.toList) c.segs = 0 := by
  unfold chE at h
  by_cases h1 : countD c.base.data.toList < 0
  · rw [if_pos h1] at h; cases h
  · rw [if_neg h1] at h
    by_cases h2 : 1048576 < countD c.base.data.toList
    · rw [if_pos h2] at h; cases h
    · rw [if_neg h2] at h
      by_cases h3 : rPutE c.revs ≠ 0 ∨ c.revs.length ≠ c.segs.length + 1
      · rw [if_pos h3] at h; cases h
      · rw [if_neg h3] at h
        refine ⟨?_, by omega, ?_, by omega, h⟩
        · cases hv : validD c.base.data.toList with
          | true => rfl
          | false => rw [countD_bad hv] at h1; omega
        · cases hr : rises c.revs with
          | true => rfl
          | false => exact absurd (.inl (by unfold rPutE; rw [hr]; decide)) h3
theorem chE_of {c : Lg} (h1 : validD c.base.data.toList = true) (h2 : countD c.base.data.toList ≤ 1048576) (h3 : rises c.revs = true) (h4 : c.revs.length = c.segs.length + 1) (h5 : segsE (countD c.base.data.toList) c.segs = 0) : chE c = 0 := by
  have : 0 ≤ countD c.base.data.toList := by rw [countD_pts h1]; omega
  unfold chE
  rw [if_neg (by omega), if_neg (by omega), if_neg, h5]
  rintro (h | h)
  · apply h; unfold rPutE; rw [h3]; rfl
  · exact h h4
theorem segsE_take {l : List (List Sp)} {n : Int} (h : segsE n l = 0) (i : Nat) : segsE n (l.take i) = 0 ∧ segsE (endN n (l.take i)) (l.drop i) = 0 := by
  have e := segsE_app (l.take i) (l.drop i) n
  rw [List.take_append_drop, h] at e
  by_cases h0 : segsE n (l.take i) = 0
  · rw [if_pos h0] at e; exact ⟨h0, e.symm⟩
  · rw [if_neg h0] at e; exact absurd e.symm h0
theorem rises_of {l : List Int} (h0 : l ≠ []) (h1 : l.length ≤ 65536) (h2 : risesG (-1) l = true) : rises l = true := by
  unfold rises; rw [h2, decide_eq_true h1]
  cases l with
  | nil => exact absurd rfl h0
  | cons x l => rfl
theorem norm_seg {x : List Sp} (h : opMayF x = 0) (hl : x.length ≤ 1000000000) (ho : outW x ≤ 1048576) : segE (inW x) (norm x) = 0 := by
  obtain ⟨h3, h4⟩ := (opMay_iff x).1 h
  exact segE_of (norm_may h hl) (norm_in h hl) (by rw [norm_out h hl]; exact ho) (norm_isN x h3 (by rw [← inW_sum h3 hl]; exact h4))
theorem chn_segs : ∀ (W : List (List Sp)) (n : Int), Chn n W → segsE n (W.map norm) = 0
  | [], _, _ => rfl
  | x :: W, n, ⟨⟨y, m, e, m1, m2⟩, hin, hr⟩ => by
    have h1 : opMayF x = 0 := by rw [e]; exact fitO_may y (by omega)
    have h2 : x.length ≤ 13 := by rw [e]; exact (fit_tbs y (by omega)).1
    have h3 : outW x ≤ 1048576 := by rw [e]; have := (fit_out y (n := m) (by omega)).2; omega
    have h4 := norm_seg h1 (by omega) h3
    rw [hin] at h4
    rw [List.map_cons]
    simp only [segsE]
    rw [if_pos h4, norm_out h1 (by omega)]
    exact chn_segs W _ hr
theorem rises_range : ∀ n : Nat, n ≤ 1000 → rises ((List.range (n + 1)).map fun (i : Nat) => (i : Int)) = true := by
  have key : ∀ n : Nat, n ≤ 1001 → risesG (-1) ((List.range n).map fun (i : Nat) => (i : Int)) = true ∧ lastI (-1) ((List.range n).map fun (i : Nat) => (i : Int)) = (n : Int) - 1 := by
    intro n
    induction n with
    | zero => intro _; exact ⟨rfl, rfl⟩
    | succ n ih =>
      intro h
      obtain ⟨a, b⟩ := ih (by omega)
      have e : ((List.range (n + 1)).map fun (i : Nat) => (i : Int)) = ((List.range n).map fun (i : Nat) => (i : Int)) ++ [(n : Int)] := by rw [List.range_succ, List.map_append]; rfl
      rw [e, risesG_snoc, lastI_snoc, a, b]
      refine ⟨?_, by omega⟩
      simp only [Bool.true_and, Bool.and_eq_true, decide_eq_true_eq]; omega
  intro n hn
  refine rises_of ?_ (by simp; omega) (key (n + 1) (by omega)).1
  intro e; have := congrArg List.length e; simp at this
theorem fit_good (t : ByteArray) (l : List (List Sp)) : chE (fitL' t l) = 0 ∧ LgS (fitL' t l) ∧ (fitL' t l).base.size ≤ 4000 ∧ totb (fitL' t l).segs ≤ 10000 ∧ (fitL' t l).segs.length ≤ 20 := by
  have hs20 : (t.extract 0 (min t.size 20)).size ≤ 20 := by rw [ByteArray.size_extract]; omega
  have hb := fit_size (t.extract 0 (min t.size 20)) (by omega)
  have hv := fit_valid (t.extract 0 (min t.size 20))
  have hc := fit_count (t.extract 0 (min t.size 20))
  have hW := chO_chn l (n := countD (fitS (t.extract 0 (min t.size 20))).data.toList) (by omega)
  have hN : ∀ x ∈ chO l (countD (fitS (t.extract 0 (min t.size 20))).data.toList), (norm x).length ≤ 13 ∧ tbs (norm x) ≤ 312 := by
    intro x hx
    obtain ⟨y, m, rfl, m1, m2⟩ := chn_mem hW.1 x hx
    exact (fit_norm y (by omega)).2
  have htb : ∀ W : List (List Sp), (∀ x ∈ W, tbs (norm x) ≤ 312) → totb (W.map norm) ≤ 312 * W.length := by
    intro W
    induction W with
    | nil => intro _; simp [totb]
    | cons x W ih =>
      intro h
      have h1 := h x (by simp)
      have h2 := ih (fun y hy => h y (by simp [hy]))
      rw [List.map_cons, totb_cons, List.length_cons, Nat.mul_succ]; omega
  unfold fitL'
  generalize fitS (t.extract 0 (min t.size 20)) = b at *
  simp only
  have h4 := htb _ (fun x hx => (hN x hx).2)
  have hs := chn_segs _ _ hW.1
  refine ⟨chE_of hv (by show countD b.data.toList ≤ _; omega) (rises_range _ (by omega)) (by simp) hs, ⟨by show b.size ≤ _; omega, by simp; omega, by simp; omega, ?_⟩, hb, by have := hW.2; show totb _ ≤ _; omega, by simp; exact hW.2⟩
  intro x hx
  obtain ⟨y, hy, rfl⟩ := List.mem_map.1 hx
  exact ⟨by have := (hN y hy).1; omega, tbs_small (by have := (hN y hy).2; omega)⟩
def cmpE (a b : List Sp) : Int := if opMayF a ≠ 0 then opMayF a else if opMayF b ≠ 0 then opMayF b else if outW a ≠ inW b then 5 else 0
def cmpA (a b : List Sp) : AV := .tup [if cmpE a b = 0 then .lst 3 (sps (cmpO a b)) else nilA, .v (.int .i64 (cmpE a b))]
theorem cmpA_bad {a b : List Sp} {e : Int} (h : cmpE a b = e) (h0 : e ≠ 0) : cmpA a b = .tup [nilA, .v (.int .i64 e)] := by
  unfold cmpA; rw [h, if_neg h0]
theorem cmpA_ok {a b : List Sp} (h : cmpE a b = 0) : cmpA a b = .tup [.lst 3 (sps (cmpO a b)), .v (.int .i64 0)] := by
  unfold cmpA; rw [h, if_pos rfl]
theorem cmp_call (a b : List Sp) (la : a.length ≤ 10000000) (lb : b.length ≤ 10000000) (ta : tbs a ≤ 100000000) (tb : tbs b ≤ 100000000) (sa : Small a) (sb : Small b) :
    CallW env 113 [.lst 3 (sps a), .lst 3 (sps b)] (fun r hs => r = cmpA a b ∧ hs = []) := by
  have hA := opMay_call a (by omega) sa
  have hB := opMay_call b (by omega) sb
  by_cases ma : opMayF a = 0
  · by_cases mb : opMayF b = 0
    · by_cases ho : sumW (fun s => outF s.k s.n s.t) a = sumW (fun s => inF s.k s.n) b
      · have : cmpE a b = 0 := by unfold cmpE; rw [if_neg (by simpa using ma), if_neg (by simpa using mb), if_neg (by simpa [outW, inW] using ho)]
        rw [cmpA_ok this]
        exact cmp_ok a b la lb ta tb sa sb ma mb ho
      · have : cmpE a b = 5 := by unfold cmpE; rw [if_neg (by simpa using ma), if_neg (by simpa using mb), if_pos (by simpa [outW, inW] using ho)]
        rw [cmpA_bad this (by decide)]
        have hO := opOut_call a (by omega) sa
        have hIn := opIn_call b (by omega)
        rw [ma] at hA
        rw [mb] at hB
        refine Ev.fn [0, 1, 4, 5, 7, 8, 9, 10, 11, 12, 13, 14, 17, 18, 19, 20, 26, 33, 38, 49, 60, 80, 88] 0 [.tmp 4, .tmp 5] Tryd.func113 (comp113 _ rfl) ?_
        repeat' (first | ((refine Ev.sw ?_); conv => whnf) | refine Ev.sn ?_ | ((with_reducible refine Ev.chk_k ?_ ?_); rotate_left; exact Ev.bt; conv => whnf) | ((with_reducible (refine Ev.RI.run ?_; constructor)) <;> intro _) | ((refine Ev.sg ?_); conv => whnf) | ((with_reducible refine Ev.sided ?_ ?_); conv => whnf) | ((with_reducible refine Ev.kr (hs := []) (fun Q hQ => ?_)); (simp only [Ev.runE_cons, Ev.runE_nil]); conv => whnf) | (with_reducible refine hQ _ ?_; clear hQ Q) | ((refine Ev.sf ?_); intro F hF; conv => whnf) | (with_reducible refine hF _ ?_; clear hF F) | ((with_reducible refine Ev.go_k (fun c' => ?_)); conv => whnf) | ((first | refine Ev.el_map0 ?_ (fun hi => ?_) | refine Ev.el_mapN ?_ (fun hi => ?_)); rotate_left; conv => whnf) | ((with_reducible refine Ev.sd0 ?_); exact Ev.sd) | fail)
        refine Ev.jumps (r := ?_) 0 (fun k s => False) (by rfl) ?_ (fun _ _ h => h.elim)
        repeat' (first | ((with_reducible refine Ev.br0 ?_); (first | refine Ev.brp ?_ | refine Ev.brn ?_); conv => whnf) | ((with_reducible refine Ev.c0 ?_); first | refine Ev.cp ?_ | refine Ev.cn ?_) | (with_reducible refine Ev.c_neg ho ?_) | (with_reducible refine Ev.br_neg ho ?_) | ((refine Ev.sw ?_); conv => whnf) | refine Ev.sn ?_ | ((with_reducible refine Ev.chk_k ?_ ?_); rotate_left; exact Ev.bt; conv => whnf) | ((with_reducible (refine Ev.RI.run ?_; constructor)) <;> intro _) | ((refine Ev.sg ?_); conv => whnf) | ((with_reducible refine Ev.sided ?_ ?_); conv => whnf) | ((with_reducible refine Ev.kr (hs := []) (fun Q hQ => ?_)); (simp only [Ev.runE_cons, Ev.runE_nil]); conv => whnf) | (with_reducible refine hQ _ ?_; clear hQ Q) | ((refine Ev.sf ?_); intro F hF; conv => whnf) | (with_reducible refine hF _ ?_; clear hF F) | ((with_reducible refine Ev.go_k (fun c' => ?_)); conv => whnf) | (with_reducible refine Ev.unroll 3 ?_) | ((with_reducible refine Ev.ca0 ?_); (first | refine Ev.ca (hA) ?_ | refine Ev.ca (hB) ?_ | refine Ev.ca (hO) ?_ | refine Ev.ca (hIn) ?_); conv => whnf) | ((first | refine Ev.el_map0 ?_ (fun hi => ?_) | refine Ev.el_mapN ?_ (fun hi => ?_)); rotate_left; conv => whnf) | ((with_reducible refine Ev.sd0 ?_); exact Ev.sd) | fail)
        exact ⟨rfl, rfl⟩
    · have : cmpE a b = opMayF b := by unfold cmpE; rw [if_neg (by simpa using ma), if_pos mb]
      rw [cmpA_bad this mb]
      rw [ma] at hA
      refine Ev.fn [0, 1, 4, 5, 7, 8, 9, 10, 11, 12, 13, 14, 17, 18, 19, 20, 26, 33, 38, 49, 60, 80, 88] 0 [.tmp 4, .tmp 5] Tryd.func113 (comp113 _ rfl) ?_
      repeat' (first | ((refine Ev.sw ?_); conv => whnf) | refine Ev.sn ?_ | ((with_reducible refine Ev.chk_k ?_ ?_); rotate_left; exact Ev.bt; conv => whnf) | ((with_reducible (refine Ev.RI.run ?_; constructor)) <;> intro _) | ((refine Ev.sg ?_); conv => whnf) | ((with_reducible refine Ev.sided ?_ ?_); conv => whnf) | ((with_reducible refine Ev.kr (hs := []) (fun Q hQ => ?_)); (simp only [Ev.runE_cons, Ev.runE_nil]); conv => whnf) | (with_reducible refine hQ _ ?_; clear hQ Q) | ((refine Ev.sf ?_); intro F hF; conv => whnf) | (with_reducible refine hF _ ?_; clear hF F) | ((with_reducible refine Ev.go_k (fun c' => ?_)); conv => whnf) | ((first | refine Ev.el_map0 ?_ (fun hi => ?_) | refine Ev.el_mapN ?_ (fun hi => ?_)); rotate_left; conv => whnf) | ((with_reducible refine Ev.sd0 ?_); exact Ev.sd) | fail)
      refine Ev.jumps (r := ?_) 0 (fun k s => False) (by rfl) ?_ (fun _ _ h => h.elim)
      repeat' (first | ((with_reducible refine Ev.br0 ?_); (first | refine Ev.brp ?_ | refine Ev.brn ?_); conv => whnf) | ((with_reducible refine Ev.c0 ?_); first | refine Ev.cp ?_ | refine Ev.cn ?_) | (with_reducible refine Ev.c_neg mb ?_) | (with_reducible refine Ev.br_neg mb ?_) | ((refine Ev.sw ?_); conv => whnf) | refine Ev.sn ?_ | ((with_reducible refine Ev.chk_k ?_ ?_); rotate_left; exact Ev.bt; conv => whnf) | ((with_reducible (refine Ev.RI.run ?_; constructor)) <;> intro _) | ((refine Ev.sg ?_); conv => whnf) | ((with_reducible refine Ev.sided ?_ ?_); conv => whnf) | ((with_reducible refine Ev.kr (hs := []) (fun Q hQ => ?_)); (simp only [Ev.runE_cons, Ev.runE_nil]); conv => whnf) | (with_reducible refine hQ _ ?_; clear hQ Q) | ((refine Ev.sf ?_); intro F hF; conv => whnf) | (with_reducible refine hF _ ?_; clear hF F) | ((with_reducible refine Ev.go_k (fun c' => ?_)); conv => whnf) | (with_reducible refine Ev.unroll 3 ?_) | ((with_reducible refine Ev.ca0 ?_); (first | refine Ev.ca (hA) ?_ | refine Ev.ca (hB) ?_); conv => whnf) | ((first | refine Ev.el_map0 ?_ (fun hi => ?_) | refine Ev.el_mapN ?_ (fun hi => ?_)); rotate_left; conv => whnf) | ((with_reducible refine Ev.sd0 ?_); exact Ev.sd) | fail)
      exact ⟨rfl, rfl⟩
  · have : cmpE a b = opMayF a := by unfold cmpE; rw [if_pos ma]
    rw [cmpA_bad this ma]
    refine Ev.fn [0, 1, 4, 5, 7, 8, 9, 10, 11, 12, 13, 14, 17, 18, 19, 20, 26, 33, 38, 49, 60, 80, 88] 0 [.tmp 4, .tmp 5] Tryd.func113 (comp113 _ rfl) ?_
    repeat' (first | ((refine Ev.sw ?_); conv => whnf) | refine Ev.sn ?_ | ((with_reducible refine Ev.chk_k ?_ ?_); rotate_left; exact Ev.bt; conv => whnf) | ((with_reducible (refine Ev.RI.run ?_; constructor)) <;> intro _) | ((refine Ev.sg ?_); conv => whnf) | ((with_reducible refine Ev.sided ?_ ?_); conv => whnf) | ((with_reducible refine Ev.kr (hs := []) (fun Q hQ => ?_)); (simp only [Ev.runE_cons, Ev.runE_nil]); conv => whnf) | (with_reducible refine hQ _ ?_; clear hQ Q) | ((refine Ev.sf ?_); intro F hF; conv => whnf) | (with_reducible refine hF _ ?_; clear hF F) | ((with_reducible refine Ev.go_k (fun c' => ?_)); conv => whnf) | ((first | refine Ev.el_map0 ?_ (fun hi => ?_) | refine Ev.el_mapN ?_ (fun hi => ?_)); rotate_left; conv => whnf) | ((with_reducible refine Ev.sd0 ?_); exact Ev.sd) | fail)
    refine Ev.jumps (r := ?_) 0 (fun k s => False) (by rfl) ?_ (fun _ _ h => h.elim)
    repeat' (first | ((with_reducible refine Ev.br0 ?_); (first | refine Ev.brp ?_ | refine Ev.brn ?_); conv => whnf) | ((with_reducible refine Ev.c0 ?_); first | refine Ev.cp ?_ | refine Ev.cn ?_) | (with_reducible refine Ev.c_neg ma ?_) | (with_reducible refine Ev.br_neg ma ?_) | ((refine Ev.sw ?_); conv => whnf) | refine Ev.sn ?_ | ((with_reducible refine Ev.chk_k ?_ ?_); rotate_left; exact Ev.bt; conv => whnf) | ((with_reducible (refine Ev.RI.run ?_; constructor)) <;> intro _) | ((refine Ev.sg ?_); conv => whnf) | ((with_reducible refine Ev.sided ?_ ?_); conv => whnf) | ((with_reducible refine Ev.kr (hs := []) (fun Q hQ => ?_)); (simp only [Ev.runE_cons, Ev.runE_nil]); conv => whnf) | (with_reducible refine hQ _ ?_; clear hQ Q) | ((refine Ev.sf ?_); intro F hF; conv => whnf) | (with_reducible refine hF _ ?_; clear hF F) | ((with_reducible refine Ev.go_k (fun c' => ?_)); conv => whnf) | (with_reducible refine Ev.unroll 3 ?_) | ((with_reducible refine Ev.ca0 ?_); (first | refine Ev.ca (hA) ?_ | refine Ev.ca (hB) ?_); conv => whnf) | ((first | refine Ev.el_map0 ?_ (fun hi => ?_) | refine Ev.el_mapN ?_ (fun hi => ?_)); rotate_left; conv => whnf) | ((with_reducible refine Ev.sd0 ?_); exact Ev.sd) | fail)
    exact ⟨rfl, rfl⟩
theorem comp83 : ∀ c, Tryd.f83.body = some c → comp c = (.seq (.reg 0 [I.n 0 4 I.sn]) (.seq (.seq (.reg 1 [I.n 0 5 (I.mv 0), I.n 1 6 (I.ic 23 5 0), I.n 2 7 (I.fa 35 6 1), I.n 3 8 (I.ld 3 7), I.n 4 9 (I.mv 1), I.n 5 10 (I.bo .sub 3 8 9 3), I.n 6 11 (I.ic 23 5 0), I.n 7 12 (I.fa 35 11 1), I.u 8 (I.st 3 12 10)]) (.seq (.reg 2 [I.n 0 13 (I.mv 0), I.n 1 14 (I.ic 23 13 0), I.n 2 15 (I.fa 35 14 1), I.n 3 16 (I.ld 3 15), I.n 4 17 (I.bc .eql 3 16 0 3)]) (.cond (.tmp 17) (.seq (.reg 3 [I.n 0 18 (I.mv 0), I.n 1 19 (.slice 23 (.tmp 18) (some (.const (Value.int .i64 1))) none none), I.n 2 4 (I.sa 19)]) .ret) .skip))) (.seq (.reg 4 [I.n 0 20 (I.mv 0), I.n 1 4 (I.sa 20)]) .ret))) := by
  intro c h
  have : c = Tryd.f83.body.get rfl := by rw [← Option.some_inj, ← h]; rfl
  rw [this]; rfl
def RdO (x E : List Sp) (off : Nat) : Prop := off + x.length ≤ E.length ∧ (E.drop off).take x.length = x
theorem RdO.cons {s : Sp} {l E : List Sp} {off : Nat} (h : RdO (s :: l) E off) : ∃ h : off < E.length, E[off] = s ∧ RdO l E (off + 1) := by
  obtain ⟨h1, h2⟩ := h
  simp only [List.length_cons] at h1 h2
  have hlt : off < E.length := by omega
  rw [List.drop_eq_getElem_cons hlt, List.take_succ_cons] at h2
  injection h2 with a b
  exact ⟨hlt, a, by omega, b⟩
theorem RdO.set {s u : Sp} {l E : List Sp} {off : Nat} (h : RdO (s :: l) E off) : RdO (u :: l) (E.set off u) off ∧ RdO l (E.set off u) (off + 1) := by
  obtain ⟨h1, h2, h3, h4⟩ := h.cons
  have e : RdO l (E.set off u) (off + 1) := ⟨by simpa using h3, by rw [List.drop_set_of_lt (by omega)]; exact h4⟩
  refine ⟨⟨by have := h.1; simpa using this, ?_⟩, e⟩
  have hlt : off < (E.set off u).length := by simpa using h1
  rw [List.drop_eq_getElem_cons hlt, List.length_cons, List.take_succ_cons, e.2, List.getElem_set_self]
theorem Inv.row_ren {E : Env} {M0 : Bas} {w0 : World} {c : Nat} {M : Mem} {J : Locs} {W : World} {R R' sz ty v frz : Nat} {es : List (List AV)} (inv : Inv E M0 w0 c M J ⟨[], [(R, ⟨sz, ty, v, frz, false, es⟩)], 0⟩ #[] W) :
    Inv E M0 w0 c M J ⟨[], [(R', ⟨sz, ty, v, frz, false, es⟩)], 0⟩ #[] W := by
  have gR : get [(R, (⟨sz, ty, v, frz, false, es⟩ : Blk))] R = some ⟨sz, ty, v, frz, false, es⟩ := by rw [get_cons, if_pos rfl]
  have out : ∀ {r : Nat} {k : Blk}, get [(R', (⟨sz, ty, v, frz, false, es⟩ : Blk))] r = some k → r = R' ∧ k = ⟨sz, ty, v, frz, false, es⟩ := by
    intro r k h
    rw [get_cons] at h
    split at h
    · rename_i e; exact ⟨e, (Option.some.inj h).symm⟩
    · rw [get_nil] at h; cases h
  refine ⟨inv.below, inv.mem, inv.newM, inv.oldM, inv.glob, fun t x h => by simp [get_nil] at h, ?_, ?_, ?_, inv.vers, inv.oldJ, inv.far⟩
  · intro r k hk
    obtain ⟨rfl, rfl⟩ := out hk
    exact inv.heap _ _ gR
  · intro r r' k k' L L' hk hk' hL hL' hN hN' hr
    obtain ⟨rfl, rfl⟩ := out hk
    obtain ⟨rfl, rfl⟩ := out hk'
    exact absurd rfl hr
  · intro r k L o u hk hL hN hu
    obtain ⟨rfl, rfl⟩ := out hk
    exact inv.owns _ _ L o u gR hL hN hu
abbrev rwH (R v : Nat) (E : List Sp) : List (Nat × Blk) := [(R, ⟨3, 35, v, 0, false, sps E⟩)]
theorem less_raw (v : Nat) {s : Sp} {l E : List Sp} {off n : Nat} (h : RdO (s :: l) E off) (hs : SpOK s) (hk : s.k ≠ 2) (hm : n ≤ szS s) :
    HCallW env 65536 83 [.own 7000 v off (l.length + 1), .v (.int .i64 n)] (rwH 7000 v E) (fun r hp1 => ∃ (E' : List Sp) (off' : Nat), r = .own 7000 v off' (lessS s n l).length ∧ hp1 = (7000, ⟨3, 35, v, 0, false, sps E'⟩) :: rwH 7000 v E ∧ RdO (lessS s n l) E' off') := by
  have hE := sps_len E
  obtain ⟨h1, h2, h3⟩ := h.cons
  have hl : off + (l.length + 1) ≤ E.length := h.1
  obtain ⟨hn, ht⟩ : (0 ≤ s.n ∧ s.n ≤ 1048576) ∧ s.t = ⟨#[]⟩ := by
    rcases hs.cases with ⟨a, b, c, d⟩ | ⟨a, b, c⟩
    · exact ⟨⟨b, c⟩, d⟩
    · exact absurd a hk
  rw [szS_not hk] at hm
  obtain ⟨r1, r2⟩ := h.set (u := rstS s n)
  have hst : rstS s n = ⟨s.k, s.n - n, ⟨#[]⟩⟩ := rstS_not n hk
  have hE0 : ∀ h : off + Int.toNat 0 < E.length, E[off + Int.toNat 0]'h = s := fun _ => h2
  have hrow : ∀ h : off + Int.toNat 0 < E.length, (sps E).set (off + Int.toNat 0) (withCells (spC (E[off + Int.toNat 0]'h)) (0 + 1) [.v (.int .i64 (IntKind.i64.wrap ((E[off + Int.toNat 0]'h).n - n)))]) = sps (E.set off (rstS s n)) := by
    intro h
    rw [hE0 h, wrap_id (by omega), ← sps_set, hst]
    obtain ⟨k, m, t⟩ := s
    simp only at ht
    subst ht
    rfl
  unfold lessS
  rw [szS_not hk]
  by_cases hz : s.n.toNat = n
  · rw [if_pos hz]
    have hw : ∀ h : off + Int.toNat 0 < E.length, IntKind.i64.wrap ((E[off + Int.toNat 0]'h).n - n) = 0 := fun h => by rw [hE0 h, wrap_id (by omega)]; omega
    refine Ev.fnH [0, 1, 4, 17] 65536 [.tmp 4] Tryd.func83 (comp83 _ rfl) (fun ct => ?_)
    repeat' (first | ((refine Ev.sw ?_); conv => whnf) | refine Ev.sn ?_ | ((with_reducible refine Ev.chk_k ?_ ?_); rotate_left; exact Ev.bt; conv => whnf) | ((with_reducible (refine Ev.RI.run ?_; constructor)) <;> intro _) | ((refine Ev.sg ?_); conv => whnf) | ((with_reducible refine Ev.sided ?_ ?_); conv => whnf) | ((with_reducible refine Ev.kr (hs := []) (fun Q hQ => ?_)); (simp only [Ev.runE_cons, Ev.runE_nil]); conv => whnf) | (with_reducible refine hQ _ ?_; clear hQ Q) | ((refine Ev.sf ?_); intro F hF; conv => whnf) | (with_reducible refine hF _ ?_; clear hF F) | ((with_reducible refine Ev.go_k (fun c' => ?_)); conv => whnf) | ((refine el_set (by rw [sps_len]; omega) ?_); conv => whnf) | ((first | refine Ev.el_map0 ?_ (fun hi => ?_) | refine Ev.el_mapN ?_ (fun hi => ?_)); rotate_left; conv => whnf) | ((with_reducible refine Ev.sd0 ?_); exact Ev.sd) | fail)
    · exact ⟨_, off + 1, rfl, congrArg (fun e => (7000, (⟨3, 35, v, 0, false, e⟩ : Blk)) :: rwH 7000 v E) (hrow _), r2⟩
    · exact absurd (hw _) (by assumption)
  · rw [if_neg hz]
    have hw : ∀ h : off + Int.toNat 0 < E.length, ¬ IntKind.i64.wrap ((E[off + Int.toNat 0]'h).n - n) = 0 := fun h => by rw [hE0 h, wrap_id (by omega)]; omega
    refine Ev.fnH [0, 1, 4, 17] 65536 [.tmp 4] Tryd.func83 (comp83 _ rfl) (fun ct => ?_)
    repeat' (first | ((refine Ev.sw ?_); conv => whnf) | refine Ev.sn ?_ | ((with_reducible refine Ev.chk_k ?_ ?_); rotate_left; exact Ev.bt; conv => whnf) | ((with_reducible (refine Ev.RI.run ?_; constructor)) <;> intro _) | ((refine Ev.sg ?_); conv => whnf) | ((with_reducible refine Ev.sided ?_ ?_); conv => whnf) | ((with_reducible refine Ev.kr (hs := []) (fun Q hQ => ?_)); (simp only [Ev.runE_cons, Ev.runE_nil]); conv => whnf) | (with_reducible refine hQ _ ?_; clear hQ Q) | ((refine Ev.sf ?_); intro F hF; conv => whnf) | (with_reducible refine hF _ ?_; clear hF F) | ((with_reducible refine Ev.go_k (fun c' => ?_)); conv => whnf) | ((refine el_set (by rw [sps_len]; omega) ?_); conv => whnf) | ((first | refine Ev.el_map0 ?_ (fun hi => ?_) | refine Ev.el_mapN ?_ (fun hi => ?_)); rotate_left; conv => whnf) | ((with_reducible refine Ev.sd0 ?_); exact Ev.sd) | fail)
    · exact absurd (by assumption) (hw _)
    · exact ⟨_, off, rfl, congrArg (fun e => (7000, (⟨3, 35, v, 0, false, e⟩ : Blk)) :: rwH 7000 v E) (hrow _), r1⟩
theorem less_call (v : Nat) {s : Sp} {l E : List Sp} {off n : Nat} (h : RdO (s :: l) E off) (hs : SpOK s) (hk : s.k ≠ 2) (hm : n ≤ szS s) :
    HCallW env 65536 83 [.own 7000 v off (l.length + 1), .v (.int .i64 n)] (rwH 7000 v E) (fun r hp1 => ∃ (E' : List Sp) (off' : Nat), r = .own 7000 v off' (lessS s n l).length ∧ hp1 = rwH 7000 v E' ∧ RdO (lessS s n l) E' off') := by
  refine hcall_sub (less_raw v h hs hk hm) ?_
  rintro r hp1 ⟨E', off', rfl, rfl, h'⟩
  exact ⟨rwH 7000 v E', ⟨E', off', rfl, rfl, h'⟩, ⟨Ev.slot_eq rfl rfl, trivial⟩⟩
theorem comp36 : ∀ c, Tryd.f36.body = some c → comp c = (.seq (.reg 0 [I.n 0 4 (.alloc 23), I.n 1 5 (I.si 0)]) (.seq (.seq (.reg 1 [I.n 0 10 (I.mv 0), I.n 1 11 (I.mv 1), I.n 2 12 (.buildSlice 22 2 #[(0, .tmp 10), (1, .tmp 11)]), I.n 3 13 (I.ln 12 22), I.n 4 14 (.move (.const (Value.int .i64 0)))]) (.block 0 (.loop (.seq (.reg 2 [I.n 0 15 (I.bo .lss 3 14 13 3)]) (.seq (.cond (.tmp 15) .skip (.exit 0)) (.seq (.block 1 (.seq (.reg 3 [I.n 0 16 (I.ia 22 12 14), I.n 1 17 (I.ld 23 16), I.n 2 7 (I.sa 17)]) (.seq (.reg 4 [I.n 0 18 (I.mv 7), I.n 1 19 (I.c1 72 18 23), I.n 2 8 (I.sa 19)]) (.seq (.reg 5 [I.n 0 20 (I.mv 8), I.n 1 21 (I.bc .neq 30 20 0 30)]) (.cond (.tmp 21) (.seq (.reg 6 [I.n 0 22 (I.mv 8), I.u 1 (.store 23 (.tmp 4) (.const (Value.slice none 0 0))), I.n 2 5 (I.sa 22)]) .ret) .skip))))) (.reg 7 [I.n 0 23 (I.bc .add 3 14 1 3), I.n 1 14 (I.mv 23)]))))))) (.seq (.seq (.reg 8 [I.n 0 24 (I.mv 0), I.n 1 25 (I.c1 74 24 23), I.n 2 26 (I.mv 1), I.n 3 27 (I.c1 74 26 23), I.n 4 28 (I.bo .neq 3 25 27 3)]) (.cond (.tmp 28) (.seq (.reg 9 [I.u 0 (.store 23 (.tmp 4) (.const (Value.slice none 0 0))), I.n 1 5 (I.si 5)]) .ret) .skip)) (.seq (.reg 10 [I.n 0 29 (.makeFunc (.func 81) #[] #[.tmp 4]), I.u 1 (.defer { callee := .value (.tmp 29), args := #[], argTypes := #[] })]) (.seq (.reg 11 [I.n 0 30 (I.mv 0), I.n 1 31 (I.c1 35 30 23), I.n 2 32 (I.mv 1), I.n 3 33 (I.c1 35 32 23), I.n 4 0 (I.sa 31), I.n 5 1 (I.sa 33)]) (.seq (.block 2 (.loop (.seq (.seq (.reg 12 [I.n 0 34 (I.mv 0), I.n 1 35 (I.ln 34 23), I.n 2 36 (I.bc .gtr 3 35 0 3), I.n 3 37 (I.mv 36), I.w 4 38 (I.mv 1) 37 false, I.w 5 39 (I.ln 38 23) 37 false, I.w 6 40 (I.bc .gtr 3 39 0 3) 37 false, I.n 7 41 (I.pb 37 true 40)]) (.cond (.tmp 41) .skip (.exit 2))) (.block 3 (.block 4 (.seq (.reg 17 [I.n 0 72 (I.mv 1), I.n 1 73 (I.ln 72 23), I.n 2 74 (I.bc .gtr 3 73 0 3), I.n 3 75 (I.mv 74), I.w 4 76 (I.mv 1) 75 true, I.w 5 77 (I.ic 23 76 0) 75 true, I.w 6 78 (I.fa 35 77 0) 75 true, I.w 7 79 (I.ld 3 78) 75 true, I.w 8 80 (I.bc .eql 3 79 2 3) 75 true, I.n 9 81 (I.pc 75 80 false), I.n 10 71 (I.sa 81)]) (.cond (.tmp 71) (.seq (.draw 18 [I.n 0 82 (I.ld 23 4), I.n 1 83 (I.mv 1), I.n 2 84 (I.ic 23 83 0), I.n 3 85 (I.ld 35 84), I.n 4 86 (I.c1 82 85 35), I.n 5 87 (.build 35 #[(0, .const (Value.int .i64 1)), (1, .tmp 86)]), I.n 6 88 (I.b1 23 87), I.n 7 89 (I.ap 82 88 23 23), I.u 8 (I.st 23 4 89)] [[], [], [1], [2], [3], [4], [5], [0, 6, 4], [7, 7, 0, 1, 2, 3, 4, 5, 6, 7]]) (.reg 19 [I.n 0 90 (I.mv 1), I.n 1 91 (.slice 23 (.tmp 90) (some (.const (Value.int .i64 1))) none none), I.n 2 1 (I.sa 91)])) (.seq (.reg 20 [I.n 0 93 (I.mv 0), I.n 1 94 (I.ln 93 23), I.n 2 95 (I.bc .gtr 3 94 0 3), I.n 3 96 (I.mv 95), I.w 4 97 (I.mv 0) 96 true, I.w 5 98 (I.ic 23 97 0) 96 true, I.w 6 99 (I.fa 35 98 0) 96 true, I.w 7 100 (I.ld 3 99) 96 true, I.w 8 101 (I.bc .eql 3 100 2 3) 96 true, I.n 9 102 (I.pc 96 101 false), I.n 10 92 (I.sa 102)]) (.cond (.tmp 92) (.seq (.draw 21 [I.n 0 103 (I.ld 23 4), I.n 1 104 (I.mv 0), I.n 2 105 (I.ic 23 104 0), I.n 3 106 (I.ld 35 105), I.n 4 107 (I.b1 23 106), I.n 5 108 (I.ap 103 107 23 23), I.u 6 (I.st 23 4 108)] [[], [], [1], [2], [3], [0, 4], [5, 5, 0, 1, 2, 3, 4, 5]]) (.reg 22 [I.n 0 109 (I.mv 0), I.n 1 110 (.slice 23 (.tmp 109) (some (.const (Value.int .i64 1))) none none), I.n 2 0 (I.sa 110)])) (.seq (.draw 13 [I.n 0 42 (I.mv 0), I.n 1 43 (I.ic 23 42 0), I.n 2 44 (I.fa 35 43 1), I.n 3 45 (I.ld 3 44), I.n 4 46 (I.mv 1), I.n 5 47 (I.ic 23 46 0), I.n 6 48 (I.fa 35 47 1), I.n 7 49 (I.ld 3 48), I.n 8 50 (.call { callee := .builtin .min, args := #[.tmp 45, .tmp 49], argTypes := #[3, 3] }), I.n 9 9 (I.sa 50)] [[], [0], [1], [2], [], [4], [5], [6], [3, 7], [8, 0, 1, 2, 3, 4, 5, 6, 7, 8]]) (.seq (.seq (.reg 14 [I.n 0 51 (I.mv 1), I.n 1 52 (I.ic 23 51 0), I.n 2 53 (I.fa 35 52 0), I.n 3 54 (I.ld 3 53), I.n 4 55 (I.bc .eql 3 54 1 3)]) (.cond (.tmp 55) (.draw 15 [I.n 0 56 (I.ld 23 4), I.n 1 57 (I.mv 0), I.n 2 58 (I.ic 23 57 0), I.n 3 59 (I.fa 35 58 0), I.n 4 60 (I.ld 3 59), I.n 5 61 (I.mv 9), I.n 6 62 (.build 35 #[(0, .tmp 60), (1, .tmp 61)]), I.n 7 63 (I.b1 23 62), I.n 8 64 (I.ap 56 63 23 23), I.u 9 (I.st 23 4 64)] [[], [], [1], [2], [3], [], [4, 5], [6], [0, 7], [8, 8, 0, 1, 2, 3, 4, 5, 6, 7, 8]]) .skip)) (.reg 16 [I.n 0 65 (I.mv 0), I.n 1 66 (I.mv 9), I.n 2 67 (I.c2 83 65 66 23 3), I.n 3 68 (I.mv 1), I.n 4 69 (I.mv 9), I.n 5 70 (I.c2 83 68 69 23 3), I.n 6 0 (I.sa 67), I.n 7 1 (I.sa 70)])))))))))))) (.seq (.reg 23 [I.n 0 111 (I.ld 23 4), I.u 1 (I.st 23 4 111), I.n 2 5 (I.si 0)]) .ret))))))) := by
  intro c h
  have : c = Tryd.f36.body.get rfl := by rw [← Option.some_inj, ← h]; rfl
  rw [this]; rfl
theorem comp81 : ∀ c, Tryd.f81.body = some c → comp c = (.reg 0 [I.n 0 1 (I.ld 23 0), I.n 1 2 (I.c1 35 1 23), I.u 2 (I.st 23 0 2)]) := by
  intro c h
  have : c = Tryd.f81.body.get rfl := by rw [← Option.some_inj, ← h]; rfl
  rw [this]; rfl
theorem ovrd_call (v0 v : Nat) (C : List Sp) (hl : C.length ≤ 100000000) (hb : tbs C ≤ 1000000000) :
    DCallW env 81 [.ptr 0 v0 0 0] [(0, ⟨1, 23, v0, 0, true, [[.own 9000 v 0 C.length]]⟩), (9000, ⟨3, 35, v, 0, false, sps C⟩)]
      (fun h => h = [(0, ⟨1, 23, v0, 0, true, [[.lst 3 (sps (norm C))]]⟩), (9000, ⟨3, 35, v, max 0 (min (0 + C.length) (sps C).length), false, sps C⟩), (0, ⟨1, 23, v0, 0, true, [[.own 9000 v 0 C.length]]⟩), (9000, ⟨3, 35, v, 0, false, sps C⟩)]) := by
  have hE := sps_len C
  refine Ev.fnD [0] 65536 [] Tryd.func81 (comp81 _ rfl) (fun ct => ?_)
  repeat' (first | ((refine Ev.sw ?_); conv => whnf) | refine Ev.sn ?_ | ((with_reducible refine Ev.chk_k ?_ ?_); rotate_left; exact Ev.bt; conv => whnf) | ((with_reducible (refine Ev.RI.run ?_; constructor)) <;> intro _) | ((refine Ev.sg ?_); conv => whnf) | ((with_reducible refine Ev.sided ?_ ?_); conv => whnf) | ((with_reducible refine Ev.kr (hs := []) (fun Q hQ => ?_)); (simp only [Ev.runE_cons, Ev.runE_nil]); conv => whnf) | (with_reducible refine hQ _ ?_; clear hQ Q) | ((refine Ev.sf ?_); intro F hF; conv => whnf) | (with_reducible refine hF _ ?_; clear hF F) | ((with_reducible refine Ev.go_k (fun c' => ?_)); conv => whnf) | ((with_reducible refine Ev.ca0 ?_); (first | refine Ev.ca (nof_call C hl hb) ?_); conv => whnf) | ((first | refine Ev.el_map0 ?_ (fun hi => ?_) | refine Ev.el_mapN ?_ (fun hi => ?_)); rotate_left; conv => whnf) | ((with_reducible refine Ev.sd0 ?_); exact Ev.sd) | fail)
  rfl
theorem lessX {nm ct n : Nat} {ni : Int} {hp : List (Nat × Blk)} {K : AV → List (Nat × Blk) → Nat → Prop} (B : Nat) (F : List (Nat × Blk)) {v : Nat} {s : Sp} {l E : List Sp} {off : Nat} (h : RdO (s :: l) E off) (hok : SpOK s) (hk2 : s.k ≠ 2) (hm : n ≤ szS s) (hni : ni = (n : Int))
    (hs : subs hp (rwH B v E)) (hF : subs hp F) (hB : get F B = none)
    (hk : ∀ E' off', RdO (lessS s n l) E' off' → ∀ c', ct + 8 ≤ c' → K (.own B v off' (lessS s n l).length) (rwH B v E' ++ F) c') : Ev.HCallX env nm 83 [.own B v off (l.length + 1), .v (.int .i64 ni)] hp ct K := by
  subst hni
  have hc := less_call v h hok hk2 hm
  have hc' : HCallW env 65536 83 [.own B v off (l.length + 1), .v (.int .i64 n)] (rwH B v E) (fun r hp1 => ∃ (E' : List Sp) (off' : Nat), r = .own B v off' (lessS s n l).length ∧ hp1 = rwH B v E' ∧ RdO (lessS s n l) E' off') := by
    intro M0 w0 c M J W vs inv hn hr
    obtain ⟨a, b⟩ := hc M0 w0 c M J W vs (inv.row_ren (R' := 7000)) hn (fun i x v hx hv => by
      cases i with
      | zero => obtain rfl := Option.some.inj hx; exact own_ren (hr 0 _ v rfl hv)
      | succ i => exact hr (i + 1) x v hx hv)
    refine ⟨a, b.mono ?_⟩
    rintro e w' ⟨v, r, hp1, c', M', J', x1, ⟨E', off', rfl, rfl, x2⟩, x3, x4, x5⟩
    exact ⟨v, _, _, c', M', J', x1, ⟨E', off', rfl, rfl, x2⟩, x3.row_ren, own_ren x4, x5⟩
  refine Ev.hcall_frame F hc' rfl hs hF ?_ ?_
  · intro r hr
    rw [get_cons, get_nil] at hr
    split at hr
    · rename_i e; rw [e]; exact hB
    · exact absurd rfl hr
  · rintro r hp1 ⟨E', off', rfl, rfl, h'⟩
    refine ⟨fun q hq => ?_, hk E' off' h'⟩
    rw [get_cons, get_nil] at hq
    split at hq
    · rename_i e; rw [e]; exact hB
    · exact absurd rfl hq
theorem ovr_in {a s : List Sp} (ma : opMayF a = 0) (ms : opMayF s = 0) (la : a.length ≤ 10000000) (ls : s.length ≤ 10000000) (ho : inW a = inW s) : sumI inS a = sumI inS s := by
  have h1 := (OpS.of ma (by omega)).2
  have h2 := (OpS.of ms (by omega)).2
  omega
set_option maxHeartbeats 8000000 in
theorem ovr_ok (a b : List Sp) (la : a.length ≤ 10000000) (lb : b.length ≤ 10000000) (ta : tbs a ≤ 100000000) (tb : tbs b ≤ 100000000) (sa : Small a) (sb : Small b) (ma : opMayF a = 0) (mb : opMayF b = 0)
    (ho : inW a = inW b) (hb : sumI outS b ≤ 1048576) : CallW env 36 [.lst 3 (sps a), .lst 3 (sps b)] (fun r hs => r = .tup [.lst 3 (sps (ovrO a b)), .v (.int .i64 0)] ∧ hs = []) := by
  have hA := opMay_call a (by omega) sa
  have hB := opMay_call b (by omega) sb
  rw [ma] at hA
  rw [mb] at hB
  have hIa := opIn_call a (by omega)
  have hIb := opIn_call b (by omega)
  have hoo : sumW (fun s => inF s.k s.n) a = sumW (fun s => inF s.k s.n) b := ho
  rw [hoo] at hIa
  have oa := (OpS.of ma (by omega)).1
  have ob := (OpS.of mb (by omega)).1
  have na := oa.norm
  have nb := ob.norm
  have ho' := ovr_in ma mb la lb ho
  have hco := ovrO_all oa ob ho' hb
  have hmm : inM (mks (norm a)) = inM (mks (norm b)) := by
    have e1 := mks_size oa.all
    have e2 := mks_size ob.all
    rw [na.2.2.1, nb.2.2.1]; omega
  have hob : outM (mks (norm b)) ≤ 1048576 := by
    have e2 := mks_size ob.all
    rw [nb.2.2.1]; omega
  obtain ⟨C, hC⟩ : ∃ C, C = ovrS ((norm a).length + (norm b).length) (norm a) (norm b) := ⟨_, rfl⟩
  have hcC : Abs.norm C = ovrO a b := by rw [hC]; exact hco.2.2.2.1
  have hcL : C.length ≤ 20000000 ∧ tbs C ≤ 100000000 := by
    have h1 := hco.2.2.2.2.2.2.1
    have h2 := hco.2.2.2.2.2.2.2.1
    rw [hC]; omega
  refine Ev.fnV [0, 1, 4, 5, 7, 8, 9, 12, 13, 14, 15, 21, 28, 41, 55, 71, 92] 0 [.cell 4 23, .tmp 5] Tryd.func36 (comp36 _ rfl) ?_
  refine Ev.d_seq ?_
  repeat' (first | ((refine Ev.sw ?_); conv => whnf) | refine Ev.sn ?_ | ((with_reducible refine Ev.chk_k ?_ ?_); rotate_left; exact Ev.bt; conv => whnf) | ((with_reducible (refine Ev.RI.run ?_; constructor)) <;> intro _) | ((refine Ev.sg ?_); conv => whnf) | ((with_reducible refine Ev.sided ?_ ?_); conv => whnf) | ((with_reducible refine Ev.kr (hs := []) (fun Q hQ => ?_)); (simp only [Ev.runE_cons, Ev.runE_nil]); conv => whnf) | (with_reducible refine hQ _ ?_; clear hQ Q) | ((refine Ev.sf ?_); intro F hF; conv => whnf) | (with_reducible refine hF _ ?_; clear hF F) | ((with_reducible refine Ev.go_k (fun c' => ?_)); conv => whnf) | ((with_reducible refine Ev.dr0 ?_); (first | refine Ev.dr 18 [] [0, 1, 2, 3, 4, 5, 6, 7, 8] ?_ | refine Ev.dr 21 [] [0, 1, 2, 3, 4, 5, 6] ?_ | refine Ev.dr 13 [] [0, 1, 2, 3, 4, 5, 6, 7, 8, 9] ?_ | refine Ev.dr 15 [] [0, 1, 5, 2, 3, 4, 6, 7, 8, 9] ?_); intro Q hQ; (simp only [Ev.runE_cons, Ev.runE_nil]); conv => whnf) | ((first | refine Ev.el_map0 ?_ (fun hi => ?_) | refine Ev.el_mapN ?_ (fun hi => ?_)); rotate_left; conv => whnf) | ((with_reducible refine Ev.sd0 ?_); exact Ev.sd) | fail)
  refine Ev.d_seq ?_
  repeat' (first | ((with_reducible refine Ev.br0 ?_); (first | refine Ev.brp ?_ | refine Ev.brn ?_); conv => whnf) | ((with_reducible refine Ev.c0 ?_); first | refine Ev.cp ?_ | refine Ev.cn ?_) | ((refine Ev.sw ?_); conv => whnf) | refine Ev.sn ?_ | ((with_reducible refine Ev.chk_k ?_ ?_); rotate_left; exact Ev.bt; conv => whnf) | ((with_reducible (refine Ev.RI.run ?_; constructor)) <;> intro _) | ((refine Ev.sg ?_); conv => whnf) | ((with_reducible refine Ev.sided ?_ ?_); conv => whnf) | ((with_reducible refine Ev.kr (hs := []) (fun Q hQ => ?_)); (simp only [Ev.runE_cons, Ev.runE_nil]); conv => whnf) | (with_reducible refine hQ _ ?_; clear hQ Q) | ((refine Ev.sf ?_); intro F hF; conv => whnf) | (with_reducible refine hF _ ?_; clear hF F) | ((with_reducible refine Ev.go_k (fun c' => ?_)); conv => whnf) | (with_reducible refine Ev.unroll 3 ?_) | ((with_reducible refine Ev.ca0 ?_); (first | refine Ev.ca (hA) ?_ | refine Ev.ca (hB) ?_); conv => whnf) | ((with_reducible refine Ev.dr0 ?_); (first | refine Ev.dr 18 [] [0, 1, 2, 3, 4, 5, 6, 7, 8] ?_ | refine Ev.dr 21 [] [0, 1, 2, 3, 4, 5, 6] ?_ | refine Ev.dr 13 [] [0, 1, 2, 3, 4, 5, 6, 7, 8, 9] ?_ | refine Ev.dr 15 [] [0, 1, 5, 2, 3, 4, 6, 7, 8, 9] ?_); intro Q hQ; (simp only [Ev.runE_cons, Ev.runE_nil]); conv => whnf) | ((first | refine Ev.el_map0 ?_ (fun hi => ?_) | refine Ev.el_mapN ?_ (fun hi => ?_)); rotate_left; conv => whnf) | ((with_reducible refine Ev.sd0 ?_); exact Ev.sd) | fail)
  refine Ev.d_seq ?_
  have hxx : sumW (fun s => inF s.k s.n) b = sumW (fun s => inF s.k s.n) b := rfl
  repeat' (first | (with_reducible refine Ev.c_pos hxx ?_) | (with_reducible refine Ev.br_pos hxx ?_) | ((with_reducible refine Ev.br0 ?_); (first | refine Ev.brp ?_ | refine Ev.brn ?_); conv => whnf) | ((with_reducible refine Ev.c0 ?_); first | refine Ev.cp ?_ | refine Ev.cn ?_) | ((refine Ev.sw ?_); conv => whnf) | refine Ev.sn ?_ | ((with_reducible refine Ev.chk_k ?_ ?_); rotate_left; exact Ev.bt; conv => whnf) | ((with_reducible (refine Ev.RI.run ?_; constructor)) <;> intro _) | ((refine Ev.sg ?_); conv => whnf) | ((with_reducible refine Ev.sided ?_ ?_); conv => whnf) | ((with_reducible refine Ev.kr (hs := []) (fun Q hQ => ?_)); (simp only [Ev.runE_cons, Ev.runE_nil]); conv => whnf) | (with_reducible refine hQ _ ?_; clear hQ Q) | ((refine Ev.sf ?_); intro F hF; conv => whnf) | (with_reducible refine hF _ ?_; clear hF F) | ((with_reducible refine Ev.go_k (fun c' => ?_)); conv => whnf) | ((with_reducible refine Ev.ca0 ?_); (first | refine Ev.ca (hIa) ?_ | refine Ev.ca (hIb) ?_); conv => whnf) | ((with_reducible refine Ev.dr0 ?_); (first | refine Ev.dr 18 [] [0, 1, 2, 3, 4, 5, 6, 7, 8] ?_ | refine Ev.dr 21 [] [0, 1, 2, 3, 4, 5, 6] ?_ | refine Ev.dr 13 [] [0, 1, 2, 3, 4, 5, 6, 7, 8, 9] ?_ | refine Ev.dr 15 [] [0, 1, 5, 2, 3, 4, 6, 7, 8, 9] ?_); intro Q hQ; (simp only [Ev.runE_cons, Ev.runE_nil]); conv => whnf) | ((first | refine Ev.el_map0 ?_ (fun hi => ?_) | refine Ev.el_mapN ?_ (fun hi => ?_)); rotate_left; conv => whnf) | ((with_reducible refine Ev.sd0 ?_); exact Ev.sd) | fail)
  refine Ev.d_seqd (Ev.d_def (hs := []) (tabOK' _ _) ?_)
  conv => whnf
  repeat' (first | ((refine Ev.sw ?_); conv => whnf) | refine Ev.sn ?_ | ((with_reducible refine Ev.chk_k ?_ ?_); rotate_left; exact Ev.bt; conv => whnf) | ((with_reducible (refine Ev.RI.run ?_; constructor)) <;> intro _) | ((refine Ev.sg ?_); conv => whnf) | ((with_reducible refine Ev.sided ?_ ?_); conv => whnf) | ((with_reducible refine Ev.kr (hs := []) (fun Q hQ => ?_)); (simp only [Ev.runE_cons, Ev.runE_nil]); conv => whnf) | (with_reducible refine hQ _ ?_; clear hQ Q) | ((refine Ev.sf ?_); intro F hF; conv => whnf) | (with_reducible refine hF _ ?_; clear hF F) | ((with_reducible refine Ev.go_k (fun c' => ?_)); conv => whnf) | ((((with_reducible refine Ev.ca0 ?_); refine ⟨(nof_own a (by omega) (by omega)).mono ?_⟩; rintro _ _ ⟨A, rfl, rfl, hA1, hA2⟩; refine ⟨Nat.le_of_ble_eq_true rfl, ⟨rfl, trivial⟩, ?_⟩; conv => whnf)); conv => whnf) | ((((with_reducible refine Ev.ca0 ?_); refine ⟨(nof_own b (by omega) (by omega)).mono ?_⟩; rintro _ _ ⟨B, rfl, rfl, hB1, hB2⟩; refine ⟨Nat.le_of_ble_eq_true rfl, ⟨rfl, trivial⟩, ?_⟩; conv => whnf)); conv => whnf) | ((with_reducible refine Ev.dr0 ?_); (first | refine Ev.dr 18 [] [0, 1, 2, 3, 4, 5, 6, 7, 8] ?_ | refine Ev.dr 21 [] [0, 1, 2, 3, 4, 5, 6] ?_ | refine Ev.dr 13 [] [0, 1, 2, 3, 4, 5, 6, 7, 8, 9] ?_ | refine Ev.dr 15 [] [0, 1, 5, 2, 3, 4, 6, 7, 8, 9] ?_); intro Q hQ; (simp only [Ev.runE_cons, Ev.runE_nil]); conv => whnf) | ((first | refine Ev.el_map0 ?_ (fun hi => ?_) | refine Ev.el_mapN ?_ (fun hi => ?_)); rotate_left; conv => whnf) | ((with_reducible refine Ev.sd0 ?_); exact Ev.sd) | fail)
  refine Ev.nil_cell 0 9000 3 35 0 rfl rfl rfl ?_
  refine Ev.loop (fun k st => ∃ (c va vb v : Nat) (A B : List Sp) (oa ob : Nat) (x y out : List Sp), st = ⟨[(0, .own 5640 va oa x.length), (1, .own 5656 vb ob y.length), (4, .ptr 0 0 0 0)], [(0, ⟨1, 23, 0, 0, true, [[.own 9000 v 0 out.length]]⟩), (5640, ⟨3, 35, va, 0, false, sps A⟩), (5656, ⟨3, 35, vb, 0, false, sps B⟩), (9000, ⟨3, 35, v, 0, false, sps out⟩)], c⟩ ∧ RdO x A oa ∧ RdO y B ob ∧ OI C k x y out) ?_ ?_
  · (refine Ev.to _ ?hs1 ?hh1 ?hc1 ⟨(norm a).length + (norm b).length, ?_, ?_, ?_, ?_, A, B, 0, 0, norm a, norm b, [], rfl, ?hp1⟩; (case hs1 | hh1 => ((repeat' (first | exact trivial | refine And.intro ?_ ?_)) <;> (first | exact Ev.se | (refine Ev.slot_eq rfl ?_; first | (rfl) | ((first | refine Ev.int_eq ?_ | refine Ev.own_eq ?_ | refine Ev.blk_eq ?_); (rfl))) | exact Ev.sr))); (case hc1 => exact Nat.le_refl _))
    exact ⟨⟨by rw [← hA1, List.length_take]; omega, hA1⟩, ⟨by rw [← hB1, List.length_take]; omega, hB1⟩, by omega, na.1.all, nb.1.all, na.2.2.2.2.2.2.2, nb.2.2.2.2.2.2.2, hmm, hob, by rw [hC]; rfl, by simp; omega, by omega⟩
  rintro k s1 ⟨c, va, vb, v, A, B, oa, ob, x, y, out, rfl, hS, hT, hI⟩
  have hol := sps_len out
  have hAl := sps_len A
  have hBl := sps_len B
  have hbl := hI.bl
  have hS1 := hS.1
  have hT1 := hT.1
  rcases x with _ | ⟨u, x⟩ <;> rcases y with _ | ⟨w, y⟩ <;> simp only [List.length_cons, List.length_nil] at hbl hS1 hT1
  · have hout := hI.fin
    subst hout
    repeat' (first | ((with_reducible refine Ev.br0 ?_); (first | refine Ev.brp ?_ | refine Ev.brn ?_); conv => whnf) | ((with_reducible refine Ev.c0 ?_); first | refine Ev.cp ?_ | refine Ev.cn ?_) | ((refine Ev.sw ?_); conv => whnf) | refine Ev.sn ?_ | ((with_reducible refine Ev.chk_k ?_ ?_); rotate_left; exact Ev.bt; conv => whnf) | ((with_reducible (refine Ev.RI.run ?_; constructor)) <;> intro _) | ((refine Ev.sg ?_); conv => whnf) | ((with_reducible refine Ev.sided ?_ ?_); conv => whnf) | ((with_reducible refine Ev.kr (hs := []) (fun Q hQ => ?_)); (simp only [Ev.runE_cons, Ev.runE_nil]); conv => whnf) | (with_reducible refine hQ _ ?_; clear hQ Q) | ((refine Ev.sf ?_); intro F hF; conv => whnf) | (with_reducible refine hF _ ?_; clear hF F) | ((with_reducible refine Ev.go_k (fun c' => ?_)); conv => whnf) | ((with_reducible refine Ev.dr0 ?_); (first | refine Ev.dr 18 [] [0, 1, 2, 3, 4, 5, 6, 7, 8] ?_ | refine Ev.dr 21 [] [0, 1, 2, 3, 4, 5, 6] ?_ | refine Ev.dr 13 [] [0, 1, 2, 3, 4, 5, 6, 7, 8, 9] ?_ | refine Ev.dr 15 [] [0, 1, 5, 2, 3, 4, 6, 7, 8, 9] ?_); intro Q hQ; (simp only [Ev.runE_cons, Ev.runE_nil]); conv => whnf) | ((first | refine Ev.el_map0 ?_ (fun hi => ?_) | refine Ev.el_mapN ?_ (fun hi => ?_)); rotate_left; conv => whnf) | ((with_reducible refine Ev.sd0 ?_); exact Ev.sd) | fail)
    refine Ev.ev_ret (Ev.fv_det (ovrd_call 0 _ out (by omega) (by omega)) rfl ⟨Ev.slot_eq rfl rfl, Ev.slot_eq rfl rfl, trivial⟩ (fun F hF => ?_))
    conv => whnf
    repeat' (first | ((refine Ev.sw ?_); conv => whnf) | refine Ev.sn ?_ | ((with_reducible refine Ev.chk_k ?_ ?_); rotate_left; exact Ev.bt; conv => whnf) | ((with_reducible (refine Ev.RI.run ?_; constructor)) <;> intro _) | ((refine Ev.sg ?_); conv => whnf) | ((with_reducible refine Ev.sided ?_ ?_); conv => whnf) | ((with_reducible refine Ev.kr (hs := []) (fun Q hQ => ?_)); (simp only [Ev.runE_cons, Ev.runE_nil]); conv => whnf) | (with_reducible refine hQ _ ?_; clear hQ Q) | ((refine Ev.sf ?_); intro F hF; conv => whnf) | (with_reducible refine hF _ ?_; clear hF F) | ((with_reducible refine Ev.go_k (fun c' => ?_)); conv => whnf) | ((with_reducible refine Ev.dr0 ?_); (first | refine Ev.dr 18 [] [0, 1, 2, 3, 4, 5, 6, 7, 8] ?_ | refine Ev.dr 21 [] [0, 1, 2, 3, 4, 5, 6] ?_ | refine Ev.dr 13 [] [0, 1, 2, 3, 4, 5, 6, 7, 8, 9] ?_ | refine Ev.dr 15 [] [0, 1, 5, 2, 3, 4, 6, 7, 8, 9] ?_); intro Q hQ; (simp only [Ev.runE_cons, Ev.runE_nil]); conv => whnf) | ((first | refine Ev.el_map0 ?_ (fun hi => ?_) | refine Ev.el_mapN ?_ (fun hi => ?_)); rotate_left; conv => whnf) | ((with_reducible refine Ev.sd0 ?_); exact Ev.sd) | fail)
    exact ⟨by rw [hcC]; rfl, rfl⟩
  · have hwk : w.k = 2 := hI.vk
    have htw : w.t.size ≤ 1000000000 := by have := hI.bt; rw [tbs_cons w] at this; omega
    obtain ⟨k', rfl, hJ⟩ := hI.s1 hwk
    obtain ⟨hB0, hB1, hB2⟩ := hT.cons
    have pB : (0 : Int) < ((w :: y).length : Int) := by simp only [List.length_cons]; omega
    have eB : ∀ h : ob + Int.toNat 0 < B.length, B[ob + Int.toNat 0]'h = w := fun _ => hB1
    have hkB : ∀ h : ob + Int.toNat 0 < B.length, (B[ob + Int.toNat 0]'h).k = 2 := fun h => by rw [eB h]; exact hwk
    have hz : ∀ h : ob + Int.toNat 0 < B.length, (B[ob + Int.toNat 0]'h).t.size ≤ 1000000000 := fun h => by rw [eB h]; exact htw
    repeat' (first | (with_reducible refine Ev.c_pos pB ?_) | (with_reducible refine Ev.br_pos pB ?_) | (with_reducible refine Ev.c_pos (hkB _) ?_) | (with_reducible refine Ev.br_pos (hkB _) ?_) | ((with_reducible refine Ev.br0 ?_); (first | refine Ev.brp ?_ | refine Ev.brn ?_); conv => whnf) | ((with_reducible refine Ev.c0 ?_); first | refine Ev.cp ?_ | refine Ev.cn ?_) | ((refine Ev.sw ?_); conv => whnf) | refine Ev.sn ?_ | ((with_reducible refine Ev.chk_k ?_ ?_); rotate_left; exact Ev.bt; conv => whnf) | ((with_reducible (refine Ev.RI.run ?_; constructor)) <;> intro _) | ((refine Ev.sg ?_); conv => whnf) | ((with_reducible refine Ev.sided ?_ ?_); conv => whnf) | ((with_reducible refine Ev.kr (hs := [83]) (fun Q hQ => ?_)); (simp only [Ev.runE_cons, Ev.runE_nil]); conv => whnf) | (with_reducible refine hQ _ ?_; clear hQ Q) | ((refine Ev.sf ?_); intro F hF; conv => whnf) | (with_reducible refine hF _ ?_; clear hF F) | ((with_reducible refine Ev.go_k (fun c' => ?_)); conv => whnf) | ((with_reducible refine Ev.ca0 ?_); (first | refine Ev.call_det (out_call _ _ _ (hz _)) rfl rfl ?_ | refine Ev.ca (out_call _ _ _ (hz _)) ?_); conv => whnf) | ((with_reducible refine Ev.dr0 ?_); (first | refine Ev.dr 18 [83] [0, 1, 2, 3, 4, 5, 6, 7, 8] ?_ | refine Ev.dr 21 [83] [0, 1, 2, 3, 4, 5, 6] ?_ | refine Ev.dr 13 [83] [0, 1, 2, 3, 4, 5, 6, 7, 8, 9] ?_ | refine Ev.dr 15 [83] [0, 1, 5, 2, 3, 4, 6, 7, 8, 9] ?_); intro Q hQ; (simp only [Ev.runE_cons, Ev.runE_nil]); conv => whnf) | ((first | refine Ev.el_map0 ?_ (fun hi => ?_) | refine Ev.el_mapN ?_ (fun hi => ?_)); rotate_left; conv => whnf) | ((with_reducible refine Ev.sd0 ?_); exact Ev.sd) | fail)
    (refine Ev.again (k') _ ?hm2 ?hs2 ?hh2 ?hc2 ⟨?_, va, vb, ?_, A, B, oa, ob + 1, [], y, out ++ [kpO w], rfl, ?hp2⟩; (case hs2 | hh2 => ((repeat' (first | exact trivial | refine And.intro ?_ ?_)) <;> (first | exact Ev.se | (refine Ev.slot_eq rfl ?_; first | (first | (rw [List.length_append]; rfl) | (simp only [eA, eB]; rw [sps_app1]; rfl) | (simp only [eB]; rw [sps_app1]; rfl) | (simp only [eA]; rw [sps_app1]; rfl) | (simp; done) | omega | rfl) | ((first | refine Ev.int_eq ?_ | refine Ev.own_eq ?_ | refine Ev.blk_eq ?_); (first | (rw [List.length_append]; rfl) | (simp only [eA, eB]; rw [sps_app1]; rfl) | (simp only [eB]; rw [sps_app1]; rfl) | (simp only [eA]; rw [sps_app1]; rfl) | (simp; done) | omega | rfl))) | exact Ev.sr))); (case hc2 => exact Nat.le_refl _); (case hm2 => omega))
    exact ⟨hS, hB2, hJ⟩
  · have huk : u.k = 2 := hI.uk
    obtain ⟨k', rfl, hJ⟩ := hI.s2 huk (by simp)
    obtain ⟨hA0, hA1, hA2⟩ := hS.cons
    have pA : (0 : Int) < ((u :: x).length : Int) := by simp only [List.length_cons]; omega
    have eA : ∀ h : oa + Int.toNat 0 < A.length, A[oa + Int.toNat 0]'h = u := fun _ => hA1
    have hkA : ∀ h : oa + Int.toNat 0 < A.length, (A[oa + Int.toNat 0]'h).k = 2 := fun h => by rw [eA h]; exact huk
    repeat' (first | (with_reducible refine Ev.c_pos pA ?_) | (with_reducible refine Ev.br_pos pA ?_) | (with_reducible refine Ev.c_pos (hkA _) ?_) | (with_reducible refine Ev.br_pos (hkA _) ?_) | ((with_reducible refine Ev.br0 ?_); (first | refine Ev.brp ?_ | refine Ev.brn ?_); conv => whnf) | ((with_reducible refine Ev.c0 ?_); first | refine Ev.cp ?_ | refine Ev.cn ?_) | ((refine Ev.sw ?_); conv => whnf) | refine Ev.sn ?_ | ((with_reducible refine Ev.chk_k ?_ ?_); rotate_left; exact Ev.bt; conv => whnf) | ((with_reducible (refine Ev.RI.run ?_; constructor)) <;> intro _) | ((refine Ev.sg ?_); conv => whnf) | ((with_reducible refine Ev.sided ?_ ?_); conv => whnf) | ((with_reducible refine Ev.kr (hs := [83]) (fun Q hQ => ?_)); (simp only [Ev.runE_cons, Ev.runE_nil]); conv => whnf) | (with_reducible refine hQ _ ?_; clear hQ Q) | ((refine Ev.sf ?_); intro F hF; conv => whnf) | (with_reducible refine hF _ ?_; clear hF F) | ((with_reducible refine Ev.go_k (fun c' => ?_)); conv => whnf) | ((with_reducible refine Ev.dr0 ?_); (first | refine Ev.dr 18 [83] [0, 1, 2, 3, 4, 5, 6, 7, 8] ?_ | refine Ev.dr 21 [83] [0, 1, 2, 3, 4, 5, 6] ?_ | refine Ev.dr 13 [83] [0, 1, 2, 3, 4, 5, 6, 7, 8, 9] ?_ | refine Ev.dr 15 [83] [0, 1, 5, 2, 3, 4, 6, 7, 8, 9] ?_); intro Q hQ; (simp only [Ev.runE_cons, Ev.runE_nil]); conv => whnf) | ((first | refine Ev.el_map0 ?_ (fun hi => ?_) | refine Ev.el_mapN ?_ (fun hi => ?_)); rotate_left; conv => whnf) | ((with_reducible refine Ev.sd0 ?_); exact Ev.sd) | fail)
    (refine Ev.again (k') _ ?hm3 ?hs3 ?hh3 ?hc3 ⟨?_, va, vb, ?_, A, B, oa + 1, ob, x, [], out ++ [u], rfl, ?hp3⟩; (case hs3 | hh3 => ((repeat' (first | exact trivial | refine And.intro ?_ ?_)) <;> (first | exact Ev.se | (refine Ev.slot_eq rfl ?_; first | (first | (rw [List.length_append]; rfl) | (simp only [eA, eB]; rw [sps_app1]; rfl) | (simp only [eB]; rw [sps_app1]; rfl) | (simp only [eA]; rw [sps_app1]; rfl) | (simp; done) | omega | rfl) | ((first | refine Ev.int_eq ?_ | refine Ev.own_eq ?_ | refine Ev.blk_eq ?_); (first | (rw [List.length_append]; rfl) | (simp only [eA, eB]; rw [sps_app1]; rfl) | (simp only [eB]; rw [sps_app1]; rfl) | (simp only [eA]; rw [sps_app1]; rfl) | (simp; done) | omega | rfl))) | exact Ev.sr))); (case hc3 => exact Nat.le_refl _); (case hm3 => omega))
    exact ⟨hA2, hT, hJ⟩
  · have htw : w.t.size ≤ 1000000000 := by have := hI.bt; rw [tbs_cons, tbs_cons] at this; omega
    obtain ⟨hA0, hA1, hA2⟩ := hS.cons
    have pA : (0 : Int) < ((u :: x).length : Int) := by simp only [List.length_cons]; omega
    have eA : ∀ h : oa + Int.toNat 0 < A.length, A[oa + Int.toNat 0]'h = u := fun _ => hA1
    obtain ⟨hB0, hB1, hB2⟩ := hT.cons
    have pB : (0 : Int) < ((w :: y).length : Int) := by simp only [List.length_cons]; omega
    have eB : ∀ h : ob + Int.toNat 0 < B.length, B[ob + Int.toNat 0]'h = w := fun _ => hB1
    have hz : ∀ h : ob + Int.toNat 0 < B.length, (B[ob + Int.toNat 0]'h).t.size ≤ 1000000000 := fun h => by rw [eB h]; exact htw
    by_cases hwk : w.k = 2
    · obtain ⟨k', rfl, hJ⟩ := hI.s1 hwk
      have hkB : ∀ h : ob + Int.toNat 0 < B.length, (B[ob + Int.toNat 0]'h).k = 2 := fun h => by rw [eB h]; exact hwk
      repeat' (first | (with_reducible refine Ev.c_pos pA ?_) | (with_reducible refine Ev.br_pos pA ?_) | (with_reducible refine Ev.c_pos pB ?_) | (with_reducible refine Ev.br_pos pB ?_) | (with_reducible refine Ev.c_pos (hkB _) ?_) | (with_reducible refine Ev.br_pos (hkB _) ?_) | ((with_reducible refine Ev.br0 ?_); (first | refine Ev.brp ?_ | refine Ev.brn ?_); conv => whnf) | ((with_reducible refine Ev.c0 ?_); first | refine Ev.cp ?_ | refine Ev.cn ?_) | ((refine Ev.sw ?_); conv => whnf) | refine Ev.sn ?_ | ((with_reducible refine Ev.chk_k ?_ ?_); rotate_left; exact Ev.bt; conv => whnf) | ((with_reducible (refine Ev.RI.run ?_; constructor)) <;> intro _) | ((refine Ev.sg ?_); conv => whnf) | ((with_reducible refine Ev.sided ?_ ?_); conv => whnf) | ((with_reducible refine Ev.kr (hs := [83]) (fun Q hQ => ?_)); (simp only [Ev.runE_cons, Ev.runE_nil]); conv => whnf) | (with_reducible refine hQ _ ?_; clear hQ Q) | ((refine Ev.sf ?_); intro F hF; conv => whnf) | (with_reducible refine hF _ ?_; clear hF F) | ((with_reducible refine Ev.go_k (fun c' => ?_)); conv => whnf) | ((with_reducible refine Ev.ca0 ?_); (first | refine Ev.call_det (out_call _ _ _ (hz _)) rfl rfl ?_ | refine Ev.ca (out_call _ _ _ (hz _)) ?_); conv => whnf) | ((with_reducible refine Ev.dr0 ?_); (first | refine Ev.dr 18 [83] [0, 1, 2, 3, 4, 5, 6, 7, 8] ?_ | refine Ev.dr 21 [83] [0, 1, 2, 3, 4, 5, 6] ?_ | refine Ev.dr 13 [83] [0, 1, 2, 3, 4, 5, 6, 7, 8, 9] ?_ | refine Ev.dr 15 [83] [0, 1, 5, 2, 3, 4, 6, 7, 8, 9] ?_); intro Q hQ; (simp only [Ev.runE_cons, Ev.runE_nil]); conv => whnf) | ((first | refine Ev.el_map0 ?_ (fun hi => ?_) | refine Ev.el_mapN ?_ (fun hi => ?_)); rotate_left; conv => whnf) | ((with_reducible refine Ev.sd0 ?_); exact Ev.sd) | fail)
      (refine Ev.again (k') _ ?hm4 ?hs4 ?hh4 ?hc4 ⟨?_, va, vb, ?_, A, B, oa, ob + 1, u :: x, y, out ++ [kpO w], rfl, ?hp4⟩; (case hs4 | hh4 => ((repeat' (first | exact trivial | refine And.intro ?_ ?_)) <;> (first | exact Ev.se | (refine Ev.slot_eq rfl ?_; first | (first | (rw [List.length_append]; rfl) | (simp only [eA, eB]; rw [sps_app1]; rfl) | (simp only [eB]; rw [sps_app1]; rfl) | (simp only [eA]; rw [sps_app1]; rfl) | (simp; done) | omega | rfl) | ((first | refine Ev.int_eq ?_ | refine Ev.own_eq ?_ | refine Ev.blk_eq ?_); (first | (rw [List.length_append]; rfl) | (simp only [eA, eB]; rw [sps_app1]; rfl) | (simp only [eB]; rw [sps_app1]; rfl) | (simp only [eA]; rw [sps_app1]; rfl) | (simp; done) | omega | rfl))) | exact Ev.sr))); (case hc4 => exact Nat.le_refl _); (case hm4 => omega))
      exact ⟨hS, hB2, hJ⟩
    have hkB : ∀ h : ob + Int.toNat 0 < B.length, ¬ (B[ob + Int.toNat 0]'h).k = 2 := fun h => by rw [eB h]; exact hwk
    by_cases huk : u.k = 2
    · obtain ⟨k', rfl, hJ⟩ := hI.s2 huk (by simpa using hwk)
      have hkA : ∀ h : oa + Int.toNat 0 < A.length, (A[oa + Int.toNat 0]'h).k = 2 := fun h => by rw [eA h]; exact huk
      repeat' (first | (with_reducible refine Ev.c_pos pA ?_) | (with_reducible refine Ev.br_pos pA ?_) | (with_reducible refine Ev.c_pos pB ?_) | (with_reducible refine Ev.br_pos pB ?_) | (with_reducible refine Ev.c_neg (hkB _) ?_) | (with_reducible refine Ev.br_neg (hkB _) ?_) | (with_reducible refine Ev.c_pos (hkA _) ?_) | (with_reducible refine Ev.br_pos (hkA _) ?_) | ((with_reducible refine Ev.br0 ?_); (first | refine Ev.brp ?_ | refine Ev.brn ?_); conv => whnf) | ((with_reducible refine Ev.c0 ?_); first | refine Ev.cp ?_ | refine Ev.cn ?_) | ((refine Ev.sw ?_); conv => whnf) | refine Ev.sn ?_ | ((with_reducible refine Ev.chk_k ?_ ?_); rotate_left; exact Ev.bt; conv => whnf) | ((with_reducible (refine Ev.RI.run ?_; constructor)) <;> intro _) | ((refine Ev.sg ?_); conv => whnf) | ((with_reducible refine Ev.sided ?_ ?_); conv => whnf) | ((with_reducible refine Ev.kr (hs := [83]) (fun Q hQ => ?_)); (simp only [Ev.runE_cons, Ev.runE_nil]); conv => whnf) | (with_reducible refine hQ _ ?_; clear hQ Q) | ((refine Ev.sf ?_); intro F hF; conv => whnf) | (with_reducible refine hF _ ?_; clear hF F) | ((with_reducible refine Ev.go_k (fun c' => ?_)); conv => whnf) | ((with_reducible refine Ev.dr0 ?_); (first | refine Ev.dr 18 [83] [0, 1, 2, 3, 4, 5, 6, 7, 8] ?_ | refine Ev.dr 21 [83] [0, 1, 2, 3, 4, 5, 6] ?_ | refine Ev.dr 13 [83] [0, 1, 2, 3, 4, 5, 6, 7, 8, 9] ?_ | refine Ev.dr 15 [83] [0, 1, 5, 2, 3, 4, 6, 7, 8, 9] ?_); intro Q hQ; (simp only [Ev.runE_cons, Ev.runE_nil]); conv => whnf) | ((first | refine Ev.el_map0 ?_ (fun hi => ?_) | refine Ev.el_mapN ?_ (fun hi => ?_)); rotate_left; conv => whnf) | ((with_reducible refine Ev.sd0 ?_); exact Ev.sd) | fail)
      (refine Ev.again (k') _ ?hm5 ?hs5 ?hh5 ?hc5 ⟨?_, va, vb, ?_, A, B, oa + 1, ob, x, w :: y, out ++ [u], rfl, ?hp5⟩; (case hs5 | hh5 => ((repeat' (first | exact trivial | refine And.intro ?_ ?_)) <;> (first | exact Ev.se | (refine Ev.slot_eq rfl ?_; first | (first | (rw [List.length_append]; rfl) | (simp only [eA, eB]; rw [sps_app1]; rfl) | (simp only [eB]; rw [sps_app1]; rfl) | (simp only [eA]; rw [sps_app1]; rfl) | (simp; done) | omega | rfl) | ((first | refine Ev.int_eq ?_ | refine Ev.own_eq ?_ | refine Ev.blk_eq ?_); (first | (rw [List.length_append]; rfl) | (simp only [eA, eB]; rw [sps_app1]; rfl) | (simp only [eB]; rw [sps_app1]; rfl) | (simp only [eA]; rw [sps_app1]; rfl) | (simp; done) | omega | rfl))) | exact Ev.sr))); (case hc5 => exact Nat.le_refl _); (case hm5 => omega))
      exact ⟨hA2, hT, hJ⟩
    have hkA : ∀ h : oa + Int.toNat 0 < A.length, ¬ (A[oa + Int.toNat 0]'h).k = 2 := fun h => by rw [eA h]; exact huk
    obtain ⟨n, hn⟩ : ∃ n, min (szS u) (szS w) = n := ⟨_, rfl⟩
    obtain ⟨hnu, hnw, k', rfl, hJ⟩ := hI.s3 hwk huk hn
    have hou := hI.ax.head
    have how := hI.ay.head
    have zu : (szS u : Int) = u.n := by
      rw [szS_not huk]
      rcases hou.cases with ⟨a, b, c, d⟩ | ⟨a, b, c⟩ <;> omega
    have zw : (szS w : Int) = w.n := by
      rw [szS_not hwk]
      rcases how.cases with ⟨a, b, c, d⟩ | ⟨a, b, c⟩ <;> omega
    have hmin : ∀ (h : oa + Int.toNat 0 < A.length) (h' : ob + Int.toNat 0 < B.length), min (A[oa + Int.toNat 0]'h).n (B[ob + Int.toNat 0]'h').n = ((n : Nat) : Int) := fun h h' => by rw [eA h, eB h']; omega
    have hmin2 : min u.n w.n = ((n : Nat) : Int) := by omega
    have hfs : fstS u n = ⟨u.k, n, ⟨#[]⟩⟩ := fstS_not n huk
    by_cases hw1 : w.k = 1
    · rw [if_pos hw1] at hJ
      have hkC : ∀ h : ob + Int.toNat 0 < B.length, (B[ob + Int.toNat 0]'h).k = 1 := fun h => by rw [eB h]; exact hw1
      repeat' (first | (with_reducible refine Ev.c_pos pA ?_) | (with_reducible refine Ev.br_pos pA ?_) | (with_reducible refine Ev.c_pos pB ?_) | (with_reducible refine Ev.br_pos pB ?_) | (with_reducible refine Ev.c_neg (hkB _) ?_) | (with_reducible refine Ev.br_neg (hkB _) ?_) | (with_reducible refine Ev.c_neg (hkA _) ?_) | (with_reducible refine Ev.br_neg (hkA _) ?_) | (with_reducible refine Ev.c_pos (hkC _) ?_) | (with_reducible refine Ev.br_pos (hkC _) ?_) | ((with_reducible refine Ev.br0 ?_); (first | refine Ev.brp ?_ | refine Ev.brn ?_); conv => whnf) | ((with_reducible refine Ev.c0 ?_); first | refine Ev.cp ?_ | refine Ev.cn ?_) | ((refine Ev.sw ?_); conv => whnf) | refine Ev.sn ?_ | ((with_reducible refine Ev.chk_k ?_ ?_); rotate_left; exact Ev.bt; conv => whnf) | ((with_reducible (refine Ev.RI.run ?_; constructor)) <;> intro _) | ((refine Ev.sg ?_); conv => whnf) | ((with_reducible refine Ev.sided ?_ ?_); conv => whnf) | ((with_reducible refine Ev.kr (hs := [83]) (fun Q hQ => ?_)); (simp only [Ev.runE_cons, Ev.runE_nil]); conv => whnf) | (with_reducible refine hQ _ ?_; clear hQ Q) | ((refine Ev.sf ?_); intro F hF; conv => whnf) | (with_reducible refine hF _ ?_; clear hF F) | ((with_reducible refine Ev.go_k (fun c' => ?_)); conv => whnf) | ((((with_reducible refine Ev.hca0 ?_); refine lessX 5640 [(0, _), (5656, _), (9000, _)] hS hou huk hnu (hmin _ _) ⟨Ev.slot_eq rfl rfl, trivial⟩ ⟨Ev.slot_eq rfl rfl, Ev.slot_eq rfl rfl, Ev.slot_eq rfl rfl, trivial⟩ rfl (fun A' oa' hA' c' _ => ?_); conv => whnf)); conv => whnf) | ((((with_reducible refine Ev.hca0 ?_); refine lessX 5656 [(0, _), (5640, _), (9000, _)] hT how hwk hnw (hmin _ _) ⟨Ev.slot_eq rfl rfl, trivial⟩ ⟨Ev.slot_eq rfl rfl, Ev.slot_eq rfl rfl, Ev.slot_eq rfl rfl, trivial⟩ rfl (fun B' ob' hB' c' _ => ?_); conv => whnf)); conv => whnf) | ((with_reducible refine Ev.dr0 ?_); (first | refine Ev.dr 18 [83] [0, 1, 2, 3, 4, 5, 6, 7, 8] ?_ | refine Ev.dr 21 [83] [0, 1, 2, 3, 4, 5, 6] ?_ | refine Ev.dr 13 [83] [0, 1, 2, 3, 4, 5, 6, 7, 8, 9] ?_ | refine Ev.dr 15 [83] [0, 1, 5, 2, 3, 4, 6, 7, 8, 9] ?_); intro Q hQ; (simp only [Ev.runE_cons, Ev.runE_nil]); conv => whnf) | ((first | refine Ev.el_map0 ?_ (fun hi => ?_) | refine Ev.el_mapN ?_ (fun hi => ?_)); rotate_left; conv => whnf) | ((with_reducible refine Ev.sd0 ?_); exact Ev.sd) | fail)
      (refine Ev.again (k') _ ?hm6 ?hs6 ?hh6 ?hc6 ⟨?_, va, vb, ?_, A', B', oa', ob', lessS u n x, lessS w n y, out ++ [fstS u n], rfl, ?hp6⟩; (case hs6 | hh6 => ((repeat' (first | exact trivial | refine And.intro ?_ ?_)) <;> (first | exact Ev.se | (refine Ev.slot_eq rfl ?_; first | (first | (rw [List.length_append]; rfl) | (simp only [eA, eB, hmin2]; rw [hfs, sps_app1]; rfl) | (simp; done) | omega | rfl) | ((first | refine Ev.int_eq ?_ | refine Ev.own_eq ?_ | refine Ev.blk_eq ?_); (first | (rw [List.length_append]; rfl) | (simp only [eA, eB, hmin2]; rw [hfs, sps_app1]; rfl) | (simp; done) | omega | rfl))) | exact Ev.sr))); (case hc6 => exact Nat.le_refl _); (case hm6 => omega))
      exact ⟨hA', hB', hJ⟩
    · rw [if_neg hw1, List.append_nil] at hJ
      have hkC : ∀ h : ob + Int.toNat 0 < B.length, ¬ (B[ob + Int.toNat 0]'h).k = 1 := fun h => by rw [eB h]; exact hw1
      repeat' (first | (with_reducible refine Ev.c_pos pA ?_) | (with_reducible refine Ev.br_pos pA ?_) | (with_reducible refine Ev.c_pos pB ?_) | (with_reducible refine Ev.br_pos pB ?_) | (with_reducible refine Ev.c_neg (hkB _) ?_) | (with_reducible refine Ev.br_neg (hkB _) ?_) | (with_reducible refine Ev.c_neg (hkA _) ?_) | (with_reducible refine Ev.br_neg (hkA _) ?_) | (with_reducible refine Ev.c_neg (hkC _) ?_) | (with_reducible refine Ev.br_neg (hkC _) ?_) | ((with_reducible refine Ev.br0 ?_); (first | refine Ev.brp ?_ | refine Ev.brn ?_); conv => whnf) | ((with_reducible refine Ev.c0 ?_); first | refine Ev.cp ?_ | refine Ev.cn ?_) | ((refine Ev.sw ?_); conv => whnf) | refine Ev.sn ?_ | ((with_reducible refine Ev.chk_k ?_ ?_); rotate_left; exact Ev.bt; conv => whnf) | ((with_reducible (refine Ev.RI.run ?_; constructor)) <;> intro _) | ((refine Ev.sg ?_); conv => whnf) | ((with_reducible refine Ev.sided ?_ ?_); conv => whnf) | ((with_reducible refine Ev.kr (hs := [83]) (fun Q hQ => ?_)); (simp only [Ev.runE_cons, Ev.runE_nil]); conv => whnf) | (with_reducible refine hQ _ ?_; clear hQ Q) | ((refine Ev.sf ?_); intro F hF; conv => whnf) | (with_reducible refine hF _ ?_; clear hF F) | ((with_reducible refine Ev.go_k (fun c' => ?_)); conv => whnf) | ((((with_reducible refine Ev.hca0 ?_); refine lessX 5640 [(0, _), (5656, _), (9000, _)] hS hou huk hnu (hmin _ _) ⟨Ev.slot_eq rfl rfl, trivial⟩ ⟨Ev.slot_eq rfl rfl, Ev.slot_eq rfl rfl, Ev.slot_eq rfl rfl, trivial⟩ rfl (fun A' oa' hA' c' _ => ?_); conv => whnf)); conv => whnf) | ((((with_reducible refine Ev.hca0 ?_); refine lessX 5656 [(0, _), (5640, _), (9000, _)] hT how hwk hnw (hmin _ _) ⟨Ev.slot_eq rfl rfl, trivial⟩ ⟨Ev.slot_eq rfl rfl, Ev.slot_eq rfl rfl, Ev.slot_eq rfl rfl, trivial⟩ rfl (fun B' ob' hB' c' _ => ?_); conv => whnf)); conv => whnf) | ((with_reducible refine Ev.dr0 ?_); (first | refine Ev.dr 18 [83] [0, 1, 2, 3, 4, 5, 6, 7, 8] ?_ | refine Ev.dr 21 [83] [0, 1, 2, 3, 4, 5, 6] ?_ | refine Ev.dr 13 [83] [0, 1, 2, 3, 4, 5, 6, 7, 8, 9] ?_ | refine Ev.dr 15 [83] [0, 1, 5, 2, 3, 4, 6, 7, 8, 9] ?_); intro Q hQ; (simp only [Ev.runE_cons, Ev.runE_nil]); conv => whnf) | ((first | refine Ev.el_map0 ?_ (fun hi => ?_) | refine Ev.el_mapN ?_ (fun hi => ?_)); rotate_left; conv => whnf) | ((with_reducible refine Ev.sd0 ?_); exact Ev.sd) | fail)
      (refine Ev.again (k') _ ?hm7 ?hs7 ?hh7 ?hc7 ⟨?_, va, vb, v, A', B', oa', ob', lessS u n x, lessS w n y, out, rfl, ?hp7⟩; (case hs7 | hh7 => ((repeat' (first | exact trivial | refine And.intro ?_ ?_)) <;> (first | exact Ev.se | (refine Ev.slot_eq rfl ?_; first | (first | (simp; done) | omega | rfl) | ((first | refine Ev.int_eq ?_ | refine Ev.own_eq ?_ | refine Ev.blk_eq ?_); (first | (simp; done) | omega | rfl))) | exact Ev.sr))); (case hc7 => exact Nat.le_refl _); (case hm7 => omega))
      exact ⟨hA', hB', hJ⟩
def ovrE (a b : List Sp) : Int := if opMayF a ≠ 0 then opMayF a else if opMayF b ≠ 0 then opMayF b else if inW a ≠ inW b then 5 else 0
def ovrA (a b : List Sp) : AV := .tup [if ovrE a b = 0 then .lst 3 (sps (ovrO a b)) else nilA, .v (.int .i64 (ovrE a b))]
theorem ovrA_bad {a b : List Sp} {e : Int} (h : ovrE a b = e) (h0 : e ≠ 0) : ovrA a b = .tup [nilA, .v (.int .i64 e)] := by
  unfold ovrA; rw [h, if_neg h0]
theorem ovrA_ok {a b : List Sp} (h : ovrE a b = 0) : ovrA a b = .tup [.lst 3 (sps (ovrO a b)), .v (.int .i64 0)] := by
  unfold ovrA; rw [h, if_pos rfl]
theorem ovrE_ok {a b : List Sp} (h : ovrE a b = 0) : opMayF a = 0 ∧ opMayF b = 0 ∧ inW a = inW b := by
  unfold ovrE at h
  by_cases ma : opMayF a = 0
  · rw [if_neg (by simpa using ma)] at h
    by_cases mb : opMayF b = 0
    · rw [if_neg (by simpa using mb)] at h
      by_cases ho : inW a = inW b
      · exact ⟨ma, mb, ho⟩
      · rw [if_pos ho] at h; cases h
    · rw [if_pos mb] at h; exact absurd h mb
  · rw [if_pos ma] at h; exact absurd h ma
theorem ovr_call (a b : List Sp) (la : a.length ≤ 10000000) (lb : b.length ≤ 10000000) (ta : tbs a ≤ 100000000) (tb : tbs b ≤ 100000000) (sa : Small a) (sb : Small b) (hb : opMayF b = 0 → sumI outS b ≤ 1048576) :
    CallW env 36 [.lst 3 (sps a), .lst 3 (sps b)] (fun r hs => r = ovrA a b ∧ hs = []) := by
  have hA := opMay_call a (by omega) sa
  have hB := opMay_call b (by omega) sb
  by_cases ma : opMayF a = 0
  · by_cases mb : opMayF b = 0
    · by_cases ho : sumW (fun s => inF s.k s.n) a = sumW (fun s => inF s.k s.n) b
      · have : ovrE a b = 0 := by unfold ovrE; rw [if_neg (by simpa using ma), if_neg (by simpa using mb), if_neg (by simpa [inW] using ho)]
        rw [ovrA_ok this]
        exact ovr_ok a b la lb ta tb sa sb ma mb ho (hb mb)
      · have : ovrE a b = 5 := by unfold ovrE; rw [if_neg (by simpa using ma), if_neg (by simpa using mb), if_pos (by simpa [inW] using ho)]
        rw [ovrA_bad this (by decide)]
        have hIa := opIn_call a (by omega)
        have hIb := opIn_call b (by omega)
        rw [ma] at hA
        rw [mb] at hB
        refine Ev.fnV [0, 1, 4, 5, 7, 8, 9, 12, 13, 14, 15, 21, 28, 41, 55, 71, 92] 0 [.cell 4 23, .tmp 5] Tryd.func36 (comp36 _ rfl) ?_
        refine Ev.d_seq ?_
        repeat' (first | ((refine Ev.sw ?_); conv => whnf) | refine Ev.sn ?_ | ((with_reducible refine Ev.chk_k ?_ ?_); rotate_left; exact Ev.bt; conv => whnf) | ((with_reducible (refine Ev.RI.run ?_; constructor)) <;> intro _) | ((refine Ev.sg ?_); conv => whnf) | ((with_reducible refine Ev.sided ?_ ?_); conv => whnf) | ((with_reducible refine Ev.kr (hs := []) (fun Q hQ => ?_)); (simp only [Ev.runE_cons, Ev.runE_nil]); conv => whnf) | (with_reducible refine hQ _ ?_; clear hQ Q) | ((refine Ev.sf ?_); intro F hF; conv => whnf) | (with_reducible refine hF _ ?_; clear hF F) | ((with_reducible refine Ev.go_k (fun c' => ?_)); conv => whnf) | ((with_reducible refine Ev.dr0 ?_); (first | refine Ev.dr 18 [] [0, 1, 2, 3, 4, 5, 6, 7, 8] ?_ | refine Ev.dr 21 [] [0, 1, 2, 3, 4, 5, 6] ?_ | refine Ev.dr 13 [] [0, 1, 2, 3, 4, 5, 6, 7, 8, 9] ?_ | refine Ev.dr 15 [] [0, 1, 5, 2, 3, 4, 6, 7, 8, 9] ?_); intro Q hQ; (simp only [Ev.runE_cons, Ev.runE_nil]); conv => whnf) | ((first | refine Ev.el_map0 ?_ (fun hi => ?_) | refine Ev.el_mapN ?_ (fun hi => ?_)); rotate_left; conv => whnf) | ((with_reducible refine Ev.sd0 ?_); exact Ev.sd) | fail)
        refine Ev.d_seq ?_
        repeat' (first | ((with_reducible refine Ev.br0 ?_); (first | refine Ev.brp ?_ | refine Ev.brn ?_); conv => whnf) | ((with_reducible refine Ev.c0 ?_); first | refine Ev.cp ?_ | refine Ev.cn ?_) | ((refine Ev.sw ?_); conv => whnf) | refine Ev.sn ?_ | ((with_reducible refine Ev.chk_k ?_ ?_); rotate_left; exact Ev.bt; conv => whnf) | ((with_reducible (refine Ev.RI.run ?_; constructor)) <;> intro _) | ((refine Ev.sg ?_); conv => whnf) | ((with_reducible refine Ev.sided ?_ ?_); conv => whnf) | ((with_reducible refine Ev.kr (hs := []) (fun Q hQ => ?_)); (simp only [Ev.runE_cons, Ev.runE_nil]); conv => whnf) | (with_reducible refine hQ _ ?_; clear hQ Q) | ((refine Ev.sf ?_); intro F hF; conv => whnf) | (with_reducible refine hF _ ?_; clear hF F) | ((with_reducible refine Ev.go_k (fun c' => ?_)); conv => whnf) | (with_reducible refine Ev.unroll 3 ?_) | ((with_reducible refine Ev.ca0 ?_); (first | refine Ev.ca (hA) ?_ | refine Ev.ca (hB) ?_); conv => whnf) | ((with_reducible refine Ev.dr0 ?_); (first | refine Ev.dr 18 [] [0, 1, 2, 3, 4, 5, 6, 7, 8] ?_ | refine Ev.dr 21 [] [0, 1, 2, 3, 4, 5, 6] ?_ | refine Ev.dr 13 [] [0, 1, 2, 3, 4, 5, 6, 7, 8, 9] ?_ | refine Ev.dr 15 [] [0, 1, 5, 2, 3, 4, 6, 7, 8, 9] ?_); intro Q hQ; (simp only [Ev.runE_cons, Ev.runE_nil]); conv => whnf) | ((first | refine Ev.el_map0 ?_ (fun hi => ?_) | refine Ev.el_mapN ?_ (fun hi => ?_)); rotate_left; conv => whnf) | ((with_reducible refine Ev.sd0 ?_); exact Ev.sd) | fail)
        refine Ev.d_seq ?_
        repeat' (first | ((with_reducible refine Ev.br0 ?_); (first | refine Ev.brp ?_ | refine Ev.brn ?_); conv => whnf) | ((with_reducible refine Ev.c0 ?_); first | refine Ev.cp ?_ | refine Ev.cn ?_) | (with_reducible refine Ev.c_neg ho ?_) | (with_reducible refine Ev.br_neg ho ?_) | ((refine Ev.sw ?_); conv => whnf) | refine Ev.sn ?_ | ((with_reducible refine Ev.chk_k ?_ ?_); rotate_left; exact Ev.bt; conv => whnf) | ((with_reducible (refine Ev.RI.run ?_; constructor)) <;> intro _) | ((refine Ev.sg ?_); conv => whnf) | ((with_reducible refine Ev.sided ?_ ?_); conv => whnf) | ((with_reducible refine Ev.kr (hs := []) (fun Q hQ => ?_)); (simp only [Ev.runE_cons, Ev.runE_nil]); conv => whnf) | (with_reducible refine hQ _ ?_; clear hQ Q) | ((refine Ev.sf ?_); intro F hF; conv => whnf) | (with_reducible refine hF _ ?_; clear hF F) | ((with_reducible refine Ev.go_k (fun c' => ?_)); conv => whnf) | ((with_reducible refine Ev.ca0 ?_); (first | refine Ev.ca (hIa) ?_ | refine Ev.ca (hIb) ?_); conv => whnf) | ((with_reducible refine Ev.dr0 ?_); (first | refine Ev.dr 18 [] [0, 1, 2, 3, 4, 5, 6, 7, 8] ?_ | refine Ev.dr 21 [] [0, 1, 2, 3, 4, 5, 6] ?_ | refine Ev.dr 13 [] [0, 1, 2, 3, 4, 5, 6, 7, 8, 9] ?_ | refine Ev.dr 15 [] [0, 1, 5, 2, 3, 4, 6, 7, 8, 9] ?_); intro Q hQ; (simp only [Ev.runE_cons, Ev.runE_nil]); conv => whnf) | ((first | refine Ev.el_map0 ?_ (fun hi => ?_) | refine Ev.el_mapN ?_ (fun hi => ?_)); rotate_left; conv => whnf) | ((with_reducible refine Ev.sd0 ?_); exact Ev.sd) | fail)
        exact ⟨rfl, rfl⟩
    · have : ovrE a b = opMayF b := by unfold ovrE; rw [if_neg (by simpa using ma), if_pos mb]
      rw [ovrA_bad this mb]
      rw [ma] at hA
      refine Ev.fnV [0, 1, 4, 5, 7, 8, 9, 12, 13, 14, 15, 21, 28, 41, 55, 71, 92] 0 [.cell 4 23, .tmp 5] Tryd.func36 (comp36 _ rfl) ?_
      refine Ev.d_seq ?_
      repeat' (first | ((refine Ev.sw ?_); conv => whnf) | refine Ev.sn ?_ | ((with_reducible refine Ev.chk_k ?_ ?_); rotate_left; exact Ev.bt; conv => whnf) | ((with_reducible (refine Ev.RI.run ?_; constructor)) <;> intro _) | ((refine Ev.sg ?_); conv => whnf) | ((with_reducible refine Ev.sided ?_ ?_); conv => whnf) | ((with_reducible refine Ev.kr (hs := []) (fun Q hQ => ?_)); (simp only [Ev.runE_cons, Ev.runE_nil]); conv => whnf) | (with_reducible refine hQ _ ?_; clear hQ Q) | ((refine Ev.sf ?_); intro F hF; conv => whnf) | (with_reducible refine hF _ ?_; clear hF F) | ((with_reducible refine Ev.go_k (fun c' => ?_)); conv => whnf) | ((with_reducible refine Ev.dr0 ?_); (first | refine Ev.dr 18 [] [0, 1, 2, 3, 4, 5, 6, 7, 8] ?_ | refine Ev.dr 21 [] [0, 1, 2, 3, 4, 5, 6] ?_ | refine Ev.dr 13 [] [0, 1, 2, 3, 4, 5, 6, 7, 8, 9] ?_ | refine Ev.dr 15 [] [0, 1, 5, 2, 3, 4, 6, 7, 8, 9] ?_); intro Q hQ; (simp only [Ev.runE_cons, Ev.runE_nil]); conv => whnf) | ((first | refine Ev.el_map0 ?_ (fun hi => ?_) | refine Ev.el_mapN ?_ (fun hi => ?_)); rotate_left; conv => whnf) | ((with_reducible refine Ev.sd0 ?_); exact Ev.sd) | fail)
      refine Ev.d_seq ?_
      repeat' (first | ((with_reducible refine Ev.br0 ?_); (first | refine Ev.brp ?_ | refine Ev.brn ?_); conv => whnf) | ((with_reducible refine Ev.c0 ?_); first | refine Ev.cp ?_ | refine Ev.cn ?_) | (with_reducible refine Ev.c_neg mb ?_) | (with_reducible refine Ev.br_neg mb ?_) | ((refine Ev.sw ?_); conv => whnf) | refine Ev.sn ?_ | ((with_reducible refine Ev.chk_k ?_ ?_); rotate_left; exact Ev.bt; conv => whnf) | ((with_reducible (refine Ev.RI.run ?_; constructor)) <;> intro _) | ((refine Ev.sg ?_); conv => whnf) | ((with_reducible refine Ev.sided ?_ ?_); conv => whnf) | ((with_reducible refine Ev.kr (hs := []) (fun Q hQ => ?_)); (simp only [Ev.runE_cons, Ev.runE_nil]); conv => whnf) | (with_reducible refine hQ _ ?_; clear hQ Q) | ((refine Ev.sf ?_); intro F hF; conv => whnf) | (with_reducible refine hF _ ?_; clear hF F) | ((with_reducible refine Ev.go_k (fun c' => ?_)); conv => whnf) | (with_reducible refine Ev.unroll 3 ?_) | ((with_reducible refine Ev.ca0 ?_); (first | refine Ev.ca (hA) ?_ | refine Ev.ca (hB) ?_); conv => whnf) | ((with_reducible refine Ev.dr0 ?_); (first | refine Ev.dr 18 [] [0, 1, 2, 3, 4, 5, 6, 7, 8] ?_ | refine Ev.dr 21 [] [0, 1, 2, 3, 4, 5, 6] ?_ | refine Ev.dr 13 [] [0, 1, 2, 3, 4, 5, 6, 7, 8, 9] ?_ | refine Ev.dr 15 [] [0, 1, 5, 2, 3, 4, 6, 7, 8, 9] ?_); intro Q hQ; (simp only [Ev.runE_cons, Ev.runE_nil]); conv => whnf) | ((first | refine Ev.el_map0 ?_ (fun hi => ?_) | refine Ev.el_mapN ?_ (fun hi => ?_)); rotate_left; conv => whnf) | ((with_reducible refine Ev.sd0 ?_); exact Ev.sd) | fail)
      exact ⟨rfl, rfl⟩
  · have : ovrE a b = opMayF a := by unfold ovrE; rw [if_pos ma]
    rw [ovrA_bad this ma]
    refine Ev.fnV [0, 1, 4, 5, 7, 8, 9, 12, 13, 14, 15, 21, 28, 41, 55, 71, 92] 0 [.cell 4 23, .tmp 5] Tryd.func36 (comp36 _ rfl) ?_
    refine Ev.d_seq ?_
    repeat' (first | ((refine Ev.sw ?_); conv => whnf) | refine Ev.sn ?_ | ((with_reducible refine Ev.chk_k ?_ ?_); rotate_left; exact Ev.bt; conv => whnf) | ((with_reducible (refine Ev.RI.run ?_; constructor)) <;> intro _) | ((refine Ev.sg ?_); conv => whnf) | ((with_reducible refine Ev.sided ?_ ?_); conv => whnf) | ((with_reducible refine Ev.kr (hs := []) (fun Q hQ => ?_)); (simp only [Ev.runE_cons, Ev.runE_nil]); conv => whnf) | (with_reducible refine hQ _ ?_; clear hQ Q) | ((refine Ev.sf ?_); intro F hF; conv => whnf) | (with_reducible refine hF _ ?_; clear hF F) | ((with_reducible refine Ev.go_k (fun c' => ?_)); conv => whnf) | ((with_reducible refine Ev.dr0 ?_); (first | refine Ev.dr 18 [] [0, 1, 2, 3, 4, 5, 6, 7, 8] ?_ | refine Ev.dr 21 [] [0, 1, 2, 3, 4, 5, 6] ?_ | refine Ev.dr 13 [] [0, 1, 2, 3, 4, 5, 6, 7, 8, 9] ?_ | refine Ev.dr 15 [] [0, 1, 5, 2, 3, 4, 6, 7, 8, 9] ?_); intro Q hQ; (simp only [Ev.runE_cons, Ev.runE_nil]); conv => whnf) | ((first | refine Ev.el_map0 ?_ (fun hi => ?_) | refine Ev.el_mapN ?_ (fun hi => ?_)); rotate_left; conv => whnf) | ((with_reducible refine Ev.sd0 ?_); exact Ev.sd) | fail)
    refine Ev.d_seq ?_
    repeat' (first | ((with_reducible refine Ev.br0 ?_); (first | refine Ev.brp ?_ | refine Ev.brn ?_); conv => whnf) | ((with_reducible refine Ev.c0 ?_); first | refine Ev.cp ?_ | refine Ev.cn ?_) | (with_reducible refine Ev.c_neg ma ?_) | (with_reducible refine Ev.br_neg ma ?_) | ((refine Ev.sw ?_); conv => whnf) | refine Ev.sn ?_ | ((with_reducible refine Ev.chk_k ?_ ?_); rotate_left; exact Ev.bt; conv => whnf) | ((with_reducible (refine Ev.RI.run ?_; constructor)) <;> intro _) | ((refine Ev.sg ?_); conv => whnf) | ((with_reducible refine Ev.sided ?_ ?_); conv => whnf) | ((with_reducible refine Ev.kr (hs := []) (fun Q hQ => ?_)); (simp only [Ev.runE_cons, Ev.runE_nil]); conv => whnf) | (with_reducible refine hQ _ ?_; clear hQ Q) | ((refine Ev.sf ?_); intro F hF; conv => whnf) | (with_reducible refine hF _ ?_; clear hF F) | ((with_reducible refine Ev.go_k (fun c' => ?_)); conv => whnf) | (with_reducible refine Ev.unroll 3 ?_) | ((with_reducible refine Ev.ca0 ?_); (first | refine Ev.ca (hA) ?_ | refine Ev.ca (hB) ?_); conv => whnf) | ((with_reducible refine Ev.dr0 ?_); (first | refine Ev.dr 18 [] [0, 1, 2, 3, 4, 5, 6, 7, 8] ?_ | refine Ev.dr 21 [] [0, 1, 2, 3, 4, 5, 6] ?_ | refine Ev.dr 13 [] [0, 1, 2, 3, 4, 5, 6, 7, 8, 9] ?_ | refine Ev.dr 15 [] [0, 1, 5, 2, 3, 4, 6, 7, 8, 9] ?_); intro Q hQ; (simp only [Ev.runE_cons, Ev.runE_nil]); conv => whnf) | ((first | refine Ev.el_map0 ?_ (fun hi => ?_) | refine Ev.el_mapN ?_ (fun hi => ?_)); rotate_left; conv => whnf) | ((with_reducible refine Ev.sd0 ?_); exact Ev.sd) | fail)
    exact ⟨rfl, rfl⟩
theorem comp112 : ∀ c, Tryd.f112.body = some c → comp c = (.seq (.reg 0 [I.n 0 6 I.sn, I.n 1 7 (I.si 0)]) (.seq (.seq (.reg 1 [I.n 0 13 (I.mv 1), I.n 1 14 (I.ln 13 22), I.n 2 15 (.move (.const (Value.int .i64 0)))]) (.block 0 (.loop (.seq (.reg 2 [I.n 0 16 (I.bo .lss 3 15 14 3)]) (.seq (.cond (.tmp 16) .skip (.exit 0)) (.seq (.block 1 (.seq (.reg 3 [I.n 0 17 (I.ia 22 13 15), I.n 1 18 (I.ld 23 17), I.n 2 9 (I.sa 18)]) (.seq (.reg 4 [I.n 0 20 (I.mv 2), I.n 1 21 (I.mv 0), I.n 2 22 (I.mv 9), I.n 3 23 (.call { callee := .value (.tmp 20), args := #[.tmp 21, .tmp 22], argTypes := #[23, 23] }), I.n 4 19 (I.mv 23), I.n 5 24 (I.ex 19 0), I.n 6 25 (I.ex 19 1), I.n 7 10 (I.sa 24), I.n 8 11 (I.sa 25)]) (.seq (.seq (.reg 5 [I.n 0 26 (I.mv 11), I.n 1 27 (I.bc .neq 30 26 0 30)]) (.cond (.tmp 27) (.seq (.reg 6 [I.n 0 12 I.sn]) (.seq (.reg 7 [I.n 0 28 (I.mv 12), I.n 1 29 (I.mv 11), I.n 2 6 (I.sa 28), I.n 3 7 (I.sa 29)]) .ret)) .skip)) (.reg 8 [I.n 0 30 (I.mv 10), I.n 1 0 (I.sa 30)]))))) (.reg 9 [I.n 0 31 (I.bc .add 3 15 1 3), I.n 1 15 (I.mv 31)]))))))) (.seq (.reg 10 [I.n 0 32 (I.mv 0), I.n 1 6 (I.sa 32), I.n 2 7 (I.si 0)]) .ret))) := by
  intro c h
  have : c = Tryd.f112.body.get rfl := by rw [← Option.some_inj, ← h]; rfl
  rw [this]; rfl
def foldG : List Sp → List (List Sp) → List Sp × Int
  | b, [] => (b, 0)
  | b, x :: l => if cmpE b x = 0 then foldG (cmpO b x) l else ([], cmpE b x)
def foldA (b : List Sp) (L : List (List Sp)) : AV := .tup [if (foldG b L).2 = 0 then .lst 3 (sps (foldG b L).1) else nilA, .v (.int .i64 (foldG b L).2)]
def lenS (L : List (List Sp)) : Nat := (L.map List.length).sum
def tbsS (L : List (List Sp)) : Nat := (L.map tbs).sum
theorem lenS_cons (x : List Sp) (L : List (List Sp)) : lenS (x :: L) = x.length + lenS L ∧ tbsS (x :: L) = tbs x + tbsS L := by simp [lenS, tbsS]
theorem cmpE_ok {a b : List Sp} (h : cmpE a b = 0) : opMayF a = 0 ∧ opMayF b = 0 ∧ outW a = inW b := by
  unfold cmpE at h
  by_cases h1 : opMayF a = 0
  · rw [if_neg (by simpa using h1)] at h
    by_cases h2 : opMayF b = 0
    · rw [if_neg (by simpa using h2)] at h
      by_cases h3 : outW a = inW b
      · exact ⟨h1, h2, h3⟩
      · rw [if_pos h3] at h; cases h
    · rw [if_pos h2] at h; exact absurd h h2
  · rw [if_pos h1] at h; exact absurd h h1
theorem cmpO_small {a b : List Sp} (h : cmpE a b = 0) (la : a.length ≤ 10000000) (lb : b.length ≤ 10000000) (ta : tbs a ≤ 100000000) : (cmpO a b).length ≤ a.length + b.length ∧ tbs (cmpO a b) ≤ tbs a + tbs b := by
  obtain ⟨h1, h2, h3⟩ := cmpE_ok h
  have oa := (OpS.of h1 (by omega)).1
  have ob := (OpS.of h2 (by omega)).1
  have ho' : sumI outS a = sumI inS b := by
    have h1 := (OpS.of h2 (by omega)).2
    have h2 := outW_eq a
    have h3' := outS_leB a oa.all
    have h4 := oa.bnd
    rw [wrap_id (by omega)] at h2
    rw [← h2, ← h1]; exact h3
  exact (cmpO_all oa ob ho').2.2.2.2.2.2.2.2.2
theorem fold_call (L : List (List Sp)) (base : List Sp) (hl : base.length + lenS L ≤ 10000000) (hb : tbs base + tbsS L ≤ 100000000) (hL : L.length ≤ 10000000) :
    CallW env 112 [.lst 3 (sps base), .lst 1 (rowsA L), .clo (.func 113) [] []] (fun r hs => r = foldA base L ∧ hs = []) := by
  have hrl := rowsA_len L
  refine Ev.fn [0, 1, 2, 6, 7, 9, 10, 11, 12, 13, 14, 15, 16, 27] 0 [.tmp 6, .tmp 7] Tryd.func112 (comp112 _ rfl) ?_
  repeat' (first | ((refine Ev.sw ?_); conv => whnf) | refine Ev.sn ?_ | ((with_reducible refine Ev.chk_k ?_ ?_); rotate_left; exact Ev.bt; conv => whnf) | ((with_reducible (refine Ev.RI.run ?_; constructor)) <;> intro _) | ((refine Ev.sg ?_); conv => whnf) | ((with_reducible refine Ev.sided ?_ ?_); conv => whnf) | ((with_reducible refine Ev.kr (hs := []) (fun Q hQ => ?_)); (simp only [Ev.runE_cons, Ev.runE_nil]); conv => whnf) | (with_reducible refine hQ _ ?_; clear hQ Q) | ((refine Ev.sf ?_); intro F hF; conv => whnf) | (with_reducible refine hF _ ?_; clear hF F) | ((with_reducible refine Ev.go_k (fun c' => ?_)); conv => whnf) | ((first | refine Ev.el_map0 ?_ (fun hi => ?_) | refine Ev.el_mapN ?_ (fun hi => ?_)); rotate_left; conv => whnf) | ((with_reducible refine Ev.sd0 ?_); exact Ev.sd) | fail)
  refine Ev.loop (fun k s => ∃ (i c : Nat) (b : List Sp), s = ⟨[(0, .lst 3 (sps b)), (2, .clo (.func 113) [] []), (13, .lst 1 (rowsA L)), (14, .v (.int .i64 L.length)), (15, .v (.int .i64 i))], [], c⟩ ∧ k + i = L.length ∧ foldG b (L.drop i) = foldG base L ∧ b.length + lenS (L.drop i) ≤ 10000000 ∧ tbs b + tbsS (L.drop i) ≤ 100000000) ?_ ?_
  · (refine Ev.to _ ?hs1 ?hh1 ?hc1 ⟨L.length, 0, ?_, base, rfl, ?hp1⟩; (case hs1 | hh1 => ((repeat' (first | exact trivial | refine And.intro ?_ ?_)) <;> (first | exact Ev.se | (refine Ev.slot_eq rfl ?_; first | (first | rfl | (simp; done)) | ((first | refine Ev.int_eq ?_ | refine Ev.own_eq ?_ | refine Ev.blk_eq ?_); (first | rfl | (simp; done)))) | exact Ev.sr))); (case hc1 => exact Nat.le_refl _))
    exact ⟨by omega, rfl, hl, hb⟩
  rintro k s1 ⟨i, c, b, rfl, hk, hf, hl', hb'⟩
  by_cases hi : i < L.length
  · have hii : (i : Int) < (L.length : Int) := by omega
    obtain ⟨k', rfl⟩ : ∃ k', k = k' + 1 := ⟨k - 1, by omega⟩
    rw [List.drop_eq_getElem_cons hi] at hf hl' hb'
    obtain ⟨l1, l2⟩ := lenS_cons L[i] (L.drop (i + 1))
    rw [l1] at hl'
    rw [l2] at hb'
    have hC := cmp_call b L[i] (by omega) (by omega) (by omega) (by omega) (tbs_small (by omega)) (tbs_small (by omega))
    by_cases he : cmpE b L[i] = 0
    · rw [cmpA_ok he] at hC
      simp only [foldG, he, if_true] at hf
      obtain ⟨m1, m2⟩ := cmpO_small he (by omega) (by omega) (by omega)
      repeat' (first | ((with_reducible refine Ev.br0 ?_); (first | refine Ev.brp ?_ | refine Ev.brn ?_); conv => whnf) | ((with_reducible refine Ev.c0 ?_); first | refine Ev.cp ?_ | refine Ev.cn ?_) | (with_reducible refine Ev.c_pos hii ?_) | (with_reducible refine Ev.br_pos hii ?_) | ((refine Ev.sw ?_); conv => whnf) | refine Ev.sn ?_ | ((with_reducible refine Ev.chk_k ?_ ?_); rotate_left; exact Ev.bt; conv => whnf) | ((with_reducible (refine Ev.RI.run ?_; constructor)) <;> intro _) | ((refine Ev.sg ?_); conv => whnf) | ((with_reducible refine Ev.sided ?_ ?_); conv => whnf) | ((with_reducible refine Ev.kr (hs := []) (fun Q hQ => ?_)); (simp only [Ev.runE_cons, Ev.runE_nil]); conv => whnf) | (with_reducible refine hQ _ ?_; clear hQ Q) | ((refine Ev.sf ?_); intro F hF; conv => whnf) | (with_reducible refine hF _ ?_; clear hF F) | ((with_reducible refine Ev.go_k (fun c' => ?_)); conv => whnf) | ((with_reducible refine Ev.ca0 ?_); (first | refine Ev.ca (hC) ?_); conv => whnf) | ((first | refine Ev.el_map0 ?_ (fun hi => ?_) | refine Ev.el_mapN ?_ (fun hi => ?_)); rotate_left; conv => whnf) | ((with_reducible refine Ev.sd0 ?_); exact Ev.sd) | fail)
      (refine Ev.again (k') _ ?hm2 ?hs2 ?hh2 ?hc2 ⟨i + 1, ?_, cmpO b L[i], rfl, ?hp2⟩; (case hs2 | hh2 => ((repeat' (first | exact trivial | refine And.intro ?_ ?_)) <;> (first | exact Ev.se | (refine Ev.slot_eq rfl ?_; first | (first | exact wrap_succ (by omega) | (simp; done) | rfl) | ((first | refine Ev.int_eq ?_ | refine Ev.own_eq ?_ | refine Ev.blk_eq ?_); (first | exact wrap_succ (by omega) | (simp; done) | rfl))) | exact Ev.sr))); (case hc2 => exact Nat.le_refl _); (case hm2 => omega))
      exact ⟨by omega, hf, by omega, by omega⟩
    · rw [cmpA_bad rfl he] at hC
      simp only [foldG, he, if_false] at hf
      repeat' (first | (with_reducible refine Ev.c_neg he ?_) | (with_reducible refine Ev.br_neg he ?_) | (with_reducible refine Ev.c_pos hii ?_) | (with_reducible refine Ev.br_pos hii ?_) | ((with_reducible refine Ev.br0 ?_); (first | refine Ev.brp ?_ | refine Ev.brn ?_); conv => whnf) | ((with_reducible refine Ev.c0 ?_); first | refine Ev.cp ?_ | refine Ev.cn ?_) | ((refine Ev.sw ?_); conv => whnf) | refine Ev.sn ?_ | ((with_reducible refine Ev.chk_k ?_ ?_); rotate_left; exact Ev.bt; conv => whnf) | ((with_reducible (refine Ev.RI.run ?_; constructor)) <;> intro _) | ((refine Ev.sg ?_); conv => whnf) | ((with_reducible refine Ev.sided ?_ ?_); conv => whnf) | ((with_reducible refine Ev.kr (hs := []) (fun Q hQ => ?_)); (simp only [Ev.runE_cons, Ev.runE_nil]); conv => whnf) | (with_reducible refine hQ _ ?_; clear hQ Q) | ((refine Ev.sf ?_); intro F hF; conv => whnf) | (with_reducible refine hF _ ?_; clear hF F) | ((with_reducible refine Ev.go_k (fun c' => ?_)); conv => whnf) | ((with_reducible refine Ev.ca0 ?_); (first | refine Ev.ca (hC) ?_); conv => whnf) | ((first | refine Ev.el_map0 ?_ (fun hi => ?_) | refine Ev.el_mapN ?_ (fun hi => ?_)); rotate_left; conv => whnf) | ((with_reducible refine Ev.sd0 ?_); exact Ev.sd) | fail)
      refine ⟨?_, rfl⟩
      unfold foldA
      rw [← hf, if_neg he]; rfl
  · have hii : ¬ (i : Int) < (L.length : Int) := by omega
    rw [List.drop_of_length_le (by omega)] at hf
    repeat' (first | (with_reducible refine Ev.c_neg hii ?_) | (with_reducible refine Ev.br_neg hii ?_) | ((with_reducible refine Ev.br0 ?_); (first | refine Ev.brp ?_ | refine Ev.brn ?_); conv => whnf) | ((with_reducible refine Ev.c0 ?_); first | refine Ev.cp ?_ | refine Ev.cn ?_) | ((refine Ev.sw ?_); conv => whnf) | refine Ev.sn ?_ | ((with_reducible refine Ev.chk_k ?_ ?_); rotate_left; exact Ev.bt; conv => whnf) | ((with_reducible (refine Ev.RI.run ?_; constructor)) <;> intro _) | ((refine Ev.sg ?_); conv => whnf) | ((with_reducible refine Ev.sided ?_ ?_); conv => whnf) | ((with_reducible refine Ev.kr (hs := []) (fun Q hQ => ?_)); (simp only [Ev.runE_cons, Ev.runE_nil]); conv => whnf) | (with_reducible refine hQ _ ?_; clear hQ Q) | ((refine Ev.sf ?_); intro F hF; conv => whnf) | (with_reducible refine hF _ ?_; clear hF F) | ((with_reducible refine Ev.go_k (fun c' => ?_)); conv => whnf) | ((first | refine Ev.el_map0 ?_ (fun hi => ?_) | refine Ev.el_mapN ?_ (fun hi => ?_)); rotate_left; conv => whnf) | ((with_reducible refine Ev.sd0 ?_); exact Ev.sd) | fail)
    refine ⟨?_, rfl⟩
    unfold foldA
    rw [← hf]; rfl
theorem comp63 : ∀ c, Tryd.f63.body = some c → comp c = (.seq (.reg 0 [I.n 0 4 I.sn, I.n 1 5 (I.si 0)]) (.seq (.reg 1 [I.n 0 9 (I.mv 0), I.n 1 10 (I.c1 111 9 3), I.n 2 8 (I.mv 10), I.n 3 11 (I.ex 8 0), I.n 4 12 (I.ex 8 1), I.n 5 6 (I.sa 11), I.n 6 7 (I.sa 12)]) (.seq (.seq (.reg 2 [I.n 0 13 (I.mv 7), I.n 1 14 (I.bc .neq 30 13 0 30)]) (.cond (.tmp 14) (.seq (.reg 3 [I.n 0 15 (I.mv 7), I.n 1 4 I.sn, I.n 2 5 (I.sa 15)]) .ret) .skip)) (.seq (.reg 4 [I.n 0 16 (I.mv 6), I.n 1 17 (I.mv 1), I.n 2 18 (.call { callee := .value (.func 112), args := #[.tmp 16, .tmp 17, .func 113], argTypes := #[23, 22, 52] }), I.n 3 19 (I.ex 18 0), I.n 4 20 (I.ex 18 1), I.n 5 4 (I.sa 19), I.n 6 5 (I.sa 20)]) .ret)))) := by
  intro c h
  have : c = Tryd.f63.body.get rfl := by rw [← Option.some_inj, ← h]; rfl
  rw [this]; rfl
def keepL (n : Int) : List Sp := if n = 0 then [] else [⟨1, n, ⟨#[]⟩⟩]
theorem keepL_tbs (n : Int) : tbs (keepL n) = 0 ∧ (keepL n).length ≤ 1 := by
  unfold keepL; split
  · exact ⟨rfl, by simp⟩
  · exact ⟨rfl, by simp⟩
theorem keepL_call (n : Int) (hn : 0 ≤ n ∧ n ≤ 1048576) : CallW env 111 [.v (.int .i64 n)] (fun r hs => r = .tup [.lst 3 (sps (keepL n)), .v (.int .i64 0)] ∧ hs = []) := by
  refine CallW.res_eq (keep_call n) ?_
  have e : keepE n = 0 := by unfold keepE; rw [if_neg (by omega)]
  rw [e]
  unfold keepA keepL
  rw [if_neg (by omega)]
  by_cases h : n = 0
  · rw [if_pos h, if_pos h]; exact LeR.tup2 (LeR.nil 3) (LeR.refl _)
  · rw [if_neg h, if_neg h]; exact LeR.refl _
theorem fuse_call (n : Int) (hn : 0 ≤ n ∧ n ≤ 1048576) (L : List (List Sp)) (hl : lenS L ≤ 9999999) (hb : tbsS L ≤ 100000000) (hL : L.length ≤ 10000000) :
    CallW env 63 [.v (.int .i64 n), .lst 1 (rowsA L)] (fun r hs => r = foldA (keepL n) L ∧ hs = []) := by
  have hK := keepL_call n hn
  obtain ⟨k1, k2⟩ := keepL_tbs n
  have hF := fold_call L (keepL n) (by omega) (by omega) hL
  have hR : foldA (keepL n) L = .tup [if (foldG (keepL n) L).2 = 0 then .lst 3 (sps (foldG (keepL n) L).1) else nilA, .v (.int .i64 (foldG (keepL n) L).2)] := rfl
  generalize foldG (keepL n) L = G at *
  by_cases hG : G.2 = 0
  · rw [if_pos hG] at hR
    rw [hR] at hF ⊢
    refine Ev.fn [0, 1, 4, 5, 6, 7, 14] 0 [.tmp 4, .tmp 5] Tryd.func63 (comp63 _ rfl) ?_
    repeat' (first | ((with_reducible refine Ev.br0 ?_); (first | refine Ev.brp ?_ | refine Ev.brn ?_); conv => whnf) | ((with_reducible refine Ev.c0 ?_); first | refine Ev.cp ?_ | refine Ev.cn ?_) | ((refine Ev.sw ?_); conv => whnf) | refine Ev.sn ?_ | ((with_reducible refine Ev.chk_k ?_ ?_); rotate_left; exact Ev.bt; conv => whnf) | ((with_reducible (refine Ev.RI.run ?_; constructor)) <;> intro _) | ((refine Ev.sg ?_); conv => whnf) | ((with_reducible refine Ev.sided ?_ ?_); conv => whnf) | ((with_reducible refine Ev.kr (hs := []) (fun Q hQ => ?_)); (simp only [Ev.runE_cons, Ev.runE_nil]); conv => whnf) | (with_reducible refine hQ _ ?_; clear hQ Q) | ((refine Ev.sf ?_); intro F hF; conv => whnf) | (with_reducible refine hF _ ?_; clear hF F) | ((with_reducible refine Ev.go_k (fun c' => ?_)); conv => whnf) | ((with_reducible refine Ev.ca0 ?_); (first | refine Ev.ca (hK) ?_ | refine Ev.ca (hF) ?_); conv => whnf) | ((first | refine Ev.el_map0 ?_ (fun hi => ?_) | refine Ev.el_mapN ?_ (fun hi => ?_)); rotate_left; conv => whnf) | ((with_reducible refine Ev.sd0 ?_); exact Ev.sd) | fail)
    all_goals exact ⟨rfl, rfl⟩
  · rw [if_neg hG] at hR
    rw [hR] at hF ⊢
    refine Ev.fn [0, 1, 4, 5, 6, 7, 14] 0 [.tmp 4, .tmp 5] Tryd.func63 (comp63 _ rfl) ?_
    repeat' (first | ((with_reducible refine Ev.br0 ?_); (first | refine Ev.brp ?_ | refine Ev.brn ?_); conv => whnf) | ((with_reducible refine Ev.c0 ?_); first | refine Ev.cp ?_ | refine Ev.cn ?_) | ((refine Ev.sw ?_); conv => whnf) | refine Ev.sn ?_ | ((with_reducible refine Ev.chk_k ?_ ?_); rotate_left; exact Ev.bt; conv => whnf) | ((with_reducible (refine Ev.RI.run ?_; constructor)) <;> intro _) | ((refine Ev.sg ?_); conv => whnf) | ((with_reducible refine Ev.sided ?_ ?_); conv => whnf) | ((with_reducible refine Ev.kr (hs := []) (fun Q hQ => ?_)); (simp only [Ev.runE_cons, Ev.runE_nil]); conv => whnf) | (with_reducible refine hQ _ ?_; clear hQ Q) | ((refine Ev.sf ?_); intro F hF; conv => whnf) | (with_reducible refine hF _ ?_; clear hF F) | ((with_reducible refine Ev.go_k (fun c' => ?_)); conv => whnf) | ((with_reducible refine Ev.ca0 ?_); (first | refine Ev.ca (hK) ?_ | refine Ev.ca (hF) ?_); conv => whnf) | ((first | refine Ev.el_map0 ?_ (fun hi => ?_) | refine Ev.el_mapN ?_ (fun hi => ?_)); rotate_left; conv => whnf) | ((with_reducible refine Ev.sd0 ?_); exact Ev.sd) | fail)
    all_goals exact ⟨rfl, rfl⟩
def sizeG : Int → List (List Sp) → Int × Int
  | n, [] => (n, 0)
  | n, x :: l => if opMayF x = 0 then (if inW x = n then sizeG (outW x) l else (0, 5)) else (0, opMayF x)
def sizeA (n : Int) (L : List (List Sp)) : AV := .tup [.v (.int .i64 (sizeG n L).1), .v (.int .i64 (sizeG n L).2)]
end Go.Proofs.YtadlnaljicikfaaDoor.Abs
