/- The program's texts: valid ones, and how many code points. -/
import Derived.Test.YtdgpilapblipbaaDoorFnB
import Derived.Shelf.Unicode.ValidAny
import Derived.WalkKit
import Derived.Laws.RangeString
import Derived.Laws.Strings
import Derived.Laws.RangeAny
namespace Go.Proofs.YtdgpilapblipbaaDoor.Abs
open Go
set_option maxRecDepth 100000
set_option linter.unusedSimpArgs false
set_option linter.unusedVariables false
attribute [local irreducible] Ev.FinL Ev.brC Ev.Side Ev.Wp Ev.Again Ev.To Ev.Fin
open Go.Lib Go.RowKit Go.Shelf
def validLay_ren : Go.Shelf.Ren := ⟨fun | 196 => 38 | 259 => 41 | n => n, fun | 9 => 9 | 4 => 4 | 3 => 3 | 5 => 5 | 12 => 12 | 119 => 65 | 0 => 0 | 46 => 69 | 139 => 68 | 138 => 67 | 53 => 72 | n => n, fun | 3 => 1 | 4 => 2 | n => n⟩
theorem validLay : Lays.n196 Tryd.prog validLay_ren :=
  { mixed := by kernel_rfl,
    f196 := Tryd.func38.trans (congrArg some (by kernel_rfl)),
    f259 := Tryd.func41.trans (congrArg some (by kernel_rfl)),
    t0 := Tryd.underlying0,
    a0 := Tryd.isAgg0,
    z0 := Tryd.sizeOf0,
    v0 := Tryd.zeroValue0,
    t3 := Tryd.underlying3,
    a3 := Tryd.isAgg3,
    z3 := Tryd.sizeOf3,
    v3 := Tryd.zeroValue3,
    t4 := Tryd.underlying4,
    a4 := Tryd.isAgg4,
    z4 := Tryd.sizeOf4,
    v4 := Tryd.zeroValue4,
    t5 := Tryd.underlying5,
    a5 := Tryd.isAgg5,
    z5 := Tryd.sizeOf5,
    v5 := Tryd.zeroValue5,
    t9 := Tryd.underlying9,
    a9 := Tryd.isAgg9,
    z9 := Tryd.sizeOf9,
    v9 := Tryd.zeroValue9,
    t12 := Tryd.underlying12,
    a12 := Tryd.isAgg12,
    z12 := Tryd.sizeOf12,
    v12 := Tryd.zeroValue12,
    t46 := Tryd.underlying69,
    a46 := Tryd.isAgg69,
    z46 := Tryd.sizeOf69,
    v46 := Tryd.zeroValue69,
    t53 := Tryd.underlying72,
    a53 := Tryd.isAgg72,
    z53 := Tryd.sizeOf72,
    v53 := Tryd.zeroValue72,
    t119 := Tryd.underlying65,
    a119 := Tryd.isAgg65,
    z119 := Tryd.sizeOf65,
    t138 := Tryd.underlying67,
    a138 := Tryd.isAgg67,
    z138 := Tryd.sizeOf67,
    v138 := Tryd.zeroValue67,
    t139 := Tryd.underlying68,
    a139 := Tryd.isAgg68,
    z139 := Tryd.sizeOf68,
    v139 := Tryd.zeroValue68,
    g3 := by kernel_rfl,
    g4 := by kernel_rfl }

theorem utf8_call (t : ByteArray) (ht : t.size ≤ 1000000000) : CallW env 38 [.v (.string t)] (fun r hs => r = .v (.bool (validD t.data.toList)) ∧ hs = []) := by
  refine scal fun w hw => ⟨?_, ?_⟩
  · exact run_callFunc Tryd.func38 rfl rfl w
  · have hT : Lib.Utf8Tabs 1 2 w := by
      refine ⟨fun c hc => ?_, fun i hi => ⟨?_, ?_⟩⟩
      · exact hw 1 glob1 c _ rfl (by simp [glob1, hc])
      · exact hw 2 glob2 (2 * i) _ rfl (by have : i = 0 ∨ i = 1 ∨ i = 2 ∨ i = 3 ∨ i = 4 ∨ i = 5 ∨ i = 6 ∨ i = 7 ∨ i = 8 ∨ i = 9 ∨ i = 10 ∨ i = 11 ∨ i = 12 ∨ i = 13 ∨ i = 14 ∨ i = 15 := by omega
                                           rcases this with rfl | rfl | rfl | rfl | rfl | rfl | rfl | rfl | rfl | rfl | rfl | rfl | rfl | rfl | rfl | rfl <;> rfl)
      · exact hw 2 glob2 (2 * i + 1) _ rfl (by have : i = 0 ∨ i = 1 ∨ i = 2 ∨ i = 3 ∨ i = 4 ∨ i = 5 ∨ i = 6 ∨ i = 7 ∨ i = 8 ∨ i = 9 ∨ i = 10 ∨ i = 11 ∨ i = 12 ∨ i = 13 ∨ i = 14 ∨ i = 15 := by omega
                                               rcases this with rfl | rfl | rfl | rfl | rfl | rfl | rfl | rfl | rfl | rfl | rfl | rfl | rfl | rfl | rfl | rfl <;> rfl)
    exact Any.utf8_ValidString validLay t w (by omega) hT
def cc33 : CC := (.seq (.reg 0 [⟨0, some 2, (.assign (.const (.bool false))), none⟩]) (.seq (.reg 1 [⟨0, some 3, (.move (.tmp 0)), none⟩, ⟨1, some 4, (.call { callee := .value (.func 38), args := #[.tmp 3], argTypes := #[9] }), none⟩, ⟨2, some 2, (.assign (.tmp 4)), none⟩]) .ret))
theorem comp33 : ∀ c, Tryd.f33.body = some c → comp c = cc33 := by
  intro c h
  have : c = Tryd.f33.body.get rfl := by rw [← Option.some_inj, ← h]; rfl
  rw [this]; rfl
theorem pvalid_call (t : ByteArray) (ht : t.size ≤ 1000000000) : CallW env 33 [.v (.string t)] (fun r hs => r = .v (.bool (validD t.data.toList)) ∧ hs = []) := by
  refine Ev.func tabOK [0, 2] 0 Tryd.func33 rfl rfl (by simp [Tryd.ntmps33]) (by rfl) (comp33 _ rfl) (rs := [.tmp 2]) rfl ?_; rw [cc33]; show Ev.Wp _ _ _ _ ⟨[(0, _)], [], 0⟩
  repeat' (first | ((with_reducible refine Ev.sided ?_ ?_); (conv => whnf)) | ((with_reducible refine Ev.w_put ?_); (conv => whnf)) | ((with_reducible refine Ev.w_step ?_); (conv => whnf)) | ((with_reducible refine Ev.w_opt ?_); (conv => whnf)) | ((with_reducible refine Ev.chk_k ?_ ?_); rotate_left; (focus first | rfl | (simp only [Ev.nbeq, Bool.and_true, Bool.true_and, Bool.not_false]; done)); conv => whnf) | with_reducible refine Ev.c_dec (fun _ => ?_) (fun _ => ?_) | with_reducible refine Ev.c_not ?_ | with_reducible refine Ev.c_t ?_ | with_reducible refine Ev.c_f ?_ | with_reducible refine Ev.c_br (fun _ => ?_) (fun _ => ?_) | ((with_reducible refine Ev.br_not ?_); conv => whnf) | with_reducible refine Ev.br_dec (fun _ => ?_) (fun _ => ?_) | with_reducible refine Ev.br (fun _ => ?_) (fun _ => ?_) | with_reducible refine Ev.eo_ret ?_ | with_reducible refine Ev.eo_norm ?_ | with_reducible refine Ev.t_norm ?_ | with_reducible refine Ev.k_seq ?_ | ((with_reducible refine Ev.k_reg (hs := []) (tabOK' _ _) (fun Q hQ => ?_)); (simp only [Ev.runE_cons, Ev.runE_nil]); conv => whnf) | (with_reducible refine hQ _ ?_; clear hQ Q) | with_reducible refine Ev.k_cond rfl ?_ | with_reducible refine Ev.k_skip ?_ | with_reducible refine Ev.k_block ?_ | with_reducible refine Ev.k_exit ?_ | with_reducible refine Ev.k_ret ?_ | with_reducible refine Ev.t_ret ?_ | with_reducible refine Ev.t_exit ?_ | with_reducible refine Ev.b_norm ?_ | with_reducible refine Ev.b_ret ?_ | with_reducible refine Ev.b_here ?_ | with_reducible refine Ev.b_off rfl ?_ | ((with_reducible refine Ev.e_ret (fun F hF => ?_)); conv => whnf) | ((with_reducible refine Ev.e_norm (fun F hF => ?_)); conv => whnf) | (with_reducible refine hF _ ?_; clear hF F) | ((refine Ev.call_det (utf8_call t ht) rfl rfl ?_); conv => whnf) | (refine Ev.Side.of ?_; exact Nat.le_of_ble_eq_true rfl))
  exact ⟨rfl, rfl⟩
theorem unscal {f : FuncId} {x y : Value} (h : CallW env f [.v x] (fun r hs => r = .v y ∧ hs = [])) (w : World) (h1 : ∀ g cs j z, env.G g = some cs → cs[j]? = some (.v z) → w.cell? ⟨g, j, none⟩ = some z ∧ z.oneCell' = true)
    (h2 : ∀ g cs c, env.G g = some cs → c ∈ cs → ∃ z, c = .v z) : Calls env.P f #[x] w fun e w' => e = .returned y ∧ Below w.heap.size w w' := by
  have hA : ∀ (b o : Nat) (u : Value), (match env.G b with | some cs => (match cs[o]? with | some (AV.v z) => some z | _ => none) | none => none) = some u → w.cell? ⟨b, o, none⟩ = some u ∧ u.oneCell' = true := by
    intro b o u hu
    split at hu
    · rename_i cs hcs
      split at hu
      · rename_i z hz
        obtain rfl := Option.some.inj hu
        exact h1 _ _ _ _ hcs hz
      · cases hu
    · cases hu
  have hB : ∀ g cs, env.G g = some cs → PRel (fun (b o : Nat) => match env.G b with | some cs => (match cs[o]? with | some (AV.v z) => some z | _ => none) | none => none) (.rptr cs) (.pointer (some ⟨g, 0, none⟩)) := by
    intro g cs hg
    refine .rptr (fun j => match cs[j]? with | some (.v z) => z | _ => x) (fun j c hc => ?_) (fun j c hc => ?_)
    · obtain ⟨z, rfl⟩ := h2 g cs c hg (List.mem_of_getElem? hc)
      simp only [hg, Nat.zero_add, hc]
    · obtain ⟨z, rfl⟩ := h2 g cs c hg (List.mem_of_getElem? hc)
      simp only [hc]; exact .v _
  have hC : ∀ (i : Nat) (a : AV) (v : Value), [AV.v x][i]? = some a → #[x][i]? = some v → PRel (fun (b o : Nat) => match env.G b with | some cs => (match cs[o]? with | some (AV.v z) => some z | _ => none) | none => none) a v := by
    intro i a v ha hv
    cases i with
    | zero => simp at ha hv; subst ha; subst hv; exact .v _
    | succ i => simp at ha
  obtain ⟨_, b⟩ := h _ w #[x] hA hB rfl hC
  refine b.mono ?_
  rintro e w' ⟨v, r, hs, M', J', rfl, ⟨rfl, rfl⟩, inv, hr⟩
  have := hr.v_inv
  subst this
  exact ⟨rfl, inv.below⟩
theorem glob_v (g : Nat) (cs : List AV) (c : AV) (h : env.G g = some cs) (hc : c ∈ cs) : ∃ z, c = .v z ∧ z.oneCell' = true := by
  have h : envG g = some cs := h
  unfold envG at h
  split at h <;> first | (cases h; done) | skip
  all_goals (obtain rfl := Option.some.inj h)
  · simp [glob0] at hc; rcases hc with rfl | rfl | rfl | rfl | rfl <;> exact ⟨_, rfl, rfl⟩
  · simp only [glob1, List.mem_map] at hc; obtain ⟨a, _, rfl⟩ := hc; exact ⟨_, rfl, rfl⟩
  · simp only [glob2, List.mem_flatMap] at hc; obtain ⟨a, _, hc⟩ := hc; simp at hc; rcases hc with rfl | rfl <;> exact ⟨_, rfl, rfl⟩
set_option maxRecDepth 1000000 in
theorem count_walk (t : ByteArray) (ht : t.size ≤ 1000000000) (w : World) (hw : ∀ g cs j z, env.G g = some cs → cs[j]? = some (.v z) → w.cell? ⟨g, j, none⟩ = some z) :
    Calls Tryd.prog 19 #[.string t] w fun e w' => e = .returned (.int .i64 (countD t.data.toList)) ∧ Below w.heap.size w w' := by
  have cV : Calls Tryd.prog 33 #[.string t] w fun e w' => e = .returned (.bool (validD t.data.toList)) ∧ Below w.heap.size w w' :=
    unscal (pvalid_call t ht) w (fun g cs j z a b => ⟨hw g cs j z a b, by obtain ⟨z', e, h⟩ := glob_v g cs _ a (List.mem_of_getElem? b); cases e; exact h⟩) (fun g cs c a b => let ⟨z, e, _⟩ := glob_v g cs c a b; ⟨z, e⟩)
  by_cases hv : validD t.data.toList = true
  · rw [hv] at cV
    have hcd : countD t.data.toList = (posD t.data.toList 0).length := by unfold countD; rw [if_pos hv]
    rw [hcd]
    go_enter Tryd.func19, Tryd.ntmps19
    go_wp2_with (go_at_call 33; refine cV.mono ?_; rintro e w1 ⟨rfl, hb⟩)
    go_loopw [3] (fun n w' => ∃ (pos : Nat) (acc : Nat), w' = w1.iter t pos ∧ n = .int .i64 (acc : Int) ∧ acc + (posD (t.data.toList.drop pos) pos).length = (posD t.data.toList 0).length ∧ acc ≤ pos) (fun _ w' => t.size - w'.iterPos w1.heap.size)
    case atStart => exact ⟨0, 0, rfl, rfl, by simp, by omega⟩
    case round =>
      obtain ⟨pos, acc, rfl, rfl, hc, hb'⟩ := hrel
      by_cases hp : pos < t.size
      · have hnx : ∀ ty, (Instr.next (.pointer (some ⟨w1.heap.size, 0, none⟩)) true ty).run Tryd.prog (w1.iter t pos) = _ := fun ty => run_next_any w1 t pos ty hp
        go_wp2
        have hne : t.data.toList.drop pos ≠ [] := by intro e; have := congrArg List.length e; rw [List.length_drop, len_list] at this; simp at this; omega
        have hwd := decodeL_width (t.data.toList.drop pos)
        rw [posD_step hne, List.drop_drop, decodeL_drop] at hc
        rw [decodeL_drop] at hwd
        refine ⟨⟨pos + (Utf8.decode t pos).2, acc + 1, rfl, rfl, ?_, by omega⟩, ?_⟩
        · rw [← hc, List.length_cons]
          simp only [Int.natCast_add]
          omega
        · simp
          omega
      · have hnx : ∀ ty, (Instr.next (.pointer (some ⟨w1.heap.size, 0, none⟩)) true ty).run Tryd.prog (w1.iter t pos) = _ := fun ty => run_next_end w1 t pos ty hp
        go_wp2
        go_ret
        have en : t.data.toList.drop pos = [] := by apply List.drop_of_length_le; rw [len_list]; omega
        rw [en, posD_nil, List.length_nil, Nat.add_zero] at hc
        rw [hc]
        exact ⟨rfl, hb.alloc hb.size _⟩
  · rw [Bool.eq_false_iff.2 hv] at cV
    have hcd : countD t.data.toList = -1 := by unfold countD; rw [if_neg hv]
    rw [hcd]
    go_enter Tryd.func19, Tryd.ntmps19
    go_wp2_with (go_at_call 33; refine cV.mono ?_; rintro e w1 ⟨rfl, hb⟩)
    go_ret
    exact ⟨rfl, hb⟩
theorem pcount_call (t : ByteArray) (ht : t.size ≤ 1000000000) : CallW env 19 [.v (.string t)] (fun r hs => r = .v (.int .i64 (countD t.data.toList)) ∧ hs = []) :=
  scal fun w hw => ⟨run_callFunc Tryd.func19 rfl rfl w, count_walk t ht w hw⟩
end Go.Proofs.YtdgpilapblipbaaDoor.Abs
