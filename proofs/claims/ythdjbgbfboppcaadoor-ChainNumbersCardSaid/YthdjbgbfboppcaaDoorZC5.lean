/- A part of the proof: a calculus over values, and contracts of functions. No condition. -/
import Derived.Test.YthdjbgbfboppcaaDoorZC4
import Derived.Lib.MapLaws
import Derived.Stop.FmtQuoteTie
namespace Go.Proofs.YthdjbgbfboppcaaDoor.Abs
open Go Go.Lib
set_option linter.unusedSimpArgs false
set_option linter.unusedVariables false
theorem decodeL_cut {l : List UInt8} (hl : l ≠ []) (h : decodeL l ≠ (65533, 1)) : decodeL (l.take (decodeL l).2) = decodeL l := by
  have hp := List.length_pos_iff.2 hl
  have hle := decodeL_le l hl
  have g : ∀ w i, i < w → ((l.take w).getD i 0) = l.getD i 0 := fun w i hi => by
    simp only [List.getD_eq_getElem?_getD, List.getElem?_take, if_pos hi]
  rw [decodeL_N] at h hle ⊢
  rw [decodeL_N]
  rcases decodeN_shape l.length (l.getD 0 0).toNat (l.getD 1 0).toNat (l.getD 2 0).toNat (l.getD 3 0).toNat with ⟨c, e⟩ | ⟨c1, c2, c3, cv, e⟩ | ⟨c1, c2, c3, c4, cv, cs, e⟩ | ⟨c1, c2, c3, c4, c5, cv, cw, e⟩ | e
  · rw [e]
    simp only
    rw [g 1 0 (by omega)]
    unfold decodeN; rw [if_pos c]
  · rw [e]
    simp only
    rw [g 2 0 (by omega), g 2 1 (by omega), show (l.take 2).length = 2 by rw [List.length_take]; omega]
    unfold decodeN; rw [if_neg (by omega), if_pos ⟨c1, by omega, c3⟩, if_pos cv]
  · rw [e]
    simp only
    rw [g 3 0 (by omega), g 3 1 (by omega), g 3 2 (by omega), show (l.take 3).length = 3 by rw [List.length_take]; omega]
    unfold decodeN; rw [if_neg (by omega), if_neg (by omega), if_pos ⟨c1, ⟨by omega, c3⟩, by omega, c4⟩, if_pos ⟨cv, by omega⟩]
  · rw [e]
    simp only
    rw [g 4 0 (by omega), g 4 1 (by omega), g 4 2 (by omega), g 4 3 (by omega), show (l.take 4).length = 4 by rw [List.length_take]; omega]
    unfold decodeN; rw [if_neg (by omega), if_neg (by omega), if_neg (by omega), if_pos ⟨c1, ⟨by omega, c3⟩, ⟨by omega, c4⟩, by omega, c5⟩, if_pos ⟨cv, by omega⟩]
  · exact absurd e h
def Scal (p : Nat) : Prop := encodeRune (p : Int) ≠ [] ∧ ∀ rest, decodeL (encodeRune (p : Int) ++ rest) = (p, (encodeRune (p : Int)).length) ∧ (p, (encodeRune (p : Int)).length) ≠ (65533, 1)
theorem scal_decode {l : List UInt8} (hl : l ≠ []) (h : decodeL l ≠ (65533, 1)) : Scal (decodeL l).1 ∧ encodeRune ((decodeL l).1 : Int) = l.take (decodeL l).2 := by
  have e := encode_decode l hl (fun hh => h (Prod.ext hh.1 hh.2))
  have hw := decodeL_width l
  have hle := decodeL_le l hl
  have hlen : (l.take (decodeL l).2).length = (decodeL l).2 := by rw [List.length_take]; omega
  have hne : l.take (decodeL l).2 ≠ [] := by intro hh; rw [hh] at hlen; simp at hlen; omega
  have hc := decodeL_cut hl h
  refine ⟨⟨by rw [e]; exact hne, fun rest => ?_⟩, e⟩
  rw [e, hlen]
  refine ⟨?_, h⟩
  rw [decode_app hne (by rw [hc]; exact h), hc]
def encU (l : List Nat) : List UInt8 := l.flatMap fun (p : Nat) => encodeRune (p : Int)
theorem encU_cons (p : Nat) (l : List Nat) : encU (p :: l) = encodeRune (p : Int) ++ encU l := rfl
theorem encU_app (a b : List Nat) : encU (a ++ b) = encU a ++ encU b := by simp [encU]
theorem pts_scal : ∀ l, validD l = true → encU (pts l) = l ∧ ∀ p ∈ pts l, Scal p := by
  refine text_ind ⟨rfl, fun p hp => by simp [pts_nil] at hp⟩ (fun l he hv hd hs ih => ?_)
  obtain ⟨s, e⟩ := scal_decode he hd
  rw [pts_step he]
  refine ⟨?_, ?_⟩
  · rw [encU_cons, e, ih.1, List.take_append_drop]
  · intro p hp
    rcases List.mem_cons.1 hp with rfl | hp
    · exact s
    · exact ih.2 p hp
theorem scal_text : ∀ (l : List Nat), (∀ p ∈ l, Scal p) → validD (encU l) = true ∧ pts (encU l) = l
  | [], _ => ⟨rfl, rfl⟩
  | p :: l, h => by
    obtain ⟨h1, h2⟩ := h p (by simp)
    obtain ⟨i1, i2⟩ := scal_text l (fun q hq => h q (by simp [hq]))
    obtain ⟨d1, d2⟩ := h2 (encU l)
    have hne : encodeRune (p : Int) ++ encU l ≠ [] := by simp [h1]
    rw [encU_cons]
    refine ⟨?_, ?_⟩
    · rw [validD_step hne, d1, if_neg d2]
      simp only [List.drop_left]; exact i1
    · rw [pts_step hne, d1]
      simp only [List.drop_left]; rw [i2]
theorem encode_bytes (p : Nat) : (Utf8.encode (p : Int)).data.toList = encodeRune (p : Int) := by
  have h := Extern.FmtText.encode_eq p
  unfold encodeRune
  rw [← h]
  unfold Extern.FmtText.nums
  rw [List.map_map]
  conv => lhs; rw [← List.map_id (Utf8.encode (p : Int)).data.toList]
  refine List.map_congr_left (fun b _ => ?_)
  simp
theorem runes_bytes (l : List Nat) : (runesBytes (l.map fun (p : Nat) => (p : Int))).data.toList = encU l := by
  have key : ∀ (l : List Nat) (r : ByteArray), ((l.map fun (p : Nat) => (p : Int)).foldl (fun r n => r ++ Utf8.encode n) r).data.toList = r.data.toList ++ encU l := by
    intro l
    induction l with
    | nil => intro r; simp [encU]
    | cons p l ih => intro r; rw [List.map_cons, List.foldl_cons, ih, str_app, encode_bytes, encU_cons, List.append_assoc]
  exact key l _
def nIs (l : List Nat) : List Int := l.map fun (p : Nat) => (p : Int)
theorem runes_all (b : ByteArray) : runesAV b = rnsV (nIs (pts b.data.toList)) := by
  have key : ∀ (n i : Nat) (acc : Array Value), (Conv.runesFrom b n i acc).toList = acc.toList ++ (ptsGo n (b.data.toList.drop i)).map fun (p : Nat) => Value.int .i32 (p : Int) := by
    intro n
    induction n with
    | zero => intro i acc; simp [Conv.runesFrom, ptsGo]
    | succ n ih =>
      intro i acc
      have hsz : b.data.toList.length = b.size := len_list b
      by_cases hi : i < b.size
      · have hne : b.data.toList.drop i ≠ [] := by intro hh; have := congrArg List.length hh; rw [List.length_drop] at this; simp at this; omega
        simp only [Conv.runesFrom, ptsGo, if_pos hi, if_neg hne]
        rw [ih, decodeL_drop, List.drop_drop]
        simp
      · have he : b.data.toList.drop i = [] := List.drop_of_length_le (by omega)
        simp only [Conv.runesFrom, ptsGo, if_neg hi, he, if_pos]
        simp
  unfold runesAV
  rw [key]
  simp only [List.drop_zero, List.nil_append]
  have e : ptsGo b.size b.data.toList = pts b.data.toList := by unfold pts; rw [len_list]
  rw [e]
  simp [rnsV, nIs]
theorem encU_len {l : List Nat} : l.length ≤ (encU l).length ∨ ∃ p ∈ l, ¬ Scal p := by
  induction l with
  | nil => exact .inl (Nat.le_refl _)
  | cons p l ih =>
    by_cases h : Scal p
    · have := List.length_pos_iff.2 h.1
      rcases ih with ih | ⟨q, a, b⟩
      · refine .inl ?_
        rw [encU_cons, List.length_append, List.length_cons]; omega
      · exact .inr ⟨q, by simp [a], b⟩
    · exact .inr ⟨p, by simp, h⟩
end Go.Proofs.YthdjbgbfboppcaaDoor.Abs

namespace Go.Proofs.YthdjbgbfboppcaaDoor.Abs
open Go
set_option maxRecDepth 100000
set_option linter.unusedSimpArgs false
set_option linter.unusedVariables false
attribute [local irreducible] Ev.Unr Ev.Go' Ev.bytK Ev.runK Ev.FinL Ev.brC Ev.Side Ev.Wp Ev.Again Ev.To Ev.Fin
open Go.Lib Go.RowKit
def cc37 : CC := (.seq (.reg 0 [⟨0, some 4, (.assign (.const (Value.string { data := #[] }))), none⟩, ⟨1, some 5, (.assign (.const (Value.int .i64 0))), none⟩]) (.seq (.seq (.reg 1 [⟨0, some 12, (.move (.tmp 0)), none⟩, ⟨1, some 13, (.call { callee := .value (.func 60), args := #[.tmp 12], argTypes := #[25] }), none⟩, ⟨2, some 6, (.assign (.tmp 13)), none⟩]) (.seq (.reg 2 [⟨0, some 14, (.move (.tmp 6)), none⟩, ⟨1, some 15, (.binOp .neq 26 (.tmp 14) (.const (Value.int .i64 0)) 26), none⟩]) (.cond (.tmp 15) (.seq (.reg 3 [⟨0, some 16, (.move (.tmp 6)), none⟩, ⟨1, some 4, (.assign (.const (Value.string { data := #[] }))), none⟩, ⟨2, some 5, (.assign (.tmp 16)), none⟩]) .ret) .skip))) (.seq (.seq (.reg 4 [⟨0, some 17, (.move (.tmp 1)), none⟩, ⟨1, some 18, (.call { callee := .value (.func 36), args := #[.tmp 17], argTypes := #[9] }), none⟩, ⟨2, some 7, (.assign (.tmp 18)), none⟩]) (.block 0 (.seq (.reg 5 [⟨0, some 20, (.move (.tmp 7)), none⟩, ⟨1, some 21, (.binOp .lss 3 (.tmp 20) (.const (Value.int .i64 0)) 3), none⟩, ⟨2, some 19, (.assign (.tmp 21)), none⟩]) (.cond (.tmp 19) (.seq (.reg 6 [⟨0, some 4, (.assign (.const (Value.string { data := #[] }))), none⟩, ⟨1, some 5, (.assign (.const (Value.int .i64 3))), none⟩]) .ret) (.seq (.reg 7 [⟨0, some 23, (.move (.tmp 7)), none⟩, ⟨1, some 24, (.move (.tmp 0)), none⟩, ⟨2, some 25, (.call { callee := .value (.func 76), args := #[.tmp 24], argTypes := #[25] }), none⟩, ⟨3, some 26, (.binOp .neq 3 (.tmp 23) (.tmp 25) 3), none⟩, ⟨4, some 22, (.assign (.tmp 26)), none⟩]) (.cond (.tmp 22) (.seq (.reg 8 [⟨0, some 4, (.assign (.const (Value.string { data := #[] }))), none⟩, ⟨1, some 5, (.assign (.const (Value.int .i64 5))), none⟩]) .ret) .skip)))))) (.seq (.reg 9 [⟨0, some 27, (.move (.tmp 1)), none⟩, ⟨1, some 28, (.convert 9 94 (.tmp 27)), none⟩, ⟨2, some 8, (.assign (.tmp 28)), none⟩]) (.seq (.reg 10 [⟨0, some 9, (.assign (.const (Value.slice none 0 0))), none⟩]) (.seq (.seq (.reg 11 [⟨0, some 29, (.move (.tmp 0)), none⟩, ⟨1, some 30, (.call { callee := .builtin .len, args := #[.tmp 29], argTypes := #[25] }), none⟩, ⟨2, some 31, (.move (.const (Value.int .i64 0))), none⟩]) (.block 1 (.loop (.seq (.reg 12 [⟨0, some 32, (.binOp .lss 3 (.tmp 31) (.tmp 30) 3), none⟩]) (.seq (.cond (.tmp 32) .skip (.exit 1)) (.seq (.block 2 (.seq (.reg 13 [⟨0, some 33, (.indexAddr 25 (.tmp 29) (.tmp 31)), none⟩, ⟨1, some 34, (.load 35 (.tmp 33)), none⟩, ⟨2, some 11, (.alloc 35), none⟩, ⟨3, none, (.store 35 (.tmp 11) (.tmp 34)), none⟩]) (.seq (.seq (.reg 14 [⟨0, some 35, (.fieldAddr 35 (.tmp 11) 0), none⟩, ⟨1, some 36, (.load 3 (.tmp 35)), none⟩]) (.block 3 (.seq (.reg 15 [⟨0, some 38, (.binOp .eql 3 (.tmp 36) (.const (Value.int .i64 2)) 3), none⟩, ⟨1, some 37, (.assign (.tmp 38)), none⟩]) (.cond (.tmp 37) (.reg 16 [⟨0, some 39, (.move (.tmp 9)), none⟩, ⟨1, some 40, (.fieldAddr 35 (.tmp 11) 2), none⟩, ⟨2, some 41, (.load 9 (.tmp 40)), none⟩, ⟨3, some 42, (.convert 9 94 (.tmp 41)), none⟩, ⟨4, some 43, (.call { callee := .builtin .append, args := #[.tmp 39, .tmp 42], argTypes := #[94, 94] }), none⟩, ⟨5, some 9, (.assign (.tmp 43)), none⟩]) (.seq (.reg 17 [⟨0, some 45, (.binOp .eql 3 (.tmp 36) (.const (Value.int .i64 1)) 3), none⟩, ⟨1, some 44, (.assign (.tmp 45)), none⟩]) (.cond (.tmp 44) (.reg 18 [⟨0, some 46, (.move (.tmp 9)), none⟩, ⟨1, some 47, (.move (.tmp 8)), none⟩, ⟨2, some 48, (.fieldAddr 35 (.tmp 11) 1), none⟩, ⟨3, some 49, (.load 3 (.tmp 48)), none⟩, ⟨4, some 50, (.slice 94 (.tmp 47) none (some (.tmp 49)) none), none⟩, ⟨5, some 51, (.call { callee := .builtin .append, args := #[.tmp 46, .tmp 50], argTypes := #[94, 94] }), none⟩, ⟨6, some 9, (.assign (.tmp 51)), none⟩]) .skip)))))) (.reg 19 [⟨0, some 52, (.move (.tmp 8)), none⟩, ⟨1, some 53, (.fieldAddr 35 (.tmp 11) 1), none⟩, ⟨2, some 54, (.load 3 (.tmp 53)), none⟩, ⟨3, some 55, (.slice 94 (.tmp 52) (some (.tmp 54)) none none), none⟩, ⟨4, some 8, (.assign (.tmp 55)), none⟩])))) (.reg 20 [⟨0, some 56, (.binOp .add 3 (.tmp 31) (.const (Value.int .i64 1)) 3), none⟩, ⟨1, some 31, (.move (.tmp 56)), none⟩]))))))) (.seq (.reg 21 [⟨0, some 57, (.move (.tmp 9)), none⟩, ⟨1, some 58, (.convert 94 9 (.tmp 57)), none⟩, ⟨2, some 4, (.assign (.tmp 58)), none⟩, ⟨3, some 5, (.assign (.const (Value.int .i64 0))), none⟩]) .ret)))))))
theorem comp37 : ∀ c, Tryd.f37.body = some c → comp c = cc37 := by
  intro c h
  have : c = Tryd.f37.body.get rfl := by rw [← Option.some_inj, ← h]; rfl
  rw [this]; rfl
def cc68 : CC := (.seq (.reg 0 [⟨0, some 4, (.assign (.const (Value.string { data := #[] }))), none⟩, ⟨1, some 5, (.assign (.const (Value.int .i64 0))), none⟩]) (.seq (.seq (.reg 1 [⟨0, some 10, (.move (.tmp 1)), none⟩, ⟨1, some 11, (.call { callee := .builtin .len, args := #[.tmp 10], argTypes := #[38] }), none⟩, ⟨2, some 12, (.binOp .eql 3 (.tmp 11) (.const (Value.int .i64 0)) 3), none⟩, ⟨3, some 13, (.move (.tmp 12)), none⟩, ⟨4, some 14, (.move (.tmp 0)), (some (13, true))⟩, ⟨5, some 15, (.call { callee := .value (.func 38), args := #[.tmp 14], argTypes := #[9] }), (some (13, true))⟩, ⟨6, some 16, (.unOp .not 4 (.tmp 15)), (some (13, true))⟩, ⟨7, some 17, (.pick (.tmp 13) (.tmp 16) (.const (Value.bool false))), none⟩]) (.cond (.tmp 17) (.seq (.reg 2 [⟨0, some 4, (.assign (.const (Value.string { data := #[] }))), none⟩, ⟨1, some 5, (.assign (.const (Value.int .i64 3))), none⟩]) .ret) .skip)) (.seq (.seq (.reg 3 [⟨0, some 18, (.move (.tmp 1)), none⟩, ⟨1, some 19, (.call { callee := .builtin .len, args := #[.tmp 18], argTypes := #[38] }), none⟩, ⟨2, some 20, (.move (.const (Value.int .i64 0))), none⟩]) (.block 0 (.loop (.seq (.reg 4 [⟨0, some 21, (.binOp .lss 3 (.tmp 20) (.tmp 19) 3), none⟩]) (.seq (.cond (.tmp 21) .skip (.exit 0)) (.seq (.block 1 (.seq (.reg 5 [⟨0, some 22, (.indexAddr 38 (.tmp 18) (.tmp 20)), none⟩, ⟨1, some 23, (.load 25 (.tmp 22)), none⟩, ⟨2, some 7, (.assign (.tmp 23)), none⟩]) (.seq (.reg 6 [⟨0, some 25, (.move (.tmp 7)), none⟩, ⟨1, some 26, (.move (.tmp 0)), none⟩, ⟨2, some 27, (.call { callee := .value (.func 37), args := #[.tmp 25, .tmp 26], argTypes := #[25, 9] }), none⟩, ⟨3, some 24, (.move (.tmp 27)), none⟩, ⟨4, some 28, (.extract (.tmp 24) 0), none⟩, ⟨5, some 29, (.extract (.tmp 24) 1), none⟩, ⟨6, some 8, (.assign (.tmp 28)), none⟩, ⟨7, some 9, (.assign (.tmp 29)), none⟩]) (.seq (.seq (.reg 7 [⟨0, some 30, (.move (.tmp 9)), none⟩, ⟨1, some 31, (.binOp .neq 26 (.tmp 30) (.const (Value.int .i64 0)) 26), none⟩]) (.cond (.tmp 31) (.seq (.reg 8 [⟨0, some 32, (.move (.tmp 9)), none⟩, ⟨1, some 4, (.assign (.const (Value.string { data := #[] }))), none⟩, ⟨2, some 5, (.assign (.tmp 32)), none⟩]) .ret) .skip)) (.reg 9 [⟨0, some 33, (.move (.tmp 8)), none⟩, ⟨1, some 0, (.assign (.tmp 33)), none⟩]))))) (.reg 10 [⟨0, some 34, (.binOp .add 3 (.tmp 20) (.const (Value.int .i64 1)) 3), none⟩, ⟨1, some 20, (.move (.tmp 34)), none⟩]))))))) (.seq (.reg 11 [⟨0, some 35, (.move (.tmp 0)), none⟩, ⟨1, some 4, (.assign (.tmp 35)), none⟩, ⟨2, some 5, (.assign (.const (Value.int .i64 0))), none⟩]) .ret))))
theorem comp68 : ∀ c, Tryd.f68.body = some c → comp c = cc68 := by
  intro c h
  have : c = Tryd.f68.body.get rfl := by rw [← Option.some_inj, ← h]; rfl
  rw [this]; rfl
def appP : List Sp → List Nat → List Nat
  | [], _ => []
  | s :: l, r => (if s.k = 2 then pts s.t.data.toList else if s.k = 1 then r.take s.n.toNat else []) ++ appP l (r.drop s.n.toNat)
def toE (l : List Sp) (t : ByteArray) : Int := if opMayF l ≠ 0 then opMayF l else if countD t.data.toList < 0 then 3 else if countD t.data.toList ≠ inW l then 5 else 0
def txt (ns : List Nat) : ByteArray := ⟨(encU ns).toArray⟩
def toT (l : List Sp) (t : ByteArray) : ByteArray := if toE l t = 0 then txt (appP l (pts t.data.toList)) else ⟨#[]⟩
def toA (l : List Sp) (t : ByteArray) : AV := .tup [.v (.string (toT l t)), .v (.int .i64 (toE l t))]
theorem toA_bad {l : List Sp} {t : ByteArray} {e : Int} (h : toE l t = e) (he : e ≠ 0) : toA l t = .tup [.v (.string ⟨#[]⟩), .v (.int .i64 e)] := by
  unfold toA toT; rw [h, if_neg he]
theorem toA_ok {l : List Sp} {t : ByteArray} (h : toE l t = 0) : toA l t = .tup [.v (.string (txt (appP l (pts t.data.toList)))), .v (.int .i64 0)] := by
  unfold toA toT; rw [h, if_pos rfl]
theorem txt_list (ns : List Nat) : (txt ns).data.toList = encU ns := by simp [txt]
theorem ba_ext {a b : ByteArray} (h : a.data.toList = b.data.toList) : a = b := by
  cases a; cases b; simp at h ⊢
  exact h
theorem txt_runes (ns : List Nat) : runesBytes (nIs ns) = txt ns := ba_ext (by rw [txt_list]; exact runes_bytes ns)
theorem toE_zero {l : List Sp} {t : ByteArray} (h : toE l t = 0) : opMayF l = 0 ∧ validD t.data.toList = true ∧ inW l = (pts t.data.toList).length := by
  unfold toE at h
  by_cases h1 : opMayF l = 0
  · rw [if_neg (by simp [h1])] at h
    by_cases h2 : countD t.data.toList < 0
    · rw [if_pos h2] at h; cases h
    · rw [if_neg h2] at h
      by_cases h3 : countD t.data.toList = inW l
      · cases hv : validD t.data.toList with
        | false => rw [countD_bad hv] at h2; omega
        | true => exact ⟨h1, rfl, by rw [← h3, countD_pts hv]⟩
      · rw [if_pos h3] at h; cases h
  · rw [if_pos h1] at h; exact absurd h h1
theorem toE_of {l : List Sp} {t : ByteArray} (h1 : opMayF l = 0) (h2 : validD t.data.toList = true) (h3 : inW l = (pts t.data.toList).length) : toE l t = 0 := by
  unfold toE; rw [if_neg (by simp [h1]), countD_pts h2, if_neg (by omega), if_neg (by simp [h3])]
def pce (s : Sp) (r : List Nat) : List Nat := if s.k = 2 then pts s.t.data.toList else if s.k = 1 then r.take s.n.toNat else []
theorem appP_cons (s : Sp) (l : List Sp) (r : List Nat) : appP (s :: l) r = pce s r ++ appP l (r.drop s.n.toNat) := rfl
theorem appP_at {l : List Sp} {i : Nat} (hi : i < l.length) (r : List Nat) : appP (l.drop i) r = pce l[i] r ++ appP (l.drop (i + 1)) (r.drop l[i].n.toNat) := by
  rw [List.drop_eq_getElem_cons hi, appP_cons]
theorem sum_at {l : List Sp} {i : Nat} (hi : i < l.length) : sumI inS (l.drop i) = inS l[i] + sumI inS (l.drop (i + 1)) := by
  rw [List.drop_eq_getElem_cons hi, sumI_cons]
theorem sum_pos {l : List Sp} (h : ∀ s ∈ l, SpOK s) : 0 ≤ sumI inS l := (sumI_bound inS 1048576 l (fun x hx => (h x hx).inS)).1
theorem span_at {s : Sp} (h : SpOK s) : (s.k = 2 ∧ s.n = 0 ∧ inS s = 0 ∧ validD s.t.data.toList = true) ∨ ((s.k = 1 ∨ s.k = 3) ∧ 0 ≤ s.n ∧ inS s = s.n ∧ s.t = ⟨#[]⟩) := by
  rcases h.cases with ⟨a, b, c, d⟩ | ⟨a, b, c⟩
  · exact .inr ⟨a, b, by unfold Abs.inS inF; rw [if_pos a], d⟩
  · exact .inl ⟨a, b, by unfold Abs.inS inF; rw [if_neg (by omega)], c⟩
theorem appP_len : ∀ (l : List Sp) (r : List Nat), (∀ s ∈ l, SpOK s) → sumI inS l = r.length → ((appP l r).length : Int) = sumI outS l
  | [], r, _, _ => by simp [appP, sumI]
  | s :: l, r, h, hr => by
    have hs := h s (by simp)
    have hp := sum_pos (fun x hx => h x (by simp [hx]) : ∀ x ∈ l, SpOK x)
    rw [sumI_cons] at hr
    have hn : s.n.toNat ≤ r.length ∧ inS s = (s.n.toNat : Int) := by rcases span_at hs with ⟨a, b, c, d⟩ | ⟨a, b, c, d⟩ <;> omega
    have ih := appP_len l (r.drop s.n.toNat) (fun x hx => h x (by simp [hx])) (by rw [List.length_drop]; omega)
    rw [appP_cons, List.length_append, sumI_cons, Int.natCast_add, ih]
    congr 1
    unfold pce outS outF
    rcases span_at hs with ⟨a, b, c, d⟩ | ⟨a | a, b, c, d⟩
    · rw [if_pos a, if_neg (by omega), if_pos a, countD_pts d]; omega
    · rw [if_neg (by omega), if_pos a, if_pos a, List.length_take]; omega
    · rw [if_neg (by omega), if_neg (by omega), if_neg (by omega), if_neg (by omega)]; rfl
theorem appP_scal : ∀ (l : List Sp) (r : List Nat), (∀ s ∈ l, SpOK s) → (∀ p ∈ r, Scal p) → ∀ p ∈ appP l r, Scal p
  | [], r, _, _, p, hp => by simp [appP] at hp
  | s :: l, r, h, hr, p, hp => by
    rw [appP_cons, List.mem_append] at hp
    rcases hp with hp | hp
    · unfold pce at hp
      rcases span_at (h s (by simp)) with ⟨a, b, c, d⟩ | ⟨a | a, b, c, d⟩
      · rw [if_pos a] at hp; exact (pts_scal _ d).2 p hp
      · rw [if_neg (by omega), if_pos a] at hp; exact hr p (List.mem_of_mem_take hp)
      · rw [if_neg (by omega), if_neg (by omega)] at hp; cases hp
    · exact appP_scal l _ (fun x hx => h x (by simp [hx])) (fun q hq => hr q (List.mem_of_mem_drop hq)) p hp
theorem appP_size : ∀ (l : List Sp) (r : List Nat), (∀ s ∈ l, SpOK s) → (encU (appP l r)).length ≤ (encU r).length + tbs l
  | [], r, _ => by simp [appP, encU]
  | s :: l, r, h => by
    have ih := appP_size l (r.drop s.n.toNat) (fun x hx => h x (by simp [hx]))
    have hr : (encU r).length = (encU (r.take s.n.toNat)).length + (encU (r.drop s.n.toNat)).length := by
      rw [← List.length_append, ← encU_app, List.take_append_drop]
    rw [appP_cons, encU_app, List.length_append, tbs_cons]
    have : (encU (pce s r)).length ≤ (encU (r.take s.n.toNat)).length + s.t.size := by
      unfold pce
      rcases span_at (h s (by simp)) with ⟨a, b, c, d⟩ | ⟨a | a, b, c, d⟩
      · rw [if_pos a, (pts_scal _ d).1, len_list]; omega
      · rw [if_neg (by omega), if_pos a]; omega
      · rw [if_neg (by omega), if_neg (by omega)]; simp [encU]
    omega
theorem toT_facts {l : List Sp} {t : ByteArray} (h : toE l t = 0) (hl : l.length ≤ 1000000000) (hb : t.size + tbs l ≤ 1000000000) : validD (toT l t).data.toList = true ∧ pts (toT l t).data.toList = appP l (pts t.data.toList) ∧ ((pts (toT l t).data.toList).length : Int) = outW l ∧ (toT l t).size ≤ t.size + tbs l := by
  obtain ⟨h1, h2, h3⟩ := toE_zero h
  obtain ⟨h4, h5⟩ := (opMay_iff l).1 h1
  have hs := inW_sum h4 hl
  have hT : toT l t = txt (appP l (pts t.data.toList)) := if_pos h
  obtain ⟨p1, p2⟩ := pts_scal _ h2
  obtain ⟨q1, q2⟩ := scal_text _ (appP_scal l _ h4 p2)
  have hlen := appP_len l (pts t.data.toList) h4 (by omega)
  have hsz := appP_size l (pts t.data.toList) h4
  rw [p1, len_list] at hsz
  rw [hT, txt_list]
  refine ⟨q1, q2, ?_, ?_⟩
  · rw [q2, outW_eq, ← hlen, wrap_id]
    rcases encU_len (l := appP l (pts t.data.toList)) with hu | ⟨p, hp, hn⟩
    · omega
    · exact absurd (appP_scal l _ h4 p2 p hp) hn
  · rw [← len_list, txt_list]; exact hsz
theorem rnsV_len (l : List Int) : (rnsV l).length = l.length := by simp [rnsV]
theorem nIs_len (l : List Nat) : (nIs l).length = l.length := by simp [nIs]
theorem rnsV_all (l : List Int) : ∀ y ∈ rnsV l, y.length = 1 := by
  intro y hy
  obtain ⟨s, _, rfl⟩ := List.mem_map.1 hy
  rfl
set_option maxHeartbeats 8000000 in
theorem to_call (l : List Sp) (t : ByteArray) (hl : l.length ≤ 100000000) (hb : tbs l + t.size ≤ 1000000000) : CallW env 37 [.lst 3 (sps l), .v (.string t)] (fun r hs => r = toA l t ∧ hs = []) := by
  have hsl := sps_len l
  have hra := runes_all t
  have hc := pcount_call t (by omega)
  have hsm : Small l := tbs_small (by omega)
  have hpl := pts_len t.data.toList
  rw [len_list] at hpl
  refine Ev.func tabOK [0, 1, 4, 5, 6, 7, 8, 9, 11, 15, 19, 22, 29, 30, 31, 32, 36, 37, 44] 0 Tryd.func37 rfl rfl (by simp [Tryd.ntmps37]) (by rfl) (comp37 _ rfl) (rs := [.tmp 4, .tmp 5]) rfl ?_; rw [cc37]; show Ev.Wp _ _ _ _ ⟨[(0, _), (1, _)], [], 0⟩
  repeat' (first | ((with_reducible first | refine Ev.sided ?_ ?_ | refine Ev.w_put ?_ | refine Ev.w_step ?_ | refine Ev.w_opt ?_); (conv => whnf)) | ((with_reducible refine Ev.chk_k ?_ ?_); rotate_left; (focus first | rfl | (simp only [Ev.nbeq, Bool.and_true, Bool.true_and, Bool.not_false]; done) | ((repeat' (first | exact Ev.nbeq _ | rfl | refine Bool.and_eq_true_iff.2 ⟨?_, ?_⟩)); done)); conv => whnf) | (with_reducible first | refine Ev.c_dec (fun _ => ?_) (fun _ => ?_) | refine Ev.c_not ?_ | refine Ev.c_t ?_ | refine Ev.c_f ?_ | refine Ev.c_br (fun _ => ?_) (fun _ => ?_)) | ((with_reducible refine Ev.br_not ?_); conv => whnf) | (with_reducible first | refine Ev.br_dec (fun _ => ?_) (fun _ => ?_) | refine Ev.br (fun _ => ?_) (fun _ => ?_) | refine Ev.eo_ret ?_ | refine Ev.eo_norm ?_ | refine Ev.t_norm ?_ | refine Ev.k_seq ?_) | ((with_reducible refine Ev.k_reg (hs := []) (tabOK' _ _) (fun Q hQ => ?_)); (simp only [Ev.runE_cons, Ev.runE_nil]); conv => whnf) | (with_reducible refine hQ _ ?_; clear hQ Q) | (with_reducible first | refine Ev.k_cond rfl ?_ | refine Ev.k_skip ?_ | refine Ev.k_block ?_ | refine Ev.k_exit ?_ | refine Ev.k_ret ?_ | refine Ev.t_ret ?_ | refine Ev.t_exit ?_ | refine Ev.b_norm ?_ | refine Ev.b_ret ?_ | refine Ev.b_here ?_ | refine Ev.b_off rfl ?_) | ((with_reducible first | refine Ev.e_ret (fun F hF => ?_) | refine Ev.e_norm (fun F hF => ?_) | refine Ev.eh_ret (fun F hF => ?_) | refine Ev.eh_norm (fun F hF => ?_) | refine Ev.go_k (fun c' => ?_) | refine Ev.byt_cut ?_ | refine Ev.byt_all ?_ | refine Ev.run_cut ?_ | refine Ev.run_all ?_); conv => whnf) | (with_reducible refine hF _ ?_; clear hF F) | (with_reducible refine Ev.u_step ?_) | ((first | refine Ev.call_det (opMay_call l (by omega) hsm) rfl rfl ?_ | refine Ev.call_det (hc) rfl rfl ?_ | refine Ev.call_det (opIn_call l (by omega)) rfl rfl ?_); conv => whnf) | ((first | refine Ev.call_det (opMay_call l (by omega) hsm) ?_ rfl ?_ | refine Ev.call_det (hc) ?_ rfl ?_ | refine Ev.call_det (opIn_call l (by omega)) ?_ rfl ?_); (focus (repeat' (first | with_reducible rfl | refine Ev.cons_eq ?_ ?_)) <;> (first | rfl | (refine Ev.lst_eq (Ev.take_all ?_ rfl); first | omega | (simp; done) | (simp; omega)) | (refine Ev.int_eq ?_; omega) | (simp; done))); conv => whnf) | ((refine Ev.el_map0 ?_ (fun hi => ?_)); rotate_left; conv => whnf) | ((refine Ev.el_mapN ?_ (fun hi => ?_)); rotate_left; conv => whnf) | (refine Ev.Side.of ?_; exact Nat.le_of_ble_eq_true rfl) | (refine Ev.Side.of ?_; omega) | (refine Ev.Side.of ?_; simp only [Ev.wrap64]; omega) | (refine Ev.app_one ?_ rfl ?_ (by decide) <;> (first | omega | (simp; done) | (simp; omega))) | (refine Ev.app_nil1 rfl (by decide)) | (refine Ev.app_ys ?_ ?_ ?_ (by decide) <;> (first | omega | exact sps_all _ | exact bts_all _ | exact ints_all _ | exact spss_all _ | (simp; done) | (simp; omega))) | (refine Ev.app_nil ?_ ?_ (by decide) <;> (first | omega | exact sps_all _ | exact bts_all _ | exact ints_all _ | exact spss_all _ | (simp; done) | (simp; omega))) | (refine Ev.Side.of ?_; first | omega | (simp; done) | (simp; omega)))
  · have : toE l t = 3 := by unfold toE; rw [if_neg (by simp; assumption), if_pos (by assumption)]
    exact ⟨(toA_bad this (by decide)).symm, rfl⟩
  · have h1 : opMayF l = 0 := by assumption
    have h2 : ¬ countD t.data.toList < 0 := by assumption
    have h3 : countD t.data.toList = inW l := by assumption
    have hz : toE l t = 0 := by unfold toE; rw [if_neg (by simp [h1]), if_neg h2, if_neg (by simp [h3])]
    obtain ⟨_, hv, hin⟩ := toE_zero hz
    obtain ⟨h4, h5⟩ := (opMay_iff l).1 h1
    have hsum := inW_sum h4 (by omega)
    rw [toA_ok hz]
    generalize pts t.data.toList = r0 at *
    refine Ev.loop (fun k s => ∃ (i c : Nat) (O R : List Nat) (st : AV) (hx : List (Nat × Blk)), s = ⟨[(8, .lst 1 (rnsV (nIs R))), (9, st), (29, .lst 3 (sps l)), (30, .v (.int .i64 (sps l).length)), (31, .v (.int .i64 i))], hx, c⟩ ∧
      ((O = [] ∧ st = nilA ∧ hx = []) ∨ (∃ v, st = .own 8224 v 0 O.length ∧ hx = [(8224, ⟨1, 21, v, 0, false, rnsV (nIs O)⟩)]) ∨ (∃ v, st = .own 9256 v 0 O.length ∧ hx = [(9256, ⟨1, 21, v, 0, false, rnsV (nIs O)⟩)])) ∧
      k + i = l.length ∧ appP l r0 = O ++ appP (l.drop i) R ∧ (R.length : Int) = sumI inS (l.drop i) ∧ O.length + R.length ≤ tbs (l.take i) + r0.length) ?_ ?_
    · (refine Ev.to _ ?hs1 ?hh1 ?hc1 ⟨l.length, 0, ?_, [], r0, nilA, [], rfl, ?hp1⟩; (case hs1 | hh1 => ((repeat' (first | exact trivial | refine And.intro ?_ ?_)) <;> (refine Ev.slot_eq rfl ?_; first | with_reducible rfl | (refine Ev.int_eq ?_; first | omega | (simp only [Ev.wrap64, Ev.wrap8, Ev.wrap32, Int.toNat_natCast] at *; omega)) | ((first | refine Ev.int_eq ?_ | refine Ev.own_eq ?_ | refine Ev.blk_eq ?_ | skip); first | with_reducible rfl | omega | (first | (rw [hra]; done) | rfl) | rfl) | (first | (rw [hra]; done) | rfl) | rfl))); (case hc1 => exact Nat.le_refl _))
      exact ⟨.inl ⟨rfl, rfl, rfl⟩, by omega, rfl, by rw [List.drop_zero]; omega, by simp⟩
    rintro k s1 ⟨i, c, O, R, st, hx, rfl, hst, hk, hap, hR, hsz⟩
    have hrl := rnsV_len (nIs R)
    rw [nIs_len] at hrl
    have hol := rnsV_len (nIs O)
    rw [nIs_len] at hol
    by_cases hil : i < l.length
    · have hs := h4 _ (List.getElem_mem hil)
      have hsa := sum_at hil
      have hsp := sum_pos (fun x hx => h4 x (List.mem_of_mem_drop hx) : ∀ x ∈ l.drop (i + 1), SpOK x)
      have hpa := appP_at hil R
      have htk := tbs_take l hil
      have htl := tbs_le l (i + 1)
      have hxa := runes_all l[i].t
      have hpx := pts_len l[i].t.data.toList
      rw [len_list] at hpx
      have hdr : List.take ((rnsV (nIs R)).length - (l[i].n).toNat) (List.drop (l[i].n).toNat (rnsV (nIs R))) = rnsV (nIs (R.drop l[i].n.toNat)) := by
        rw [rnsV_cut, List.take_of_length_le (by rw [List.length_drop, nIs_len, hrl]; exact Nat.le_refl _)]; simp [nIs, List.map_drop]
      have htk2 : List.take ((l[i].n).toNat - 0) (List.drop 0 (rnsV (nIs R))) = rnsV (nIs (R.take l[i].n.toNat)) := by
        rw [rnsV_cut, List.drop_zero, Nat.sub_zero]; simp [nIs, List.map_take]
      rcases hst with ⟨rfl, rfl, rfl⟩ | ⟨v, rfl, rfl⟩ | ⟨v, rfl, rfl⟩
      · rcases span_at hs with ⟨a, b, c', d⟩ | ⟨a | a, b, c', d⟩
        · have hi2 : (i : Int) < ((sps l).length : Int) := by omega
          have hn : l[i].n.toNat ≤ R.length := by omega
          have hP : pce l[i] R = pts l[i].t.data.toList := by unfold pce; rw [if_pos a]
          have hstep : appP l r0 = ([] ++ pts l[i].t.data.toList) ++ appP (l.drop (i + 1)) (R.drop l[i].n.toNat) := by rw [hap, hpa, hP, List.append_assoc]
          have hrow : runesAV l[i].t = rnsV (nIs ([] ++ pts l[i].t.data.toList)) := by rw [hxa]; simp [rnsV, nIs]
          have hlr : (runesAV l[i].t).length = ([] ++ pts l[i].t.data.toList).length := by rw [hxa, rnsV_len, nIs_len]; simp
          have hpl2 : (pts l[i].t.data.toList).length ≤ l[i].t.size := by exact hpx
          repeat' (first | (((with_reducible refine Ev.br_pos ?_ ?_); focus (decide)); conv => whnf) | (((with_reducible refine Ev.br_neg ?_ ?_); focus (decide)); conv => whnf) | (((with_reducible refine Ev.c_pos ?_ ?_); focus (decide))) | (((with_reducible refine Ev.c_neg ?_ ?_); focus (decide))) | (with_reducible refine Ev.c_pos hi2 ?_) | (with_reducible refine Ev.c_pos a ?_) | ((with_reducible first | refine Ev.sided ?_ ?_ | refine Ev.w_put ?_ | refine Ev.w_step ?_ | refine Ev.w_opt ?_); (conv => whnf)) | ((with_reducible refine Ev.chk_k ?_ ?_); rotate_left; (focus first | rfl | (simp only [Ev.nbeq, Bool.and_true, Bool.true_and, Bool.not_false]; done) | ((repeat' (first | exact Ev.nbeq _ | rfl | refine Bool.and_eq_true_iff.2 ⟨?_, ?_⟩)); done)); conv => whnf) | (with_reducible first | refine Ev.c_dec (fun _ => ?_) (fun _ => ?_) | refine Ev.c_not ?_ | refine Ev.c_t ?_ | refine Ev.c_f ?_ | refine Ev.c_br (fun _ => ?_) (fun _ => ?_)) | ((with_reducible refine Ev.br_not ?_); conv => whnf) | (with_reducible first | refine Ev.br_dec (fun _ => ?_) (fun _ => ?_) | refine Ev.br (fun _ => ?_) (fun _ => ?_) | refine Ev.eo_ret ?_ | refine Ev.eo_norm ?_ | refine Ev.t_norm ?_ | refine Ev.k_seq ?_) | ((with_reducible refine Ev.k_reg (hs := []) (tabOK' _ _) (fun Q hQ => ?_)); (simp only [Ev.runE_cons, Ev.runE_nil]); conv => whnf) | (with_reducible refine hQ _ ?_; clear hQ Q) | (with_reducible first | refine Ev.k_cond rfl ?_ | refine Ev.k_skip ?_ | refine Ev.k_block ?_ | refine Ev.k_exit ?_ | refine Ev.k_ret ?_ | refine Ev.t_ret ?_ | refine Ev.t_exit ?_ | refine Ev.b_norm ?_ | refine Ev.b_ret ?_ | refine Ev.b_here ?_ | refine Ev.b_off rfl ?_) | ((with_reducible first | refine Ev.e_ret (fun F hF => ?_) | refine Ev.e_norm (fun F hF => ?_) | refine Ev.eh_ret (fun F hF => ?_) | refine Ev.eh_norm (fun F hF => ?_) | refine Ev.go_k (fun c' => ?_) | refine Ev.byt_cut ?_ | refine Ev.byt_all ?_ | refine Ev.run_cut ?_ | refine Ev.run_all ?_); conv => whnf) | (with_reducible refine hF _ ?_; clear hF F) | (with_reducible refine Ev.u_step ?_) | ((refine Ev.el_map0 ?_ (fun hi => ?_)); rotate_left; conv => whnf) | ((refine Ev.el_mapN ?_ (fun hi => ?_)); rotate_left; conv => whnf) | (refine Ev.Side.of ?_; exact Nat.le_of_ble_eq_true rfl) | (refine Ev.Side.of ?_; omega) | (refine Ev.Side.of ?_; simp only [Ev.wrap64]; omega) | (refine Ev.app_one ?_ rfl ?_ (by decide) <;> (first | omega | (simp; done) | (simp; omega))) | (refine Ev.app_nil1 rfl (by decide)) | (refine Ev.app_ys ?_ ?_ ?_ (by decide) <;> (first | omega | exact sps_all _ | exact bts_all _ | exact ints_all _ | exact spss_all _ | (simp; done) | (simp; omega))) | (refine Ev.app_nil ?_ ?_ (by decide) <;> (first | omega | exact sps_all _ | exact bts_all _ | exact ints_all _ | exact spss_all _ | (simp; done) | (simp; omega))) | (refine Ev.Side.of ?_; first | omega | (simp; done) | (simp; omega)))
          · (refine Ev.again (k - 1) _ ?hm2 ?hs2 ?hh2 ?hc2 ⟨i + 1, c + 8 + 8, ([] ++ pts l[i].t.data.toList), R.drop l[i].n.toNat, .own 8224 (c + 8) 0 ([] ++ pts l[i].t.data.toList).length, [(8224, ⟨1, 21, c + 8, 0, false, rnsV (nIs ([] ++ pts l[i].t.data.toList))⟩)], rfl, ?hp2⟩; (case hs2 | hh2 => ((repeat' (first | exact trivial | refine And.intro ?_ ?_)) <;> (refine Ev.slot_eq rfl ?_; first | with_reducible rfl | (refine Ev.int_eq ?_; first | omega | (simp only [Ev.wrap64, Ev.wrap8, Ev.wrap32, Int.toNat_natCast] at *; omega)) | ((first | refine Ev.int_eq ?_ | refine Ev.own_eq ?_ | refine Ev.blk_eq ?_ | skip); first | with_reducible rfl | omega | (first | exact wrap_succ (by omega) | exact congrArg (AV.lst 1) hdr | exact hlr | (exact congrArg (fun n => Blk.mk 1 21 _ 0 false n) hrow) | rfl) | rfl) | (first | exact wrap_succ (by omega) | exact congrArg (AV.lst 1) hdr | exact hlr | (exact congrArg (fun n => Blk.mk 1 21 _ 0 false n) hrow) | rfl) | rfl))); (case hc2 => exact Nat.le_refl _); (case hm2 => omega))
            refine ⟨.inr (.inl ⟨_, rfl, rfl⟩), by omega, hstep, by rw [List.length_drop]; omega, ?_⟩
            simp only [List.length_append, List.length_nil, List.length_drop, List.length_take] at hsz ⊢; omega
          · rw [hxa]; exact Ev.app_nil (rnsV_all _) (by rw [rnsV_len, nIs_len]; omega) (by decide)
        · have hi2 : (i : Int) < ((sps l).length : Int) := by omega
          have a2 : ¬ l[i].k = 2 := by omega
          have hn : l[i].n.toNat ≤ R.length := by omega
          have hP : pce l[i] R = R.take l[i].n.toNat := by unfold pce; rw [if_neg a2, if_pos a]
          have hstep : appP l r0 = ([] ++ R.take l[i].n.toNat) ++ appP (l.drop (i + 1)) (R.drop l[i].n.toNat) := by rw [hap, hpa, hP, List.append_assoc]
          have hrow : List.take (l[i].n.toNat - 0) (List.drop 0 (rnsV (nIs R))) = rnsV (nIs ([] ++ R.take l[i].n.toNat)) := by rw [htk2]; simp [rnsV, nIs]
          have hlr : (List.take (l[i].n.toNat - 0) (List.drop 0 (rnsV (nIs R)))).length = ([] ++ R.take l[i].n.toNat).length := by rw [htk2, rnsV_len, nIs_len]; simp
          have hpl2 : (R.take l[i].n.toNat).length ≤ R.length := by rw [List.length_take]; omega
          repeat' (first | (((with_reducible refine Ev.br_pos ?_ ?_); focus (decide)); conv => whnf) | (((with_reducible refine Ev.br_neg ?_ ?_); focus (decide)); conv => whnf) | (((with_reducible refine Ev.c_pos ?_ ?_); focus (decide))) | (((with_reducible refine Ev.c_neg ?_ ?_); focus (decide))) | (with_reducible refine Ev.c_pos hi2 ?_) | (with_reducible refine Ev.c_neg a2 ?_) | (with_reducible refine Ev.c_pos a ?_) | ((with_reducible first | refine Ev.sided ?_ ?_ | refine Ev.w_put ?_ | refine Ev.w_step ?_ | refine Ev.w_opt ?_); (conv => whnf)) | ((with_reducible refine Ev.chk_k ?_ ?_); rotate_left; (focus first | rfl | (simp only [Ev.nbeq, Bool.and_true, Bool.true_and, Bool.not_false]; done) | ((repeat' (first | exact Ev.nbeq _ | rfl | refine Bool.and_eq_true_iff.2 ⟨?_, ?_⟩)); done)); conv => whnf) | (with_reducible first | refine Ev.c_dec (fun _ => ?_) (fun _ => ?_) | refine Ev.c_not ?_ | refine Ev.c_t ?_ | refine Ev.c_f ?_ | refine Ev.c_br (fun _ => ?_) (fun _ => ?_)) | ((with_reducible refine Ev.br_not ?_); conv => whnf) | (with_reducible first | refine Ev.br_dec (fun _ => ?_) (fun _ => ?_) | refine Ev.br (fun _ => ?_) (fun _ => ?_) | refine Ev.eo_ret ?_ | refine Ev.eo_norm ?_ | refine Ev.t_norm ?_ | refine Ev.k_seq ?_) | ((with_reducible refine Ev.k_reg (hs := []) (tabOK' _ _) (fun Q hQ => ?_)); (simp only [Ev.runE_cons, Ev.runE_nil]); conv => whnf) | (with_reducible refine hQ _ ?_; clear hQ Q) | (with_reducible first | refine Ev.k_cond rfl ?_ | refine Ev.k_skip ?_ | refine Ev.k_block ?_ | refine Ev.k_exit ?_ | refine Ev.k_ret ?_ | refine Ev.t_ret ?_ | refine Ev.t_exit ?_ | refine Ev.b_norm ?_ | refine Ev.b_ret ?_ | refine Ev.b_here ?_ | refine Ev.b_off rfl ?_) | ((with_reducible first | refine Ev.e_ret (fun F hF => ?_) | refine Ev.e_norm (fun F hF => ?_) | refine Ev.eh_ret (fun F hF => ?_) | refine Ev.eh_norm (fun F hF => ?_) | refine Ev.go_k (fun c' => ?_) | refine Ev.byt_cut ?_ | refine Ev.byt_all ?_ | refine Ev.run_cut ?_ | refine Ev.run_all ?_); conv => whnf) | (with_reducible refine hF _ ?_; clear hF F) | (with_reducible refine Ev.u_step ?_) | ((refine Ev.el_map0 ?_ (fun hi => ?_)); rotate_left; conv => whnf) | ((refine Ev.el_mapN ?_ (fun hi => ?_)); rotate_left; conv => whnf) | (refine Ev.Side.of ?_; exact Nat.le_of_ble_eq_true rfl) | (refine Ev.Side.of ?_; omega) | (refine Ev.Side.of ?_; simp only [Ev.wrap64]; omega) | (refine Ev.app_one ?_ rfl ?_ (by decide) <;> (first | omega | (simp; done) | (simp; omega))) | (refine Ev.app_nil1 rfl (by decide)) | (refine Ev.app_ys ?_ ?_ ?_ (by decide) <;> (first | omega | exact sps_all _ | exact bts_all _ | exact ints_all _ | exact spss_all _ | (simp; done) | (simp; omega))) | (refine Ev.app_nil ?_ ?_ (by decide) <;> (first | omega | exact sps_all _ | exact bts_all _ | exact ints_all _ | exact spss_all _ | (simp; done) | (simp; omega))) | (refine Ev.Side.of ?_; first | omega | (simp; done) | (simp; omega)))
          · (refine Ev.again (k - 1) _ ?hm3 ?hs3 ?hh3 ?hc3 ⟨i + 1, c + 8 + 8, ([] ++ R.take l[i].n.toNat), R.drop l[i].n.toNat, .own 9256 (c + 8) 0 ([] ++ R.take l[i].n.toNat).length, [(9256, ⟨1, 21, c + 8, 0, false, rnsV (nIs ([] ++ R.take l[i].n.toNat))⟩)], rfl, ?hp3⟩; (case hs3 | hh3 => ((repeat' (first | exact trivial | refine And.intro ?_ ?_)) <;> (refine Ev.slot_eq rfl ?_; first | with_reducible rfl | (refine Ev.int_eq ?_; first | omega | (simp only [Ev.wrap64, Ev.wrap8, Ev.wrap32, Int.toNat_natCast] at *; omega)) | ((first | refine Ev.int_eq ?_ | refine Ev.own_eq ?_ | refine Ev.blk_eq ?_ | skip); first | with_reducible rfl | omega | (first | exact wrap_succ (by omega) | exact congrArg (AV.lst 1) hdr | exact hlr | (exact congrArg (fun n => Blk.mk 1 21 _ 0 false n) hrow) | rfl) | rfl) | (first | exact wrap_succ (by omega) | exact congrArg (AV.lst 1) hdr | exact hlr | (exact congrArg (fun n => Blk.mk 1 21 _ 0 false n) hrow) | rfl) | rfl))); (case hc3 => exact Nat.le_refl _); (case hm3 => omega))
            refine ⟨.inr (.inr ⟨_, rfl, rfl⟩), by omega, hstep, by rw [List.length_drop]; omega, ?_⟩
            simp only [List.length_append, List.length_nil, List.length_drop, List.length_take] at hsz ⊢; omega
          · rw [htk2]; exact Ev.app_nil (rnsV_all _) (by rw [rnsV_len, nIs_len]; omega) (by decide)
        · have hi2 : (i : Int) < ((sps l).length : Int) := by omega
          have a2 : ¬ l[i].k = 2 := by omega
          have a1 : ¬ l[i].k = 1 := by omega
          have hn : l[i].n.toNat ≤ R.length := by omega
          have hP : pce l[i] R = [] := by unfold pce; rw [if_neg a2, if_neg a1]
          have hstep : appP l r0 = [] ++ appP (l.drop (i + 1)) (R.drop l[i].n.toNat) := by rw [hap, hpa, hP]; rfl
          repeat' (first | (((with_reducible refine Ev.br_pos ?_ ?_); focus (decide)); conv => whnf) | (((with_reducible refine Ev.br_neg ?_ ?_); focus (decide)); conv => whnf) | (((with_reducible refine Ev.c_pos ?_ ?_); focus (decide))) | (((with_reducible refine Ev.c_neg ?_ ?_); focus (decide))) | (with_reducible refine Ev.c_pos hi2 ?_) | (with_reducible refine Ev.c_neg a2 ?_) | (with_reducible refine Ev.c_neg a1 ?_) | ((with_reducible first | refine Ev.sided ?_ ?_ | refine Ev.w_put ?_ | refine Ev.w_step ?_ | refine Ev.w_opt ?_); (conv => whnf)) | ((with_reducible refine Ev.chk_k ?_ ?_); rotate_left; (focus first | rfl | (simp only [Ev.nbeq, Bool.and_true, Bool.true_and, Bool.not_false]; done) | ((repeat' (first | exact Ev.nbeq _ | rfl | refine Bool.and_eq_true_iff.2 ⟨?_, ?_⟩)); done)); conv => whnf) | (with_reducible first | refine Ev.c_dec (fun _ => ?_) (fun _ => ?_) | refine Ev.c_not ?_ | refine Ev.c_t ?_ | refine Ev.c_f ?_ | refine Ev.c_br (fun _ => ?_) (fun _ => ?_)) | ((with_reducible refine Ev.br_not ?_); conv => whnf) | (with_reducible first | refine Ev.br_dec (fun _ => ?_) (fun _ => ?_) | refine Ev.br (fun _ => ?_) (fun _ => ?_) | refine Ev.eo_ret ?_ | refine Ev.eo_norm ?_ | refine Ev.t_norm ?_ | refine Ev.k_seq ?_) | ((with_reducible refine Ev.k_reg (hs := []) (tabOK' _ _) (fun Q hQ => ?_)); (simp only [Ev.runE_cons, Ev.runE_nil]); conv => whnf) | (with_reducible refine hQ _ ?_; clear hQ Q) | (with_reducible first | refine Ev.k_cond rfl ?_ | refine Ev.k_skip ?_ | refine Ev.k_block ?_ | refine Ev.k_exit ?_ | refine Ev.k_ret ?_ | refine Ev.t_ret ?_ | refine Ev.t_exit ?_ | refine Ev.b_norm ?_ | refine Ev.b_ret ?_ | refine Ev.b_here ?_ | refine Ev.b_off rfl ?_) | ((with_reducible first | refine Ev.e_ret (fun F hF => ?_) | refine Ev.e_norm (fun F hF => ?_) | refine Ev.eh_ret (fun F hF => ?_) | refine Ev.eh_norm (fun F hF => ?_) | refine Ev.go_k (fun c' => ?_) | refine Ev.byt_cut ?_ | refine Ev.byt_all ?_ | refine Ev.run_cut ?_ | refine Ev.run_all ?_); conv => whnf) | (with_reducible refine hF _ ?_; clear hF F) | (with_reducible refine Ev.u_step ?_) | ((refine Ev.el_map0 ?_ (fun hi => ?_)); rotate_left; conv => whnf) | ((refine Ev.el_mapN ?_ (fun hi => ?_)); rotate_left; conv => whnf) | (refine Ev.Side.of ?_; exact Nat.le_of_ble_eq_true rfl) | (refine Ev.Side.of ?_; omega) | (refine Ev.Side.of ?_; simp only [Ev.wrap64]; omega) | (refine Ev.app_one ?_ rfl ?_ (by decide) <;> (first | omega | (simp; done) | (simp; omega))) | (refine Ev.app_nil1 rfl (by decide)) | (refine Ev.app_ys ?_ ?_ ?_ (by decide) <;> (first | omega | exact sps_all _ | exact bts_all _ | exact ints_all _ | exact spss_all _ | (simp; done) | (simp; omega))) | (refine Ev.app_nil ?_ ?_ (by decide) <;> (first | omega | exact sps_all _ | exact bts_all _ | exact ints_all _ | exact spss_all _ | (simp; done) | (simp; omega))) | (refine Ev.Side.of ?_; first | omega | (simp; done) | (simp; omega)))
          · (refine Ev.again (k - 1) _ ?hm4 ?hs4 ?hh4 ?hc4 ⟨i + 1, c + 8, [], R.drop l[i].n.toNat, nilA, [], rfl, ?hp4⟩; (case hs4 | hh4 => ((repeat' (first | exact trivial | refine And.intro ?_ ?_)) <;> (refine Ev.slot_eq rfl ?_; first | with_reducible rfl | (refine Ev.int_eq ?_; first | omega | (simp only [Ev.wrap64, Ev.wrap8, Ev.wrap32, Int.toNat_natCast] at *; omega)) | ((first | refine Ev.int_eq ?_ | refine Ev.own_eq ?_ | refine Ev.blk_eq ?_ | skip); first | with_reducible rfl | omega | (first | exact wrap_succ (by omega) | exact congrArg (AV.lst 1) hdr | rfl) | rfl) | (first | exact wrap_succ (by omega) | exact congrArg (AV.lst 1) hdr | rfl) | rfl))); (case hc4 => exact Nat.le_refl _); (case hm4 => omega))
            refine ⟨.inl ⟨rfl, rfl, rfl⟩, by omega, hstep, by rw [List.length_drop]; omega, ?_⟩
            simp only [List.length_append, List.length_nil, List.length_drop, List.length_take] at hsz ⊢; omega
      · rcases span_at hs with ⟨a, b, c', d⟩ | ⟨a | a, b, c', d⟩
        · have hi2 : (i : Int) < ((sps l).length : Int) := by omega
          have hn : l[i].n.toNat ≤ R.length := by omega
          have hP : pce l[i] R = pts l[i].t.data.toList := by unfold pce; rw [if_pos a]
          have hstep : appP l r0 = (O ++ pts l[i].t.data.toList) ++ appP (l.drop (i + 1)) (R.drop l[i].n.toNat) := by rw [hap, hpa, hP, List.append_assoc]
          have hrow : rnsV (nIs O) ++ runesAV l[i].t = rnsV (nIs (O ++ pts l[i].t.data.toList)) := by rw [hxa]; simp [rnsV, nIs]
          have hlr : O.length + (runesAV l[i].t).length = (O ++ pts l[i].t.data.toList).length := by rw [hxa, rnsV_len, nIs_len]; simp
          have hpl2 : (pts l[i].t.data.toList).length ≤ l[i].t.size := by exact hpx
          repeat' (first | (((with_reducible refine Ev.br_pos ?_ ?_); focus (decide)); conv => whnf) | (((with_reducible refine Ev.br_neg ?_ ?_); focus (decide)); conv => whnf) | (((with_reducible refine Ev.c_pos ?_ ?_); focus (decide))) | (((with_reducible refine Ev.c_neg ?_ ?_); focus (decide))) | (with_reducible refine Ev.c_pos hi2 ?_) | (with_reducible refine Ev.c_pos a ?_) | ((with_reducible first | refine Ev.sided ?_ ?_ | refine Ev.w_put ?_ | refine Ev.w_step ?_ | refine Ev.w_opt ?_); (conv => whnf)) | ((with_reducible refine Ev.chk_k ?_ ?_); rotate_left; (focus first | rfl | (simp only [Ev.nbeq, Bool.and_true, Bool.true_and, Bool.not_false]; done) | ((repeat' (first | exact Ev.nbeq _ | rfl | refine Bool.and_eq_true_iff.2 ⟨?_, ?_⟩)); done)); conv => whnf) | (with_reducible first | refine Ev.c_dec (fun _ => ?_) (fun _ => ?_) | refine Ev.c_not ?_ | refine Ev.c_t ?_ | refine Ev.c_f ?_ | refine Ev.c_br (fun _ => ?_) (fun _ => ?_)) | ((with_reducible refine Ev.br_not ?_); conv => whnf) | (with_reducible first | refine Ev.br_dec (fun _ => ?_) (fun _ => ?_) | refine Ev.br (fun _ => ?_) (fun _ => ?_) | refine Ev.eo_ret ?_ | refine Ev.eo_norm ?_ | refine Ev.t_norm ?_ | refine Ev.k_seq ?_) | ((with_reducible refine Ev.k_reg (hs := []) (tabOK' _ _) (fun Q hQ => ?_)); (simp only [Ev.runE_cons, Ev.runE_nil]); conv => whnf) | (with_reducible refine hQ _ ?_; clear hQ Q) | (with_reducible first | refine Ev.k_cond rfl ?_ | refine Ev.k_skip ?_ | refine Ev.k_block ?_ | refine Ev.k_exit ?_ | refine Ev.k_ret ?_ | refine Ev.t_ret ?_ | refine Ev.t_exit ?_ | refine Ev.b_norm ?_ | refine Ev.b_ret ?_ | refine Ev.b_here ?_ | refine Ev.b_off rfl ?_) | ((with_reducible first | refine Ev.e_ret (fun F hF => ?_) | refine Ev.e_norm (fun F hF => ?_) | refine Ev.eh_ret (fun F hF => ?_) | refine Ev.eh_norm (fun F hF => ?_) | refine Ev.go_k (fun c' => ?_) | refine Ev.byt_cut ?_ | refine Ev.byt_all ?_ | refine Ev.run_cut ?_ | refine Ev.run_all ?_); conv => whnf) | (with_reducible refine hF _ ?_; clear hF F) | (with_reducible refine Ev.u_step ?_) | ((refine Ev.el_map0 ?_ (fun hi => ?_)); rotate_left; conv => whnf) | ((refine Ev.el_mapN ?_ (fun hi => ?_)); rotate_left; conv => whnf) | (refine Ev.Side.of ?_; exact Nat.le_of_ble_eq_true rfl) | (refine Ev.Side.of ?_; omega) | (refine Ev.Side.of ?_; simp only [Ev.wrap64]; omega) | (refine Ev.app_one ?_ rfl ?_ (by decide) <;> (first | omega | (simp; done) | (simp; omega))) | (refine Ev.app_nil1 rfl (by decide)) | (refine Ev.app_ys ?_ ?_ ?_ (by decide) <;> (first | omega | exact sps_all _ | exact bts_all _ | exact ints_all _ | exact spss_all _ | (simp; done) | (simp; omega))) | (refine Ev.app_nil ?_ ?_ (by decide) <;> (first | omega | exact sps_all _ | exact bts_all _ | exact ints_all _ | exact spss_all _ | (simp; done) | (simp; omega))) | (refine Ev.Side.of ?_; first | omega | (simp; done) | (simp; omega)))
          · (refine Ev.again (k - 1) _ ?hm5 ?hs5 ?hh5 ?hc5 ⟨i + 1, c + 8 + 8, (O ++ pts l[i].t.data.toList), R.drop l[i].n.toNat, .own 8224 (c + 8) 0 (O ++ pts l[i].t.data.toList).length, [(8224, ⟨1, 21, c + 8, 0, false, rnsV (nIs (O ++ pts l[i].t.data.toList))⟩)], rfl, ?hp5⟩; (case hs5 | hh5 => ((repeat' (first | exact trivial | refine And.intro ?_ ?_)) <;> (refine Ev.slot_eq rfl ?_; first | with_reducible rfl | (refine Ev.int_eq ?_; first | omega | (simp only [Ev.wrap64, Ev.wrap8, Ev.wrap32, Int.toNat_natCast] at *; omega)) | ((first | refine Ev.int_eq ?_ | refine Ev.own_eq ?_ | refine Ev.blk_eq ?_ | skip); first | with_reducible rfl | omega | (first | exact wrap_succ (by omega) | exact congrArg (AV.lst 1) hdr | exact hlr | (exact congrArg (fun n => Blk.mk 1 21 _ 0 false n) hrow) | rfl) | rfl) | (first | exact wrap_succ (by omega) | exact congrArg (AV.lst 1) hdr | exact hlr | (exact congrArg (fun n => Blk.mk 1 21 _ 0 false n) hrow) | rfl) | rfl))); (case hc5 => exact Nat.le_refl _); (case hm5 => omega))
            refine ⟨.inr (.inl ⟨_, rfl, rfl⟩), by omega, hstep, by rw [List.length_drop]; omega, ?_⟩
            simp only [List.length_append, List.length_nil, List.length_drop, List.length_take] at hsz ⊢; omega
          · rw [hxa]; exact Ev.app_ys (by rw [hol]) (rnsV_all _) (by rw [rnsV_len, nIs_len]; omega) (by decide)
        · have hi2 : (i : Int) < ((sps l).length : Int) := by omega
          have a2 : ¬ l[i].k = 2 := by omega
          have hn : l[i].n.toNat ≤ R.length := by omega
          have hP : pce l[i] R = R.take l[i].n.toNat := by unfold pce; rw [if_neg a2, if_pos a]
          have hstep : appP l r0 = (O ++ R.take l[i].n.toNat) ++ appP (l.drop (i + 1)) (R.drop l[i].n.toNat) := by rw [hap, hpa, hP, List.append_assoc]
          have hrow : rnsV (nIs O) ++ List.take (l[i].n.toNat - 0) (List.drop 0 (rnsV (nIs R))) = rnsV (nIs (O ++ R.take l[i].n.toNat)) := by rw [htk2]; simp [rnsV, nIs]
          have hlr : O.length + (List.take (l[i].n.toNat - 0) (List.drop 0 (rnsV (nIs R)))).length = (O ++ R.take l[i].n.toNat).length := by rw [htk2, rnsV_len, nIs_len]; simp
          have hpl2 : (R.take l[i].n.toNat).length ≤ R.length := by rw [List.length_take]; omega
          repeat' (first | (((with_reducible refine Ev.br_pos ?_ ?_); focus (decide)); conv => whnf) | (((with_reducible refine Ev.br_neg ?_ ?_); focus (decide)); conv => whnf) | (((with_reducible refine Ev.c_pos ?_ ?_); focus (decide))) | (((with_reducible refine Ev.c_neg ?_ ?_); focus (decide))) | (with_reducible refine Ev.c_pos hi2 ?_) | (with_reducible refine Ev.c_neg a2 ?_) | (with_reducible refine Ev.c_pos a ?_) | ((with_reducible first | refine Ev.sided ?_ ?_ | refine Ev.w_put ?_ | refine Ev.w_step ?_ | refine Ev.w_opt ?_); (conv => whnf)) | ((with_reducible refine Ev.chk_k ?_ ?_); rotate_left; (focus first | rfl | (simp only [Ev.nbeq, Bool.and_true, Bool.true_and, Bool.not_false]; done) | ((repeat' (first | exact Ev.nbeq _ | rfl | refine Bool.and_eq_true_iff.2 ⟨?_, ?_⟩)); done)); conv => whnf) | (with_reducible first | refine Ev.c_dec (fun _ => ?_) (fun _ => ?_) | refine Ev.c_not ?_ | refine Ev.c_t ?_ | refine Ev.c_f ?_ | refine Ev.c_br (fun _ => ?_) (fun _ => ?_)) | ((with_reducible refine Ev.br_not ?_); conv => whnf) | (with_reducible first | refine Ev.br_dec (fun _ => ?_) (fun _ => ?_) | refine Ev.br (fun _ => ?_) (fun _ => ?_) | refine Ev.eo_ret ?_ | refine Ev.eo_norm ?_ | refine Ev.t_norm ?_ | refine Ev.k_seq ?_) | ((with_reducible refine Ev.k_reg (hs := []) (tabOK' _ _) (fun Q hQ => ?_)); (simp only [Ev.runE_cons, Ev.runE_nil]); conv => whnf) | (with_reducible refine hQ _ ?_; clear hQ Q) | (with_reducible first | refine Ev.k_cond rfl ?_ | refine Ev.k_skip ?_ | refine Ev.k_block ?_ | refine Ev.k_exit ?_ | refine Ev.k_ret ?_ | refine Ev.t_ret ?_ | refine Ev.t_exit ?_ | refine Ev.b_norm ?_ | refine Ev.b_ret ?_ | refine Ev.b_here ?_ | refine Ev.b_off rfl ?_) | ((with_reducible first | refine Ev.e_ret (fun F hF => ?_) | refine Ev.e_norm (fun F hF => ?_) | refine Ev.eh_ret (fun F hF => ?_) | refine Ev.eh_norm (fun F hF => ?_) | refine Ev.go_k (fun c' => ?_) | refine Ev.byt_cut ?_ | refine Ev.byt_all ?_ | refine Ev.run_cut ?_ | refine Ev.run_all ?_); conv => whnf) | (with_reducible refine hF _ ?_; clear hF F) | (with_reducible refine Ev.u_step ?_) | ((refine Ev.el_map0 ?_ (fun hi => ?_)); rotate_left; conv => whnf) | ((refine Ev.el_mapN ?_ (fun hi => ?_)); rotate_left; conv => whnf) | (refine Ev.Side.of ?_; exact Nat.le_of_ble_eq_true rfl) | (refine Ev.Side.of ?_; omega) | (refine Ev.Side.of ?_; simp only [Ev.wrap64]; omega) | (refine Ev.app_one ?_ rfl ?_ (by decide) <;> (first | omega | (simp; done) | (simp; omega))) | (refine Ev.app_nil1 rfl (by decide)) | (refine Ev.app_ys ?_ ?_ ?_ (by decide) <;> (first | omega | exact sps_all _ | exact bts_all _ | exact ints_all _ | exact spss_all _ | (simp; done) | (simp; omega))) | (refine Ev.app_nil ?_ ?_ (by decide) <;> (first | omega | exact sps_all _ | exact bts_all _ | exact ints_all _ | exact spss_all _ | (simp; done) | (simp; omega))) | (refine Ev.Side.of ?_; first | omega | (simp; done) | (simp; omega)))
          · (refine Ev.again (k - 1) _ ?hm6 ?hs6 ?hh6 ?hc6 ⟨i + 1, c + 8 + 8, (O ++ R.take l[i].n.toNat), R.drop l[i].n.toNat, .own 8224 (c + 8) 0 (O ++ R.take l[i].n.toNat).length, [(8224, ⟨1, 21, c + 8, 0, false, rnsV (nIs (O ++ R.take l[i].n.toNat))⟩)], rfl, ?hp6⟩; (case hs6 | hh6 => ((repeat' (first | exact trivial | refine And.intro ?_ ?_)) <;> (refine Ev.slot_eq rfl ?_; first | with_reducible rfl | (refine Ev.int_eq ?_; first | omega | (simp only [Ev.wrap64, Ev.wrap8, Ev.wrap32, Int.toNat_natCast] at *; omega)) | ((first | refine Ev.int_eq ?_ | refine Ev.own_eq ?_ | refine Ev.blk_eq ?_ | skip); first | with_reducible rfl | omega | (first | exact wrap_succ (by omega) | exact congrArg (AV.lst 1) hdr | exact hlr | (exact congrArg (fun n => Blk.mk 1 21 _ 0 false n) hrow) | rfl) | rfl) | (first | exact wrap_succ (by omega) | exact congrArg (AV.lst 1) hdr | exact hlr | (exact congrArg (fun n => Blk.mk 1 21 _ 0 false n) hrow) | rfl) | rfl))); (case hc6 => exact Nat.le_refl _); (case hm6 => omega))
            refine ⟨.inr (.inl ⟨_, rfl, rfl⟩), by omega, hstep, by rw [List.length_drop]; omega, ?_⟩
            simp only [List.length_append, List.length_nil, List.length_drop, List.length_take] at hsz ⊢; omega
          · rw [htk2]; exact Ev.app_ys (by rw [hol]) (rnsV_all _) (by rw [rnsV_len, nIs_len]; omega) (by decide)
        · have hi2 : (i : Int) < ((sps l).length : Int) := by omega
          have a2 : ¬ l[i].k = 2 := by omega
          have a1 : ¬ l[i].k = 1 := by omega
          have hn : l[i].n.toNat ≤ R.length := by omega
          have hP : pce l[i] R = [] := by unfold pce; rw [if_neg a2, if_neg a1]
          have hstep : appP l r0 = O ++ appP (l.drop (i + 1)) (R.drop l[i].n.toNat) := by rw [hap, hpa, hP]; rfl
          repeat' (first | (((with_reducible refine Ev.br_pos ?_ ?_); focus (decide)); conv => whnf) | (((with_reducible refine Ev.br_neg ?_ ?_); focus (decide)); conv => whnf) | (((with_reducible refine Ev.c_pos ?_ ?_); focus (decide))) | (((with_reducible refine Ev.c_neg ?_ ?_); focus (decide))) | (with_reducible refine Ev.c_pos hi2 ?_) | (with_reducible refine Ev.c_neg a2 ?_) | (with_reducible refine Ev.c_neg a1 ?_) | ((with_reducible first | refine Ev.sided ?_ ?_ | refine Ev.w_put ?_ | refine Ev.w_step ?_ | refine Ev.w_opt ?_); (conv => whnf)) | ((with_reducible refine Ev.chk_k ?_ ?_); rotate_left; (focus first | rfl | (simp only [Ev.nbeq, Bool.and_true, Bool.true_and, Bool.not_false]; done) | ((repeat' (first | exact Ev.nbeq _ | rfl | refine Bool.and_eq_true_iff.2 ⟨?_, ?_⟩)); done)); conv => whnf) | (with_reducible first | refine Ev.c_dec (fun _ => ?_) (fun _ => ?_) | refine Ev.c_not ?_ | refine Ev.c_t ?_ | refine Ev.c_f ?_ | refine Ev.c_br (fun _ => ?_) (fun _ => ?_)) | ((with_reducible refine Ev.br_not ?_); conv => whnf) | (with_reducible first | refine Ev.br_dec (fun _ => ?_) (fun _ => ?_) | refine Ev.br (fun _ => ?_) (fun _ => ?_) | refine Ev.eo_ret ?_ | refine Ev.eo_norm ?_ | refine Ev.t_norm ?_ | refine Ev.k_seq ?_) | ((with_reducible refine Ev.k_reg (hs := []) (tabOK' _ _) (fun Q hQ => ?_)); (simp only [Ev.runE_cons, Ev.runE_nil]); conv => whnf) | (with_reducible refine hQ _ ?_; clear hQ Q) | (with_reducible first | refine Ev.k_cond rfl ?_ | refine Ev.k_skip ?_ | refine Ev.k_block ?_ | refine Ev.k_exit ?_ | refine Ev.k_ret ?_ | refine Ev.t_ret ?_ | refine Ev.t_exit ?_ | refine Ev.b_norm ?_ | refine Ev.b_ret ?_ | refine Ev.b_here ?_ | refine Ev.b_off rfl ?_) | ((with_reducible first | refine Ev.e_ret (fun F hF => ?_) | refine Ev.e_norm (fun F hF => ?_) | refine Ev.eh_ret (fun F hF => ?_) | refine Ev.eh_norm (fun F hF => ?_) | refine Ev.go_k (fun c' => ?_) | refine Ev.byt_cut ?_ | refine Ev.byt_all ?_ | refine Ev.run_cut ?_ | refine Ev.run_all ?_); conv => whnf) | (with_reducible refine hF _ ?_; clear hF F) | (with_reducible refine Ev.u_step ?_) | ((refine Ev.el_map0 ?_ (fun hi => ?_)); rotate_left; conv => whnf) | ((refine Ev.el_mapN ?_ (fun hi => ?_)); rotate_left; conv => whnf) | (refine Ev.Side.of ?_; exact Nat.le_of_ble_eq_true rfl) | (refine Ev.Side.of ?_; omega) | (refine Ev.Side.of ?_; simp only [Ev.wrap64]; omega) | (refine Ev.app_one ?_ rfl ?_ (by decide) <;> (first | omega | (simp; done) | (simp; omega))) | (refine Ev.app_nil1 rfl (by decide)) | (refine Ev.app_ys ?_ ?_ ?_ (by decide) <;> (first | omega | exact sps_all _ | exact bts_all _ | exact ints_all _ | exact spss_all _ | (simp; done) | (simp; omega))) | (refine Ev.app_nil ?_ ?_ (by decide) <;> (first | omega | exact sps_all _ | exact bts_all _ | exact ints_all _ | exact spss_all _ | (simp; done) | (simp; omega))) | (refine Ev.Side.of ?_; first | omega | (simp; done) | (simp; omega)))
          · (refine Ev.again (k - 1) _ ?hm7 ?hs7 ?hh7 ?hc7 ⟨i + 1, c + 8, O, R.drop l[i].n.toNat, .own 8224 v 0 O.length, [(8224, ⟨1, 21, v, 0, false, rnsV (nIs O)⟩)], rfl, ?hp7⟩; (case hs7 | hh7 => ((repeat' (first | exact trivial | refine And.intro ?_ ?_)) <;> (refine Ev.slot_eq rfl ?_; first | with_reducible rfl | (refine Ev.int_eq ?_; first | omega | (simp only [Ev.wrap64, Ev.wrap8, Ev.wrap32, Int.toNat_natCast] at *; omega)) | ((first | refine Ev.int_eq ?_ | refine Ev.own_eq ?_ | refine Ev.blk_eq ?_ | skip); first | with_reducible rfl | omega | (first | exact wrap_succ (by omega) | exact congrArg (AV.lst 1) hdr | rfl) | rfl) | (first | exact wrap_succ (by omega) | exact congrArg (AV.lst 1) hdr | rfl) | rfl))); (case hc7 => exact Nat.le_refl _); (case hm7 => omega))
            refine ⟨.inr (.inl ⟨_, rfl, rfl⟩), by omega, hstep, by rw [List.length_drop]; omega, ?_⟩
            simp only [List.length_drop] at hsz ⊢; omega
      · rcases span_at hs with ⟨a, b, c', d⟩ | ⟨a | a, b, c', d⟩
        · have hi2 : (i : Int) < ((sps l).length : Int) := by omega
          have hn : l[i].n.toNat ≤ R.length := by omega
          have hP : pce l[i] R = pts l[i].t.data.toList := by unfold pce; rw [if_pos a]
          have hstep : appP l r0 = (O ++ pts l[i].t.data.toList) ++ appP (l.drop (i + 1)) (R.drop l[i].n.toNat) := by rw [hap, hpa, hP, List.append_assoc]
          have hrow : rnsV (nIs O) ++ runesAV l[i].t = rnsV (nIs (O ++ pts l[i].t.data.toList)) := by rw [hxa]; simp [rnsV, nIs]
          have hlr : O.length + (runesAV l[i].t).length = (O ++ pts l[i].t.data.toList).length := by rw [hxa, rnsV_len, nIs_len]; simp
          have hpl2 : (pts l[i].t.data.toList).length ≤ l[i].t.size := by exact hpx
          repeat' (first | (((with_reducible refine Ev.br_pos ?_ ?_); focus (decide)); conv => whnf) | (((with_reducible refine Ev.br_neg ?_ ?_); focus (decide)); conv => whnf) | (((with_reducible refine Ev.c_pos ?_ ?_); focus (decide))) | (((with_reducible refine Ev.c_neg ?_ ?_); focus (decide))) | (with_reducible refine Ev.c_pos hi2 ?_) | (with_reducible refine Ev.c_pos a ?_) | ((with_reducible first | refine Ev.sided ?_ ?_ | refine Ev.w_put ?_ | refine Ev.w_step ?_ | refine Ev.w_opt ?_); (conv => whnf)) | ((with_reducible refine Ev.chk_k ?_ ?_); rotate_left; (focus first | rfl | (simp only [Ev.nbeq, Bool.and_true, Bool.true_and, Bool.not_false]; done) | ((repeat' (first | exact Ev.nbeq _ | rfl | refine Bool.and_eq_true_iff.2 ⟨?_, ?_⟩)); done)); conv => whnf) | (with_reducible first | refine Ev.c_dec (fun _ => ?_) (fun _ => ?_) | refine Ev.c_not ?_ | refine Ev.c_t ?_ | refine Ev.c_f ?_ | refine Ev.c_br (fun _ => ?_) (fun _ => ?_)) | ((with_reducible refine Ev.br_not ?_); conv => whnf) | (with_reducible first | refine Ev.br_dec (fun _ => ?_) (fun _ => ?_) | refine Ev.br (fun _ => ?_) (fun _ => ?_) | refine Ev.eo_ret ?_ | refine Ev.eo_norm ?_ | refine Ev.t_norm ?_ | refine Ev.k_seq ?_) | ((with_reducible refine Ev.k_reg (hs := []) (tabOK' _ _) (fun Q hQ => ?_)); (simp only [Ev.runE_cons, Ev.runE_nil]); conv => whnf) | (with_reducible refine hQ _ ?_; clear hQ Q) | (with_reducible first | refine Ev.k_cond rfl ?_ | refine Ev.k_skip ?_ | refine Ev.k_block ?_ | refine Ev.k_exit ?_ | refine Ev.k_ret ?_ | refine Ev.t_ret ?_ | refine Ev.t_exit ?_ | refine Ev.b_norm ?_ | refine Ev.b_ret ?_ | refine Ev.b_here ?_ | refine Ev.b_off rfl ?_) | ((with_reducible first | refine Ev.e_ret (fun F hF => ?_) | refine Ev.e_norm (fun F hF => ?_) | refine Ev.eh_ret (fun F hF => ?_) | refine Ev.eh_norm (fun F hF => ?_) | refine Ev.go_k (fun c' => ?_) | refine Ev.byt_cut ?_ | refine Ev.byt_all ?_ | refine Ev.run_cut ?_ | refine Ev.run_all ?_); conv => whnf) | (with_reducible refine hF _ ?_; clear hF F) | (with_reducible refine Ev.u_step ?_) | ((refine Ev.el_map0 ?_ (fun hi => ?_)); rotate_left; conv => whnf) | ((refine Ev.el_mapN ?_ (fun hi => ?_)); rotate_left; conv => whnf) | (refine Ev.Side.of ?_; exact Nat.le_of_ble_eq_true rfl) | (refine Ev.Side.of ?_; omega) | (refine Ev.Side.of ?_; simp only [Ev.wrap64]; omega) | (refine Ev.app_one ?_ rfl ?_ (by decide) <;> (first | omega | (simp; done) | (simp; omega))) | (refine Ev.app_nil1 rfl (by decide)) | (refine Ev.app_ys ?_ ?_ ?_ (by decide) <;> (first | omega | exact sps_all _ | exact bts_all _ | exact ints_all _ | exact spss_all _ | (simp; done) | (simp; omega))) | (refine Ev.app_nil ?_ ?_ (by decide) <;> (first | omega | exact sps_all _ | exact bts_all _ | exact ints_all _ | exact spss_all _ | (simp; done) | (simp; omega))) | (refine Ev.Side.of ?_; first | omega | (simp; done) | (simp; omega)))
          · (refine Ev.again (k - 1) _ ?hm8 ?hs8 ?hh8 ?hc8 ⟨i + 1, c + 8 + 8, (O ++ pts l[i].t.data.toList), R.drop l[i].n.toNat, .own 9256 (c + 8) 0 (O ++ pts l[i].t.data.toList).length, [(9256, ⟨1, 21, c + 8, 0, false, rnsV (nIs (O ++ pts l[i].t.data.toList))⟩)], rfl, ?hp8⟩; (case hs8 | hh8 => ((repeat' (first | exact trivial | refine And.intro ?_ ?_)) <;> (refine Ev.slot_eq rfl ?_; first | with_reducible rfl | (refine Ev.int_eq ?_; first | omega | (simp only [Ev.wrap64, Ev.wrap8, Ev.wrap32, Int.toNat_natCast] at *; omega)) | ((first | refine Ev.int_eq ?_ | refine Ev.own_eq ?_ | refine Ev.blk_eq ?_ | skip); first | with_reducible rfl | omega | (first | exact wrap_succ (by omega) | exact congrArg (AV.lst 1) hdr | exact hlr | (exact congrArg (fun n => Blk.mk 1 21 _ 0 false n) hrow) | rfl) | rfl) | (first | exact wrap_succ (by omega) | exact congrArg (AV.lst 1) hdr | exact hlr | (exact congrArg (fun n => Blk.mk 1 21 _ 0 false n) hrow) | rfl) | rfl))); (case hc8 => exact Nat.le_refl _); (case hm8 => omega))
            refine ⟨.inr (.inr ⟨_, rfl, rfl⟩), by omega, hstep, by rw [List.length_drop]; omega, ?_⟩
            simp only [List.length_append, List.length_nil, List.length_drop, List.length_take] at hsz ⊢; omega
          · rw [hxa]; exact Ev.app_ys (by rw [hol]) (rnsV_all _) (by rw [rnsV_len, nIs_len]; omega) (by decide)
        · have hi2 : (i : Int) < ((sps l).length : Int) := by omega
          have a2 : ¬ l[i].k = 2 := by omega
          have hn : l[i].n.toNat ≤ R.length := by omega
          have hP : pce l[i] R = R.take l[i].n.toNat := by unfold pce; rw [if_neg a2, if_pos a]
          have hstep : appP l r0 = (O ++ R.take l[i].n.toNat) ++ appP (l.drop (i + 1)) (R.drop l[i].n.toNat) := by rw [hap, hpa, hP, List.append_assoc]
          have hrow : rnsV (nIs O) ++ List.take (l[i].n.toNat - 0) (List.drop 0 (rnsV (nIs R))) = rnsV (nIs (O ++ R.take l[i].n.toNat)) := by rw [htk2]; simp [rnsV, nIs]
          have hlr : O.length + (List.take (l[i].n.toNat - 0) (List.drop 0 (rnsV (nIs R)))).length = (O ++ R.take l[i].n.toNat).length := by rw [htk2, rnsV_len, nIs_len]; simp
          have hpl2 : (R.take l[i].n.toNat).length ≤ R.length := by rw [List.length_take]; omega
          repeat' (first | (((with_reducible refine Ev.br_pos ?_ ?_); focus (decide)); conv => whnf) | (((with_reducible refine Ev.br_neg ?_ ?_); focus (decide)); conv => whnf) | (((with_reducible refine Ev.c_pos ?_ ?_); focus (decide))) | (((with_reducible refine Ev.c_neg ?_ ?_); focus (decide))) | (with_reducible refine Ev.c_pos hi2 ?_) | (with_reducible refine Ev.c_neg a2 ?_) | (with_reducible refine Ev.c_pos a ?_) | ((with_reducible first | refine Ev.sided ?_ ?_ | refine Ev.w_put ?_ | refine Ev.w_step ?_ | refine Ev.w_opt ?_); (conv => whnf)) | ((with_reducible refine Ev.chk_k ?_ ?_); rotate_left; (focus first | rfl | (simp only [Ev.nbeq, Bool.and_true, Bool.true_and, Bool.not_false]; done) | ((repeat' (first | exact Ev.nbeq _ | rfl | refine Bool.and_eq_true_iff.2 ⟨?_, ?_⟩)); done)); conv => whnf) | (with_reducible first | refine Ev.c_dec (fun _ => ?_) (fun _ => ?_) | refine Ev.c_not ?_ | refine Ev.c_t ?_ | refine Ev.c_f ?_ | refine Ev.c_br (fun _ => ?_) (fun _ => ?_)) | ((with_reducible refine Ev.br_not ?_); conv => whnf) | (with_reducible first | refine Ev.br_dec (fun _ => ?_) (fun _ => ?_) | refine Ev.br (fun _ => ?_) (fun _ => ?_) | refine Ev.eo_ret ?_ | refine Ev.eo_norm ?_ | refine Ev.t_norm ?_ | refine Ev.k_seq ?_) | ((with_reducible refine Ev.k_reg (hs := []) (tabOK' _ _) (fun Q hQ => ?_)); (simp only [Ev.runE_cons, Ev.runE_nil]); conv => whnf) | (with_reducible refine hQ _ ?_; clear hQ Q) | (with_reducible first | refine Ev.k_cond rfl ?_ | refine Ev.k_skip ?_ | refine Ev.k_block ?_ | refine Ev.k_exit ?_ | refine Ev.k_ret ?_ | refine Ev.t_ret ?_ | refine Ev.t_exit ?_ | refine Ev.b_norm ?_ | refine Ev.b_ret ?_ | refine Ev.b_here ?_ | refine Ev.b_off rfl ?_) | ((with_reducible first | refine Ev.e_ret (fun F hF => ?_) | refine Ev.e_norm (fun F hF => ?_) | refine Ev.eh_ret (fun F hF => ?_) | refine Ev.eh_norm (fun F hF => ?_) | refine Ev.go_k (fun c' => ?_) | refine Ev.byt_cut ?_ | refine Ev.byt_all ?_ | refine Ev.run_cut ?_ | refine Ev.run_all ?_); conv => whnf) | (with_reducible refine hF _ ?_; clear hF F) | (with_reducible refine Ev.u_step ?_) | ((refine Ev.el_map0 ?_ (fun hi => ?_)); rotate_left; conv => whnf) | ((refine Ev.el_mapN ?_ (fun hi => ?_)); rotate_left; conv => whnf) | (refine Ev.Side.of ?_; exact Nat.le_of_ble_eq_true rfl) | (refine Ev.Side.of ?_; omega) | (refine Ev.Side.of ?_; simp only [Ev.wrap64]; omega) | (refine Ev.app_one ?_ rfl ?_ (by decide) <;> (first | omega | (simp; done) | (simp; omega))) | (refine Ev.app_nil1 rfl (by decide)) | (refine Ev.app_ys ?_ ?_ ?_ (by decide) <;> (first | omega | exact sps_all _ | exact bts_all _ | exact ints_all _ | exact spss_all _ | (simp; done) | (simp; omega))) | (refine Ev.app_nil ?_ ?_ (by decide) <;> (first | omega | exact sps_all _ | exact bts_all _ | exact ints_all _ | exact spss_all _ | (simp; done) | (simp; omega))) | (refine Ev.Side.of ?_; first | omega | (simp; done) | (simp; omega)))
          · (refine Ev.again (k - 1) _ ?hm9 ?hs9 ?hh9 ?hc9 ⟨i + 1, c + 8 + 8, (O ++ R.take l[i].n.toNat), R.drop l[i].n.toNat, .own 9256 (c + 8) 0 (O ++ R.take l[i].n.toNat).length, [(9256, ⟨1, 21, c + 8, 0, false, rnsV (nIs (O ++ R.take l[i].n.toNat))⟩)], rfl, ?hp9⟩; (case hs9 | hh9 => ((repeat' (first | exact trivial | refine And.intro ?_ ?_)) <;> (refine Ev.slot_eq rfl ?_; first | with_reducible rfl | (refine Ev.int_eq ?_; first | omega | (simp only [Ev.wrap64, Ev.wrap8, Ev.wrap32, Int.toNat_natCast] at *; omega)) | ((first | refine Ev.int_eq ?_ | refine Ev.own_eq ?_ | refine Ev.blk_eq ?_ | skip); first | with_reducible rfl | omega | (first | exact wrap_succ (by omega) | exact congrArg (AV.lst 1) hdr | exact hlr | (exact congrArg (fun n => Blk.mk 1 21 _ 0 false n) hrow) | rfl) | rfl) | (first | exact wrap_succ (by omega) | exact congrArg (AV.lst 1) hdr | exact hlr | (exact congrArg (fun n => Blk.mk 1 21 _ 0 false n) hrow) | rfl) | rfl))); (case hc9 => exact Nat.le_refl _); (case hm9 => omega))
            refine ⟨.inr (.inr ⟨_, rfl, rfl⟩), by omega, hstep, by rw [List.length_drop]; omega, ?_⟩
            simp only [List.length_append, List.length_nil, List.length_drop, List.length_take] at hsz ⊢; omega
          · rw [htk2]; exact Ev.app_ys (by rw [hol]) (rnsV_all _) (by rw [rnsV_len, nIs_len]; omega) (by decide)
        · have hi2 : (i : Int) < ((sps l).length : Int) := by omega
          have a2 : ¬ l[i].k = 2 := by omega
          have a1 : ¬ l[i].k = 1 := by omega
          have hn : l[i].n.toNat ≤ R.length := by omega
          have hP : pce l[i] R = [] := by unfold pce; rw [if_neg a2, if_neg a1]
          have hstep : appP l r0 = O ++ appP (l.drop (i + 1)) (R.drop l[i].n.toNat) := by rw [hap, hpa, hP]; rfl
          repeat' (first | (((with_reducible refine Ev.br_pos ?_ ?_); focus (decide)); conv => whnf) | (((with_reducible refine Ev.br_neg ?_ ?_); focus (decide)); conv => whnf) | (((with_reducible refine Ev.c_pos ?_ ?_); focus (decide))) | (((with_reducible refine Ev.c_neg ?_ ?_); focus (decide))) | (with_reducible refine Ev.c_pos hi2 ?_) | (with_reducible refine Ev.c_neg a2 ?_) | (with_reducible refine Ev.c_neg a1 ?_) | ((with_reducible first | refine Ev.sided ?_ ?_ | refine Ev.w_put ?_ | refine Ev.w_step ?_ | refine Ev.w_opt ?_); (conv => whnf)) | ((with_reducible refine Ev.chk_k ?_ ?_); rotate_left; (focus first | rfl | (simp only [Ev.nbeq, Bool.and_true, Bool.true_and, Bool.not_false]; done) | ((repeat' (first | exact Ev.nbeq _ | rfl | refine Bool.and_eq_true_iff.2 ⟨?_, ?_⟩)); done)); conv => whnf) | (with_reducible first | refine Ev.c_dec (fun _ => ?_) (fun _ => ?_) | refine Ev.c_not ?_ | refine Ev.c_t ?_ | refine Ev.c_f ?_ | refine Ev.c_br (fun _ => ?_) (fun _ => ?_)) | ((with_reducible refine Ev.br_not ?_); conv => whnf) | (with_reducible first | refine Ev.br_dec (fun _ => ?_) (fun _ => ?_) | refine Ev.br (fun _ => ?_) (fun _ => ?_) | refine Ev.eo_ret ?_ | refine Ev.eo_norm ?_ | refine Ev.t_norm ?_ | refine Ev.k_seq ?_) | ((with_reducible refine Ev.k_reg (hs := []) (tabOK' _ _) (fun Q hQ => ?_)); (simp only [Ev.runE_cons, Ev.runE_nil]); conv => whnf) | (with_reducible refine hQ _ ?_; clear hQ Q) | (with_reducible first | refine Ev.k_cond rfl ?_ | refine Ev.k_skip ?_ | refine Ev.k_block ?_ | refine Ev.k_exit ?_ | refine Ev.k_ret ?_ | refine Ev.t_ret ?_ | refine Ev.t_exit ?_ | refine Ev.b_norm ?_ | refine Ev.b_ret ?_ | refine Ev.b_here ?_ | refine Ev.b_off rfl ?_) | ((with_reducible first | refine Ev.e_ret (fun F hF => ?_) | refine Ev.e_norm (fun F hF => ?_) | refine Ev.eh_ret (fun F hF => ?_) | refine Ev.eh_norm (fun F hF => ?_) | refine Ev.go_k (fun c' => ?_) | refine Ev.byt_cut ?_ | refine Ev.byt_all ?_ | refine Ev.run_cut ?_ | refine Ev.run_all ?_); conv => whnf) | (with_reducible refine hF _ ?_; clear hF F) | (with_reducible refine Ev.u_step ?_) | ((refine Ev.el_map0 ?_ (fun hi => ?_)); rotate_left; conv => whnf) | ((refine Ev.el_mapN ?_ (fun hi => ?_)); rotate_left; conv => whnf) | (refine Ev.Side.of ?_; exact Nat.le_of_ble_eq_true rfl) | (refine Ev.Side.of ?_; omega) | (refine Ev.Side.of ?_; simp only [Ev.wrap64]; omega) | (refine Ev.app_one ?_ rfl ?_ (by decide) <;> (first | omega | (simp; done) | (simp; omega))) | (refine Ev.app_nil1 rfl (by decide)) | (refine Ev.app_ys ?_ ?_ ?_ (by decide) <;> (first | omega | exact sps_all _ | exact bts_all _ | exact ints_all _ | exact spss_all _ | (simp; done) | (simp; omega))) | (refine Ev.app_nil ?_ ?_ (by decide) <;> (first | omega | exact sps_all _ | exact bts_all _ | exact ints_all _ | exact spss_all _ | (simp; done) | (simp; omega))) | (refine Ev.Side.of ?_; first | omega | (simp; done) | (simp; omega)))
          · (refine Ev.again (k - 1) _ ?hm10 ?hs10 ?hh10 ?hc10 ⟨i + 1, c + 8, O, R.drop l[i].n.toNat, .own 9256 v 0 O.length, [(9256, ⟨1, 21, v, 0, false, rnsV (nIs O)⟩)], rfl, ?hp10⟩; (case hs10 | hh10 => ((repeat' (first | exact trivial | refine And.intro ?_ ?_)) <;> (refine Ev.slot_eq rfl ?_; first | with_reducible rfl | (refine Ev.int_eq ?_; first | omega | (simp only [Ev.wrap64, Ev.wrap8, Ev.wrap32, Int.toNat_natCast] at *; omega)) | ((first | refine Ev.int_eq ?_ | refine Ev.own_eq ?_ | refine Ev.blk_eq ?_ | skip); first | with_reducible rfl | omega | (first | exact wrap_succ (by omega) | exact congrArg (AV.lst 1) hdr | rfl) | rfl) | (first | exact wrap_succ (by omega) | exact congrArg (AV.lst 1) hdr | rfl) | rfl))); (case hc10 => exact Nat.le_refl _); (case hm10 => omega))
            refine ⟨.inr (.inr ⟨_, rfl, rfl⟩), by omega, hstep, by rw [List.length_drop]; omega, ?_⟩
            simp only [List.length_drop] at hsz ⊢; omega
    · have hi2 : ¬ (i : Int) < ((sps l).length : Int) := by omega
      have hdl : l.drop i = [] := List.drop_of_length_le (by omega)
      rw [hdl] at hap
      have hO : appP l r0 = O := by rw [hap]; simp [appP]
      rw [hO, ← txt_runes]
      rcases hst with ⟨rfl, rfl, rfl⟩ | ⟨v, rfl, rfl⟩ | ⟨v, rfl, rfl⟩
      all_goals (repeat' (first | (((with_reducible refine Ev.br_pos ?_ ?_); focus (decide)); conv => whnf) | (((with_reducible refine Ev.br_neg ?_ ?_); focus (decide)); conv => whnf) | (((with_reducible refine Ev.c_pos ?_ ?_); focus (decide))) | (((with_reducible refine Ev.c_neg ?_ ?_); focus (decide))) | (with_reducible refine Ev.c_neg hi2 ?_) | ((with_reducible first | refine Ev.sided ?_ ?_ | refine Ev.w_put ?_ | refine Ev.w_step ?_ | refine Ev.w_opt ?_); (conv => whnf)) | ((with_reducible refine Ev.chk_k ?_ ?_); rotate_left; (focus first | rfl | (simp only [Ev.nbeq, Bool.and_true, Bool.true_and, Bool.not_false]; done) | ((repeat' (first | exact Ev.nbeq _ | rfl | refine Bool.and_eq_true_iff.2 ⟨?_, ?_⟩)); done)); conv => whnf) | (with_reducible first | refine Ev.c_dec (fun _ => ?_) (fun _ => ?_) | refine Ev.c_not ?_ | refine Ev.c_t ?_ | refine Ev.c_f ?_ | refine Ev.c_br (fun _ => ?_) (fun _ => ?_)) | ((with_reducible refine Ev.br_not ?_); conv => whnf) | (with_reducible first | refine Ev.br_dec (fun _ => ?_) (fun _ => ?_) | refine Ev.br (fun _ => ?_) (fun _ => ?_) | refine Ev.eo_ret ?_ | refine Ev.eo_norm ?_ | refine Ev.t_norm ?_ | refine Ev.k_seq ?_) | ((with_reducible refine Ev.k_reg (hs := []) (tabOK' _ _) (fun Q hQ => ?_)); (simp only [Ev.runE_cons, Ev.runE_nil]); conv => whnf) | (with_reducible refine hQ _ ?_; clear hQ Q) | (with_reducible first | refine Ev.k_cond rfl ?_ | refine Ev.k_skip ?_ | refine Ev.k_block ?_ | refine Ev.k_exit ?_ | refine Ev.k_ret ?_ | refine Ev.t_ret ?_ | refine Ev.t_exit ?_ | refine Ev.b_norm ?_ | refine Ev.b_ret ?_ | refine Ev.b_here ?_ | refine Ev.b_off rfl ?_) | ((with_reducible first | refine Ev.e_ret (fun F hF => ?_) | refine Ev.e_norm (fun F hF => ?_) | refine Ev.eh_ret (fun F hF => ?_) | refine Ev.eh_norm (fun F hF => ?_) | refine Ev.go_k (fun c' => ?_) | refine Ev.byt_cut ?_ | refine Ev.byt_all ?_ | refine Ev.run_cut ?_ | refine Ev.run_all ?_); conv => whnf) | (with_reducible refine hF _ ?_; clear hF F) | (with_reducible refine Ev.u_step ?_) | ((refine Ev.run_k [] rfl ?_); conv => whnf) | ((refine Ev.el_map0 ?_ (fun hi => ?_)); rotate_left; conv => whnf) | ((refine Ev.el_mapN ?_ (fun hi => ?_)); rotate_left; conv => whnf) | (refine Ev.Side.of ?_; exact Nat.le_of_ble_eq_true rfl) | (refine Ev.Side.of ?_; omega) | (refine Ev.Side.of ?_; simp only [Ev.wrap64]; omega) | (refine Ev.app_one ?_ rfl ?_ (by decide) <;> (first | omega | (simp; done) | (simp; omega))) | (refine Ev.app_nil1 rfl (by decide)) | (refine Ev.app_ys ?_ ?_ ?_ (by decide) <;> (first | omega | exact sps_all _ | exact bts_all _ | exact ints_all _ | exact spss_all _ | (simp; done) | (simp; omega))) | (refine Ev.app_nil ?_ ?_ (by decide) <;> (first | omega | exact sps_all _ | exact bts_all _ | exact ints_all _ | exact spss_all _ | (simp; done) | (simp; omega))) | (refine Ev.Side.of ?_; first | omega | (simp; done) | (simp; omega))))
      · exact ⟨rfl, rfl⟩
      all_goals
        refine ⟨?_, rfl⟩
        have e : List.take O.length (List.drop 0 (nIs O)) = nIs O := by rw [List.drop_zero, List.take_of_length_le (by rw [nIs_len]; exact Nat.le_refl _)]
        show AV.tup [.v (.string (runesBytes (List.take O.length (List.drop 0 (nIs O))))), _] = _
        rw [e]
  · have : toE l t = 5 := by unfold toE; rw [if_neg (by simp; assumption), if_neg (by assumption), if_pos (by assumption)]
    exact ⟨(toA_bad this (by decide)).symm, rfl⟩
  · have h1 : opMayF l ≠ 0 := by assumption
    have : toE l t = opMayF l := by unfold toE; rw [if_pos h1]
    exact ⟨(toA_bad this h1).symm, rfl⟩
end Go.Proofs.YthdjbgbfboppcaaDoor.Abs

namespace Go.Proofs.YthdjbgbfboppcaaDoor.Abs
open Go
set_option maxRecDepth 100000
set_option linter.unusedSimpArgs false
set_option linter.unusedVariables false
attribute [local irreducible] Ev.Unr Ev.Go' Ev.bytK Ev.runK Ev.FinL Ev.brC Ev.Side Ev.Wp Ev.Again Ev.To Ev.Fin
open Go.Lib Go.RowKit
def cc28 : CC := (.seq (.reg 0 [⟨0, some 1, (.box 42 (.tmp 0)), none⟩, ⟨1, some 2, (.assign (.const (Value.int .i64 0))), none⟩]) (.seq (.reg 1 [⟨0, some 6, (.load 42 (.tmp 1)), none⟩, ⟨1, some 7, (.call { callee := .value (.func 67), args := #[.tmp 6], argTypes := #[42] }), none⟩, ⟨2, some 5, (.move (.tmp 7)), none⟩, ⟨3, some 8, (.extract (.tmp 5) 0), none⟩, ⟨4, some 9, (.extract (.tmp 5) 1), none⟩, ⟨5, some 3, (.assign (.tmp 8)), none⟩, ⟨6, some 4, (.assign (.tmp 9)), none⟩]) (.seq (.reg 2 [⟨0, some 10, (.move (.tmp 4)), none⟩, ⟨1, some 2, (.assign (.tmp 10)), none⟩]) .ret)))
theorem comp28 : ∀ c, Tryd.f28.body = some c → comp c = cc28 := by
  intro c h
  have : c = Tryd.f28.body.get rfl := by rw [← Option.some_inj, ← h]; rfl
  rw [this]; rfl
def cc32 : CC := (.seq (.reg 0 [⟨0, some 1, (.box 42 (.tmp 0)), none⟩, ⟨1, some 2, (.assign (.const (Value.slice none 0 0))), none⟩, ⟨2, some 3, (.assign (.const (Value.int .i64 0))), none⟩]) (.seq (.reg 1 [⟨0, some 4, (.load 42 (.tmp 1)), none⟩, ⟨1, some 5, (.call { callee := .value (.func 67), args := #[.tmp 4], argTypes := #[42] }), none⟩, ⟨2, some 6, (.extract (.tmp 5) 0), none⟩, ⟨3, some 7, (.extract (.tmp 5) 1), none⟩, ⟨4, some 2, (.assign (.tmp 6)), none⟩, ⟨5, some 3, (.assign (.tmp 7)), none⟩]) .ret))
theorem comp32 : ∀ c, Tryd.f32.body = some c → comp c = cc32 := by
  intro c h
  have : c = Tryd.f32.body.get rfl := by rw [← Option.some_inj, ← h]; rfl
  rw [this]; rfl
def cc29 : CC := (.seq (.reg 0 [⟨0, some 2, (.box 42 (.tmp 0)), none⟩, ⟨1, some 4, (.assign (.const (Value.string { data := #[] }))), none⟩, ⟨2, some 5, (.assign (.const (Value.int .i64 0))), none⟩]) (.seq (.seq (.reg 1 [⟨0, some 7, (.load 42 (.tmp 2)), none⟩, ⟨1, some 8, (.call { callee := .value (.func 28), args := #[.tmp 7], argTypes := #[42] }), none⟩, ⟨2, some 6, (.assign (.tmp 8)), none⟩]) (.seq (.reg 2 [⟨0, some 9, (.move (.tmp 6)), none⟩, ⟨1, some 10, (.binOp .neq 26 (.tmp 9) (.const (Value.int .i64 0)) 26), none⟩]) (.cond (.tmp 10) (.seq (.reg 3 [⟨0, some 11, (.move (.tmp 6)), none⟩, ⟨1, some 4, (.assign (.const (Value.string { data := #[] }))), none⟩, ⟨2, some 5, (.assign (.tmp 11)), none⟩]) .ret) .skip))) (.seq (.seq (.reg 4 [⟨0, some 12, (.move (.tmp 1)), none⟩, ⟨1, some 13, (.binOp .lss 3 (.tmp 12) (.const (Value.int .i64 0)) 3), none⟩, ⟨2, some 14, (.move (.tmp 13)), none⟩, ⟨3, some 15, (.move (.tmp 1)), (some (14, false))⟩, ⟨4, some 16, (.fieldAddr 42 (.tmp 2) 2), (some (14, false))⟩, ⟨5, some 17, (.load 38 (.tmp 16)), (some (14, false))⟩, ⟨6, some 18, (.call { callee := .builtin .len, args := #[.tmp 17], argTypes := #[38] }), (some (14, false))⟩, ⟨7, some 19, (.binOp .gtr 3 (.tmp 15) (.tmp 18) 3), (some (14, false))⟩, ⟨8, some 20, (.pick (.tmp 14) (.const (Value.bool true)) (.tmp 19)), none⟩]) (.cond (.tmp 20) (.seq (.reg 5 [⟨0, some 4, (.assign (.const (Value.string { data := #[] }))), none⟩, ⟨1, some 5, (.assign (.const (Value.int .i64 6))), none⟩]) .ret) .skip)) (.seq (.draw 6 [⟨0, some 21, (.fieldAddr 42 (.tmp 2) 0), none⟩, ⟨1, some 22, (.load 9 (.tmp 21)), none⟩, ⟨2, some 23, (.fieldAddr 42 (.tmp 2) 2), none⟩, ⟨3, some 24, (.load 38 (.tmp 23)), none⟩, ⟨4, some 25, (.move (.tmp 1)), none⟩, ⟨5, some 26, (.slice 38 (.tmp 24) none (some (.tmp 25)) none), none⟩, ⟨6, some 27, (.call { callee := .value (.func 68), args := #[.tmp 22, .tmp 26], argTypes := #[9, 38] }), none⟩, ⟨7, some 28, (.extract (.tmp 27) 0), none⟩, ⟨8, some 29, (.extract (.tmp 27) 1), none⟩, ⟨9, some 4, (.assign (.tmp 28)), none⟩, ⟨10, some 5, (.assign (.tmp 29)), none⟩] [[], [0], [], [2], [], [3, 4], [1, 5], [6], [6], [7, 6, 0, 1, 2, 3, 4, 5, 6, 7, 8], [8, 9, 0, 1, 2, 3, 4, 5, 6, 7, 8, 9]]) .ret))))
theorem comp29 : ∀ c, Tryd.f29.body = some c → comp c = cc29 := by
  intro c h
  have : c = Tryd.f29.body.get rfl := by rw [← Option.some_inj, ← h]; rfl
  rw [this]; rfl
def cc27 : CC := (.seq (.reg 0 [⟨0, some 4, (.alloc 42), none⟩]) (.seq (.reg 1 [⟨0, some 8, (.move (.tmp 0)), none⟩, ⟨1, some 9, (.move (.tmp 0)), none⟩, ⟨2, some 10, (.call { callee := .builtin .len, args := #[.tmp 9], argTypes := #[9] }), none⟩, ⟨3, some 11, (.call { callee := .builtin .min, args := #[.tmp 10, .const (Value.int .i64 20)], argTypes := #[3, 3] }), none⟩, ⟨4, some 12, (.slice 9 (.tmp 8) none (some (.tmp 11)) none), none⟩, ⟨5, some 13, (.call { callee := .value (.func 64), args := #[.tmp 12], argTypes := #[9] }), none⟩, ⟨6, some 14, (.buildSlice 40 1 #[(0, .const (Value.int .i64 0))]), none⟩, ⟨7, some 15, (.build 42 #[(0, .tmp 13), (1, .tmp 14)]), none⟩, ⟨8, some 5, (.alloc 42), none⟩, ⟨9, none, (.store 42 (.tmp 5) (.tmp 15)), none⟩]) (.seq (.reg 2 [⟨0, some 16, (.move (.tmp 1)), none⟩, ⟨1, some 17, (.fieldAddr 42 (.tmp 5) 0), none⟩, ⟨2, some 18, (.load 9 (.tmp 17)), none⟩, ⟨3, some 19, (.call { callee := .value (.func 65), args := #[.tmp 18], argTypes := #[9] }), none⟩, ⟨4, some 20, (.call { callee := .value (.func 45), args := #[.tmp 16, .tmp 19], argTypes := #[38, 3] }), none⟩, ⟨5, some 6, (.assign (.tmp 20)), none⟩]) (.seq (.seq (.reg 3 [⟨0, some 7, (.assign (.const (Value.int .i64 0))), none⟩]) (.block 0 (.loop (.seq (.seq (.reg 4 [⟨0, some 21, (.move (.tmp 7)), none⟩, ⟨1, some 22, (.move (.tmp 6)), none⟩, ⟨2, some 23, (.call { callee := .builtin .len, args := #[.tmp 22], argTypes := #[38] }), none⟩, ⟨3, some 24, (.binOp .lss 3 (.tmp 21) (.tmp 23) 3), none⟩]) (.cond (.tmp 24) .skip (.exit 0))) (.seq (.block 1 (.seq (.reg 6 [⟨0, some 27, (.fieldAddr 42 (.tmp 5) 1), none⟩, ⟨1, some 28, (.load 40 (.tmp 27)), none⟩, ⟨2, some 29, (.move (.tmp 7)), none⟩, ⟨3, some 30, (.binOp .add 3 (.tmp 29) (.const (Value.int .i64 1)) 3), none⟩, ⟨4, some 31, (.buildSlice 40 1 #[(0, .tmp 30)]), none⟩, ⟨5, some 32, (.call { callee := .builtin .append, args := #[.tmp 28, .tmp 31], argTypes := #[40, 40] }), none⟩, ⟨6, some 33, (.fieldAddr 42 (.tmp 5) 1), none⟩, ⟨7, none, (.store 40 (.tmp 33) (.tmp 32)), none⟩]) (.draw 7 [⟨0, some 34, (.fieldAddr 42 (.tmp 5) 2), none⟩, ⟨1, some 35, (.load 38 (.tmp 34)), none⟩, ⟨2, some 36, (.move (.tmp 6)), none⟩, ⟨3, some 37, (.move (.tmp 7)), none⟩, ⟨4, some 38, (.indexAddr 38 (.tmp 36) (.tmp 37)), none⟩, ⟨5, some 39, (.load 25 (.tmp 38)), none⟩, ⟨6, some 40, (.call { callee := .value (.func 66), args := #[.tmp 39], argTypes := #[25] }), none⟩, ⟨7, some 41, (.buildSlice 38 1 #[(0, .tmp 40)]), none⟩, ⟨8, some 42, (.call { callee := .builtin .append, args := #[.tmp 35, .tmp 41], argTypes := #[38, 38] }), none⟩, ⟨9, some 43, (.fieldAddr 42 (.tmp 5) 2), none⟩, ⟨10, none, (.store 38 (.tmp 43) (.tmp 42)), none⟩] [[], [0], [], [], [2, 3], [4], [5], [6], [1, 7, 6], [0, 1, 2, 3, 4, 5, 6, 7, 8], [9, 8, 8, 0, 1, 2, 3, 4, 5, 6, 7, 8]]))) (.reg 5 [⟨0, some 25, (.move (.tmp 7)), none⟩, ⟨1, some 26, (.binOp .add 3 (.tmp 25) (.const (Value.int .i64 1)) 3), none⟩, ⟨2, some 7, (.assign (.tmp 26)), none⟩])))))) (.seq (.reg 8 [⟨0, some 44, (.load 42 (.tmp 5)), none⟩, ⟨1, none, (.store 42 (.tmp 4) (.tmp 44)), none⟩]) .ret)))))
theorem comp27 : ∀ c, Tryd.f27.body = some c → comp c = cc27 := by
  intro c h
  have : c = Tryd.f27.body.get rfl := by rw [← Option.some_inj, ← h]; rfl
  rw [this]; rfl
def allG : List (List Sp) → ByteArray → Int × ByteArray
  | [], t => (0, t)
  | x :: l, t => if toE x t = 0 then allG l (toT x t) else (toE x t, ⟨#[]⟩)
def allR (t : ByteArray) (l : List (List Sp)) : Int × ByteArray := if l = [] ∧ validD t.data.toList = false then (3, ⟨#[]⟩) else allG l t
def allA (t : ByteArray) (l : List (List Sp)) : AV := .tup [.v (.string (allR t l).2), .v (.int .i64 (allR t l).1)]
def totb (l : List (List Sp)) : Nat := (l.map tbs).sum
theorem totb_cons (x : List Sp) (l : List (List Sp)) : totb (x :: l) = tbs x + totb l := by simp [totb]
theorem totb_mem {l : List (List Sp)} {x : List Sp} (h : x ∈ l) : tbs x ≤ totb l := by
  induction l with
  | nil => cases h
  | cons y l ih =>
    rw [totb_cons]
    rcases List.mem_cons.1 h with rfl | h'
    · omega
    · have := ih h'; omega
theorem totb_take (l : List (List Sp)) : ∀ i, totb (l.take i) ≤ totb l := fun i => by
  have : totb l = totb (l.take i) + totb (l.drop i) := by
    conv => lhs; rw [← List.take_append_drop i l]
    unfold totb; rw [List.map_append, List.sum_append]
  omega
theorem allR_nil {t : ByteArray} (h : validD t.data.toList = false) : allR t [] = (3, ⟨#[]⟩) := if_pos ⟨rfl, h⟩
theorem allR_ok {t : ByteArray} {l : List (List Sp)} (h : ¬ (l = [] ∧ validD t.data.toList = false)) : allR t l = allG l t := if_neg h
theorem to_size {l : List Sp} {t : ByteArray} (h : toE l t = 0) : (toT l t).size ≤ t.size + tbs l := by
  obtain ⟨h1, h2, h3⟩ := toE_zero h
  have hT : toT l t = txt (appP l (pts t.data.toList)) := if_pos h
  have hsz := appP_size l (pts t.data.toList) ((opMay_iff l).1 h1).1
  rw [(pts_scal _ h2).1, len_list] at hsz
  rw [hT, ← len_list, txt_list]; exact hsz
theorem all_call (t : ByteArray) (l : List (List Sp)) (hl : l.length ≤ 100000000) (hx : ∀ x ∈ l, x.length ≤ 100000000) (hb : t.size + totb l ≤ 1000000000) : CallW env 68 [.v (.string t), .lst 1 (rowsA l)] (fun r hs => r = allA t l ∧ hs = []) := by
  have hrl := rowsA_len l
  have hpv := pvalid_call t (by omega)
  refine Ev.func tabOK [0, 1, 4, 5, 7, 8, 9, 17, 18, 19, 20, 21, 31] 0 Tryd.func68 rfl rfl (by simp [Tryd.ntmps68]) (by rfl) (comp68 _ rfl) (rs := [.tmp 4, .tmp 5]) rfl ?_; rw [cc68]; show Ev.Wp _ _ _ _ ⟨[(0, _), (1, _)], [], 0⟩
  repeat' (first | ((with_reducible first | refine Ev.sided ?_ ?_ | refine Ev.w_put ?_ | refine Ev.w_step ?_ | refine Ev.w_opt ?_); (conv => whnf)) | ((with_reducible refine Ev.chk_k ?_ ?_); rotate_left; (focus first | rfl | (simp only [Ev.nbeq, Bool.and_true, Bool.true_and, Bool.not_false]; done) | ((repeat' (first | exact Ev.nbeq _ | rfl | refine Bool.and_eq_true_iff.2 ⟨?_, ?_⟩)); done)); conv => whnf) | (with_reducible first | refine Ev.c_dec (fun _ => ?_) (fun _ => ?_) | refine Ev.c_not ?_ | refine Ev.c_t ?_ | refine Ev.c_f ?_ | refine Ev.c_br (fun _ => ?_) (fun _ => ?_)) | ((with_reducible refine Ev.br_not ?_); conv => whnf) | (with_reducible first | refine Ev.br_dec (fun _ => ?_) (fun _ => ?_) | refine Ev.br (fun _ => ?_) (fun _ => ?_) | refine Ev.eo_ret ?_ | refine Ev.eo_norm ?_ | refine Ev.t_norm ?_ | refine Ev.k_seq ?_) | ((with_reducible refine Ev.k_reg (hs := []) (tabOK' _ _) (fun Q hQ => ?_)); (simp only [Ev.runE_cons, Ev.runE_nil]); conv => whnf) | (with_reducible refine hQ _ ?_; clear hQ Q) | (with_reducible first | refine Ev.k_cond rfl ?_ | refine Ev.k_skip ?_ | refine Ev.k_block ?_ | refine Ev.k_exit ?_ | refine Ev.k_ret ?_ | refine Ev.t_ret ?_ | refine Ev.t_exit ?_ | refine Ev.b_norm ?_ | refine Ev.b_ret ?_ | refine Ev.b_here ?_ | refine Ev.b_off rfl ?_) | ((with_reducible first | refine Ev.e_ret (fun F hF => ?_) | refine Ev.e_norm (fun F hF => ?_) | refine Ev.eh_ret (fun F hF => ?_) | refine Ev.eh_norm (fun F hF => ?_) | refine Ev.go_k (fun c' => ?_) | refine Ev.byt_cut ?_ | refine Ev.byt_all ?_ | refine Ev.run_cut ?_ | refine Ev.run_all ?_); conv => whnf) | (with_reducible refine hF _ ?_; clear hF F) | (with_reducible refine Ev.u_step ?_) | ((first | refine Ev.call_det (hpv) rfl rfl ?_); conv => whnf) | ((first | refine Ev.call_det (hpv) ?_ rfl ?_); (focus (repeat' (first | with_reducible rfl | refine Ev.cons_eq ?_ ?_)) <;> (first | rfl | (refine Ev.lst_eq (Ev.take_all ?_ rfl); first | omega | (simp; done) | (simp; omega)) | (refine Ev.int_eq ?_; omega) | (simp; done))); conv => whnf) | ((refine Ev.el_map0 ?_ (fun hi => ?_)); rotate_left; conv => whnf) | ((refine Ev.el_mapN ?_ (fun hi => ?_)); rotate_left; conv => whnf) | (refine Ev.Side.of ?_; exact Nat.le_of_ble_eq_true rfl) | (refine Ev.Side.of ?_; omega) | (refine Ev.Side.of ?_; simp only [Ev.wrap64]; omega) | (refine Ev.app_one ?_ rfl ?_ (by decide) <;> (first | omega | (simp; done) | (simp; omega))) | (refine Ev.app_nil1 rfl (by decide)) | (refine Ev.app_ys ?_ ?_ ?_ (by decide) <;> (first | omega | exact sps_all _ | exact bts_all _ | exact ints_all _ | exact spss_all _ | (simp; done) | (simp; omega))) | (refine Ev.app_nil ?_ ?_ (by decide) <;> (first | omega | exact sps_all _ | exact bts_all _ | exact ints_all _ | exact spss_all _ | (simp; done) | (simp; omega))) | (refine Ev.Side.of ?_; first | omega | (simp; done) | (simp; omega)))
  · have hne : ¬ (l = [] ∧ validD t.data.toList = false) := by
      rintro ⟨e1, e2⟩
      first
        | (rename_i hv; rw [e2] at hv; cases hv)
        | (subst e1; rename_i h0; exact h0 rfl)
    have hA : allA t l = .tup [.v (.string (allG l t).2), .v (.int .i64 (allG l t).1)] := by unfold allA; rw [allR_ok hne]
    rw [hA]
    refine Ev.loop (fun k s => ∃ (i c : Nat) (u : ByteArray), s = ⟨[(0, .v (.string u)), (4, .v (.string ⟨#[]⟩)), (5, .v (.int .i64 0)), (18, .lst 1 (rowsA l)), (19, .v (.int .i64 (rowsA l).length)), (20, .v (.int .i64 i))], [], c⟩ ∧ k + i = l.length ∧ allG l t = allG (l.drop i) u ∧ u.size + totb (l.drop i) ≤ 1000000000) ?_ ?_
    · (refine Ev.to _ ?hs1 ?hh1 ?hc1 ⟨l.length, 0, ?_, t, rfl, ?hp1⟩; (case hs1 | hh1 => ((repeat' (first | exact trivial | refine And.intro ?_ ?_)) <;> (refine Ev.slot_eq rfl ?_; first | with_reducible rfl | (refine Ev.int_eq ?_; first | omega | (simp only [Ev.wrap64, Ev.wrap8, Ev.wrap32, Int.toNat_natCast] at *; omega)) | ((first | refine Ev.int_eq ?_ | refine Ev.own_eq ?_ | refine Ev.blk_eq ?_ | skip); first | with_reducible rfl | omega | (first | rfl | (simp; done)) | rfl) | (first | rfl | (simp; done)) | rfl))); (case hc1 => exact Nat.le_refl _))
      exact ⟨by omega, rfl, by rw [List.drop_zero]; exact hb⟩
    rintro k s1 ⟨i, c, u, rfl, hk, hg, hu⟩
    by_cases hi : i < l.length
    · have hi2 : (i : Int) < ((rowsA l).length : Int) := by omega
      have hd : l.drop i = l[i] :: l.drop (i + 1) := List.drop_eq_getElem_cons hi
      rw [hd] at hg hu
      rw [totb_cons] at hu
      have hT := to_call l[i] u (hx _ (List.getElem_mem hi)) (by omega)
      by_cases h0 : toE l[i] u = 0
      · have hsz := to_size h0
        have e1 : toA l[i] u = .tup [.v (.string (toT l[i] u)), .v (.int .i64 0)] := by unfold toA; rw [h0]
        rw [e1] at hT
        repeat' (first | (((with_reducible refine Ev.br_pos ?_ ?_); focus (decide)); conv => whnf) | (((with_reducible refine Ev.br_neg ?_ ?_); focus (decide)); conv => whnf) | (((with_reducible refine Ev.c_pos ?_ ?_); focus (decide))) | (((with_reducible refine Ev.c_neg ?_ ?_); focus (decide))) | (with_reducible refine Ev.c_pos hi2 ?_) | ((with_reducible first | refine Ev.sided ?_ ?_ | refine Ev.w_put ?_ | refine Ev.w_step ?_ | refine Ev.w_opt ?_); (conv => whnf)) | ((with_reducible refine Ev.chk_k ?_ ?_); rotate_left; (focus first | rfl | (simp only [Ev.nbeq, Bool.and_true, Bool.true_and, Bool.not_false]; done) | ((repeat' (first | exact Ev.nbeq _ | rfl | refine Bool.and_eq_true_iff.2 ⟨?_, ?_⟩)); done)); conv => whnf) | (with_reducible first | refine Ev.c_dec (fun _ => ?_) (fun _ => ?_) | refine Ev.c_not ?_ | refine Ev.c_t ?_ | refine Ev.c_f ?_ | refine Ev.c_br (fun _ => ?_) (fun _ => ?_)) | ((with_reducible refine Ev.br_not ?_); conv => whnf) | (with_reducible first | refine Ev.br_dec (fun _ => ?_) (fun _ => ?_) | refine Ev.br (fun _ => ?_) (fun _ => ?_) | refine Ev.eo_ret ?_ | refine Ev.eo_norm ?_ | refine Ev.t_norm ?_ | refine Ev.k_seq ?_) | ((with_reducible refine Ev.k_reg (hs := []) (tabOK' _ _) (fun Q hQ => ?_)); (simp only [Ev.runE_cons, Ev.runE_nil]); conv => whnf) | (with_reducible refine hQ _ ?_; clear hQ Q) | (with_reducible first | refine Ev.k_cond rfl ?_ | refine Ev.k_skip ?_ | refine Ev.k_block ?_ | refine Ev.k_exit ?_ | refine Ev.k_ret ?_ | refine Ev.t_ret ?_ | refine Ev.t_exit ?_ | refine Ev.b_norm ?_ | refine Ev.b_ret ?_ | refine Ev.b_here ?_ | refine Ev.b_off rfl ?_) | ((with_reducible first | refine Ev.e_ret (fun F hF => ?_) | refine Ev.e_norm (fun F hF => ?_) | refine Ev.eh_ret (fun F hF => ?_) | refine Ev.eh_norm (fun F hF => ?_) | refine Ev.go_k (fun c' => ?_) | refine Ev.byt_cut ?_ | refine Ev.byt_all ?_ | refine Ev.run_cut ?_ | refine Ev.run_all ?_); conv => whnf) | (with_reducible refine hF _ ?_; clear hF F) | (with_reducible refine Ev.u_step ?_) | ((first | refine Ev.call_det (hT) rfl rfl ?_); conv => whnf) | ((first | refine Ev.call_det (hT) ?_ rfl ?_); (focus (repeat' (first | with_reducible rfl | refine Ev.cons_eq ?_ ?_)) <;> (first | rfl | (refine Ev.lst_eq (Ev.take_all ?_ rfl); first | omega | (simp; done) | (simp; omega)) | (refine Ev.int_eq ?_; omega) | (simp; done))); conv => whnf) | ((refine Ev.el_map0 ?_ (fun hi => ?_)); rotate_left; conv => whnf) | ((refine Ev.el_mapN ?_ (fun hi => ?_)); rotate_left; conv => whnf) | (refine Ev.Side.of ?_; exact Nat.le_of_ble_eq_true rfl) | (refine Ev.Side.of ?_; omega) | (refine Ev.Side.of ?_; simp only [Ev.wrap64]; omega) | (refine Ev.app_one ?_ rfl ?_ (by decide) <;> (first | omega | (simp; done) | (simp; omega))) | (refine Ev.app_nil1 rfl (by decide)) | (refine Ev.app_ys ?_ ?_ ?_ (by decide) <;> (first | omega | exact sps_all _ | exact bts_all _ | exact ints_all _ | exact spss_all _ | (simp; done) | (simp; omega))) | (refine Ev.app_nil ?_ ?_ (by decide) <;> (first | omega | exact sps_all _ | exact bts_all _ | exact ints_all _ | exact spss_all _ | (simp; done) | (simp; omega))) | (refine Ev.Side.of ?_; first | omega | (simp; done) | (simp; omega)))
        (refine Ev.again (k - 1) _ ?hm2 ?hs2 ?hh2 ?hc2 ⟨i + 1, ?_, toT l[i] u, rfl, ?hp2⟩; (case hs2 | hh2 => ((repeat' (first | exact trivial | refine And.intro ?_ ?_)) <;> (refine Ev.slot_eq rfl ?_; first | with_reducible rfl | (refine Ev.int_eq ?_; first | omega | (simp only [Ev.wrap64, Ev.wrap8, Ev.wrap32, Int.toNat_natCast] at *; omega)) | ((first | refine Ev.int_eq ?_ | refine Ev.own_eq ?_ | refine Ev.blk_eq ?_ | skip); first | with_reducible rfl | omega | (first | exact wrap_succ (by omega) | rfl) | rfl) | (first | exact wrap_succ (by omega) | rfl) | rfl))); (case hc2 => exact Nat.le_refl _); (case hm2 => omega))
        refine ⟨by omega, ?_, by omega⟩
        rw [hg]; simp only [allG]; rw [if_pos h0]
      · have e1 : toA l[i] u = .tup [.v (.string ⟨#[]⟩), .v (.int .i64 (toE l[i] u))] := toA_bad rfl h0
        rw [e1] at hT
        have e2 : allG l t = (toE l[i] u, ⟨#[]⟩) := by rw [hg]; simp only [allG]; rw [if_neg h0]
        rw [e2]
        repeat' (first | (((with_reducible refine Ev.br_pos ?_ ?_); focus (decide)); conv => whnf) | (((with_reducible refine Ev.br_neg ?_ ?_); focus (decide)); conv => whnf) | (((with_reducible refine Ev.c_pos ?_ ?_); focus (decide))) | (((with_reducible refine Ev.c_neg ?_ ?_); focus (decide))) | (with_reducible refine Ev.c_pos hi2 ?_) | (with_reducible refine Ev.c_neg h0 ?_) | (((with_reducible refine Ev.br_neg h0 ?_); conv => whnf)) | ((with_reducible first | refine Ev.sided ?_ ?_ | refine Ev.w_put ?_ | refine Ev.w_step ?_ | refine Ev.w_opt ?_); (conv => whnf)) | ((with_reducible refine Ev.chk_k ?_ ?_); rotate_left; (focus first | rfl | (simp only [Ev.nbeq, Bool.and_true, Bool.true_and, Bool.not_false]; done) | ((repeat' (first | exact Ev.nbeq _ | rfl | refine Bool.and_eq_true_iff.2 ⟨?_, ?_⟩)); done)); conv => whnf) | (with_reducible first | refine Ev.c_dec (fun _ => ?_) (fun _ => ?_) | refine Ev.c_not ?_ | refine Ev.c_t ?_ | refine Ev.c_f ?_ | refine Ev.c_br (fun _ => ?_) (fun _ => ?_)) | ((with_reducible refine Ev.br_not ?_); conv => whnf) | (with_reducible first | refine Ev.br_dec (fun _ => ?_) (fun _ => ?_) | refine Ev.br (fun _ => ?_) (fun _ => ?_) | refine Ev.eo_ret ?_ | refine Ev.eo_norm ?_ | refine Ev.t_norm ?_ | refine Ev.k_seq ?_) | ((with_reducible refine Ev.k_reg (hs := []) (tabOK' _ _) (fun Q hQ => ?_)); (simp only [Ev.runE_cons, Ev.runE_nil]); conv => whnf) | (with_reducible refine hQ _ ?_; clear hQ Q) | (with_reducible first | refine Ev.k_cond rfl ?_ | refine Ev.k_skip ?_ | refine Ev.k_block ?_ | refine Ev.k_exit ?_ | refine Ev.k_ret ?_ | refine Ev.t_ret ?_ | refine Ev.t_exit ?_ | refine Ev.b_norm ?_ | refine Ev.b_ret ?_ | refine Ev.b_here ?_ | refine Ev.b_off rfl ?_) | ((with_reducible first | refine Ev.e_ret (fun F hF => ?_) | refine Ev.e_norm (fun F hF => ?_) | refine Ev.eh_ret (fun F hF => ?_) | refine Ev.eh_norm (fun F hF => ?_) | refine Ev.go_k (fun c' => ?_) | refine Ev.byt_cut ?_ | refine Ev.byt_all ?_ | refine Ev.run_cut ?_ | refine Ev.run_all ?_); conv => whnf) | (with_reducible refine hF _ ?_; clear hF F) | (with_reducible refine Ev.u_step ?_) | ((first | refine Ev.call_det (hT) rfl rfl ?_); conv => whnf) | ((first | refine Ev.call_det (hT) ?_ rfl ?_); (focus (repeat' (first | with_reducible rfl | refine Ev.cons_eq ?_ ?_)) <;> (first | rfl | (refine Ev.lst_eq (Ev.take_all ?_ rfl); first | omega | (simp; done) | (simp; omega)) | (refine Ev.int_eq ?_; omega) | (simp; done))); conv => whnf) | ((refine Ev.el_map0 ?_ (fun hi => ?_)); rotate_left; conv => whnf) | ((refine Ev.el_mapN ?_ (fun hi => ?_)); rotate_left; conv => whnf) | (refine Ev.Side.of ?_; exact Nat.le_of_ble_eq_true rfl) | (refine Ev.Side.of ?_; omega) | (refine Ev.Side.of ?_; simp only [Ev.wrap64]; omega) | (refine Ev.app_one ?_ rfl ?_ (by decide) <;> (first | omega | (simp; done) | (simp; omega))) | (refine Ev.app_nil1 rfl (by decide)) | (refine Ev.app_ys ?_ ?_ ?_ (by decide) <;> (first | omega | exact sps_all _ | exact bts_all _ | exact ints_all _ | exact spss_all _ | (simp; done) | (simp; omega))) | (refine Ev.app_nil ?_ ?_ (by decide) <;> (first | omega | exact sps_all _ | exact bts_all _ | exact ints_all _ | exact spss_all _ | (simp; done) | (simp; omega))) | (refine Ev.Side.of ?_; first | omega | (simp; done) | (simp; omega)))
        exact ⟨rfl, rfl⟩
    · have hi2 : ¬ (i : Int) < ((rowsA l).length : Int) := by omega
      have hd : l.drop i = [] := List.drop_of_length_le (by omega)
      rw [hd] at hg
      have e2 : allG l t = (0, u) := hg
      rw [e2]
      repeat' (first | (((with_reducible refine Ev.br_pos ?_ ?_); focus (decide)); conv => whnf) | (((with_reducible refine Ev.br_neg ?_ ?_); focus (decide)); conv => whnf) | (((with_reducible refine Ev.c_pos ?_ ?_); focus (decide))) | (((with_reducible refine Ev.c_neg ?_ ?_); focus (decide))) | (with_reducible refine Ev.c_neg hi2 ?_) | ((with_reducible first | refine Ev.sided ?_ ?_ | refine Ev.w_put ?_ | refine Ev.w_step ?_ | refine Ev.w_opt ?_); (conv => whnf)) | ((with_reducible refine Ev.chk_k ?_ ?_); rotate_left; (focus first | rfl | (simp only [Ev.nbeq, Bool.and_true, Bool.true_and, Bool.not_false]; done) | ((repeat' (first | exact Ev.nbeq _ | rfl | refine Bool.and_eq_true_iff.2 ⟨?_, ?_⟩)); done)); conv => whnf) | (with_reducible first | refine Ev.c_dec (fun _ => ?_) (fun _ => ?_) | refine Ev.c_not ?_ | refine Ev.c_t ?_ | refine Ev.c_f ?_ | refine Ev.c_br (fun _ => ?_) (fun _ => ?_)) | ((with_reducible refine Ev.br_not ?_); conv => whnf) | (with_reducible first | refine Ev.br_dec (fun _ => ?_) (fun _ => ?_) | refine Ev.br (fun _ => ?_) (fun _ => ?_) | refine Ev.eo_ret ?_ | refine Ev.eo_norm ?_ | refine Ev.t_norm ?_ | refine Ev.k_seq ?_) | ((with_reducible refine Ev.k_reg (hs := []) (tabOK' _ _) (fun Q hQ => ?_)); (simp only [Ev.runE_cons, Ev.runE_nil]); conv => whnf) | (with_reducible refine hQ _ ?_; clear hQ Q) | (with_reducible first | refine Ev.k_cond rfl ?_ | refine Ev.k_skip ?_ | refine Ev.k_block ?_ | refine Ev.k_exit ?_ | refine Ev.k_ret ?_ | refine Ev.t_ret ?_ | refine Ev.t_exit ?_ | refine Ev.b_norm ?_ | refine Ev.b_ret ?_ | refine Ev.b_here ?_ | refine Ev.b_off rfl ?_) | ((with_reducible first | refine Ev.e_ret (fun F hF => ?_) | refine Ev.e_norm (fun F hF => ?_) | refine Ev.eh_ret (fun F hF => ?_) | refine Ev.eh_norm (fun F hF => ?_) | refine Ev.go_k (fun c' => ?_) | refine Ev.byt_cut ?_ | refine Ev.byt_all ?_ | refine Ev.run_cut ?_ | refine Ev.run_all ?_); conv => whnf) | (with_reducible refine hF _ ?_; clear hF F) | (with_reducible refine Ev.u_step ?_) | ((refine Ev.el_map0 ?_ (fun hi => ?_)); rotate_left; conv => whnf) | ((refine Ev.el_mapN ?_ (fun hi => ?_)); rotate_left; conv => whnf) | (refine Ev.Side.of ?_; exact Nat.le_of_ble_eq_true rfl) | (refine Ev.Side.of ?_; omega) | (refine Ev.Side.of ?_; simp only [Ev.wrap64]; omega) | (refine Ev.app_one ?_ rfl ?_ (by decide) <;> (first | omega | (simp; done) | (simp; omega))) | (refine Ev.app_nil1 rfl (by decide)) | (refine Ev.app_ys ?_ ?_ ?_ (by decide) <;> (first | omega | exact sps_all _ | exact bts_all _ | exact ints_all _ | exact spss_all _ | (simp; done) | (simp; omega))) | (refine Ev.app_nil ?_ ?_ (by decide) <;> (first | omega | exact sps_all _ | exact bts_all _ | exact ints_all _ | exact spss_all _ | (simp; done) | (simp; omega))) | (refine Ev.Side.of ?_; first | omega | (simp; done) | (simp; omega)))
      exact ⟨rfl, rfl⟩
  · rename_i h0 hv
    have : l = [] := List.eq_nil_of_length_eq_zero (by omega)
    subst this
    refine ⟨?_, rfl⟩
    unfold allA; rw [allR_nil hv]; rfl
  · have hne : ¬ (l = [] ∧ validD t.data.toList = false) := by
      rintro ⟨e1, e2⟩
      first
        | (rename_i hv; rw [e2] at hv; cases hv)
        | (subst e1; rename_i h0; exact h0 rfl)
    have hA : allA t l = .tup [.v (.string (allG l t).2), .v (.int .i64 (allG l t).1)] := by unfold allA; rw [allR_ok hne]
    rw [hA]
    refine Ev.loop (fun k s => ∃ (i c : Nat) (u : ByteArray), s = ⟨[(0, .v (.string u)), (4, .v (.string ⟨#[]⟩)), (5, .v (.int .i64 0)), (18, .lst 1 (rowsA l)), (19, .v (.int .i64 (rowsA l).length)), (20, .v (.int .i64 i))], [], c⟩ ∧ k + i = l.length ∧ allG l t = allG (l.drop i) u ∧ u.size + totb (l.drop i) ≤ 1000000000) ?_ ?_
    · (refine Ev.to _ ?hs3 ?hh3 ?hc3 ⟨l.length, 0, ?_, t, rfl, ?hp3⟩; (case hs3 | hh3 => ((repeat' (first | exact trivial | refine And.intro ?_ ?_)) <;> (refine Ev.slot_eq rfl ?_; first | with_reducible rfl | (refine Ev.int_eq ?_; first | omega | (simp only [Ev.wrap64, Ev.wrap8, Ev.wrap32, Int.toNat_natCast] at *; omega)) | ((first | refine Ev.int_eq ?_ | refine Ev.own_eq ?_ | refine Ev.blk_eq ?_ | skip); first | with_reducible rfl | omega | (first | rfl | (simp; done)) | rfl) | (first | rfl | (simp; done)) | rfl))); (case hc3 => exact Nat.le_refl _))
      exact ⟨by omega, rfl, by rw [List.drop_zero]; exact hb⟩
    rintro k s1 ⟨i, c, u, rfl, hk, hg, hu⟩
    by_cases hi : i < l.length
    · have hi2 : (i : Int) < ((rowsA l).length : Int) := by omega
      have hd : l.drop i = l[i] :: l.drop (i + 1) := List.drop_eq_getElem_cons hi
      rw [hd] at hg hu
      rw [totb_cons] at hu
      have hT := to_call l[i] u (hx _ (List.getElem_mem hi)) (by omega)
      by_cases h0 : toE l[i] u = 0
      · have hsz := to_size h0
        have e1 : toA l[i] u = .tup [.v (.string (toT l[i] u)), .v (.int .i64 0)] := by unfold toA; rw [h0]
        rw [e1] at hT
        repeat' (first | (((with_reducible refine Ev.br_pos ?_ ?_); focus (decide)); conv => whnf) | (((with_reducible refine Ev.br_neg ?_ ?_); focus (decide)); conv => whnf) | (((with_reducible refine Ev.c_pos ?_ ?_); focus (decide))) | (((with_reducible refine Ev.c_neg ?_ ?_); focus (decide))) | (with_reducible refine Ev.c_pos hi2 ?_) | ((with_reducible first | refine Ev.sided ?_ ?_ | refine Ev.w_put ?_ | refine Ev.w_step ?_ | refine Ev.w_opt ?_); (conv => whnf)) | ((with_reducible refine Ev.chk_k ?_ ?_); rotate_left; (focus first | rfl | (simp only [Ev.nbeq, Bool.and_true, Bool.true_and, Bool.not_false]; done) | ((repeat' (first | exact Ev.nbeq _ | rfl | refine Bool.and_eq_true_iff.2 ⟨?_, ?_⟩)); done)); conv => whnf) | (with_reducible first | refine Ev.c_dec (fun _ => ?_) (fun _ => ?_) | refine Ev.c_not ?_ | refine Ev.c_t ?_ | refine Ev.c_f ?_ | refine Ev.c_br (fun _ => ?_) (fun _ => ?_)) | ((with_reducible refine Ev.br_not ?_); conv => whnf) | (with_reducible first | refine Ev.br_dec (fun _ => ?_) (fun _ => ?_) | refine Ev.br (fun _ => ?_) (fun _ => ?_) | refine Ev.eo_ret ?_ | refine Ev.eo_norm ?_ | refine Ev.t_norm ?_ | refine Ev.k_seq ?_) | ((with_reducible refine Ev.k_reg (hs := []) (tabOK' _ _) (fun Q hQ => ?_)); (simp only [Ev.runE_cons, Ev.runE_nil]); conv => whnf) | (with_reducible refine hQ _ ?_; clear hQ Q) | (with_reducible first | refine Ev.k_cond rfl ?_ | refine Ev.k_skip ?_ | refine Ev.k_block ?_ | refine Ev.k_exit ?_ | refine Ev.k_ret ?_ | refine Ev.t_ret ?_ | refine Ev.t_exit ?_ | refine Ev.b_norm ?_ | refine Ev.b_ret ?_ | refine Ev.b_here ?_ | refine Ev.b_off rfl ?_) | ((with_reducible first | refine Ev.e_ret (fun F hF => ?_) | refine Ev.e_norm (fun F hF => ?_) | refine Ev.eh_ret (fun F hF => ?_) | refine Ev.eh_norm (fun F hF => ?_) | refine Ev.go_k (fun c' => ?_) | refine Ev.byt_cut ?_ | refine Ev.byt_all ?_ | refine Ev.run_cut ?_ | refine Ev.run_all ?_); conv => whnf) | (with_reducible refine hF _ ?_; clear hF F) | (with_reducible refine Ev.u_step ?_) | ((first | refine Ev.call_det (hT) rfl rfl ?_); conv => whnf) | ((first | refine Ev.call_det (hT) ?_ rfl ?_); (focus (repeat' (first | with_reducible rfl | refine Ev.cons_eq ?_ ?_)) <;> (first | rfl | (refine Ev.lst_eq (Ev.take_all ?_ rfl); first | omega | (simp; done) | (simp; omega)) | (refine Ev.int_eq ?_; omega) | (simp; done))); conv => whnf) | ((refine Ev.el_map0 ?_ (fun hi => ?_)); rotate_left; conv => whnf) | ((refine Ev.el_mapN ?_ (fun hi => ?_)); rotate_left; conv => whnf) | (refine Ev.Side.of ?_; exact Nat.le_of_ble_eq_true rfl) | (refine Ev.Side.of ?_; omega) | (refine Ev.Side.of ?_; simp only [Ev.wrap64]; omega) | (refine Ev.app_one ?_ rfl ?_ (by decide) <;> (first | omega | (simp; done) | (simp; omega))) | (refine Ev.app_nil1 rfl (by decide)) | (refine Ev.app_ys ?_ ?_ ?_ (by decide) <;> (first | omega | exact sps_all _ | exact bts_all _ | exact ints_all _ | exact spss_all _ | (simp; done) | (simp; omega))) | (refine Ev.app_nil ?_ ?_ (by decide) <;> (first | omega | exact sps_all _ | exact bts_all _ | exact ints_all _ | exact spss_all _ | (simp; done) | (simp; omega))) | (refine Ev.Side.of ?_; first | omega | (simp; done) | (simp; omega)))
        (refine Ev.again (k - 1) _ ?hm4 ?hs4 ?hh4 ?hc4 ⟨i + 1, ?_, toT l[i] u, rfl, ?hp4⟩; (case hs4 | hh4 => ((repeat' (first | exact trivial | refine And.intro ?_ ?_)) <;> (refine Ev.slot_eq rfl ?_; first | with_reducible rfl | (refine Ev.int_eq ?_; first | omega | (simp only [Ev.wrap64, Ev.wrap8, Ev.wrap32, Int.toNat_natCast] at *; omega)) | ((first | refine Ev.int_eq ?_ | refine Ev.own_eq ?_ | refine Ev.blk_eq ?_ | skip); first | with_reducible rfl | omega | (first | exact wrap_succ (by omega) | rfl) | rfl) | (first | exact wrap_succ (by omega) | rfl) | rfl))); (case hc4 => exact Nat.le_refl _); (case hm4 => omega))
        refine ⟨by omega, ?_, by omega⟩
        rw [hg]; simp only [allG]; rw [if_pos h0]
      · have e1 : toA l[i] u = .tup [.v (.string ⟨#[]⟩), .v (.int .i64 (toE l[i] u))] := toA_bad rfl h0
        rw [e1] at hT
        have e2 : allG l t = (toE l[i] u, ⟨#[]⟩) := by rw [hg]; simp only [allG]; rw [if_neg h0]
        rw [e2]
        repeat' (first | (((with_reducible refine Ev.br_pos ?_ ?_); focus (decide)); conv => whnf) | (((with_reducible refine Ev.br_neg ?_ ?_); focus (decide)); conv => whnf) | (((with_reducible refine Ev.c_pos ?_ ?_); focus (decide))) | (((with_reducible refine Ev.c_neg ?_ ?_); focus (decide))) | (with_reducible refine Ev.c_pos hi2 ?_) | (with_reducible refine Ev.c_neg h0 ?_) | (((with_reducible refine Ev.br_neg h0 ?_); conv => whnf)) | ((with_reducible first | refine Ev.sided ?_ ?_ | refine Ev.w_put ?_ | refine Ev.w_step ?_ | refine Ev.w_opt ?_); (conv => whnf)) | ((with_reducible refine Ev.chk_k ?_ ?_); rotate_left; (focus first | rfl | (simp only [Ev.nbeq, Bool.and_true, Bool.true_and, Bool.not_false]; done) | ((repeat' (first | exact Ev.nbeq _ | rfl | refine Bool.and_eq_true_iff.2 ⟨?_, ?_⟩)); done)); conv => whnf) | (with_reducible first | refine Ev.c_dec (fun _ => ?_) (fun _ => ?_) | refine Ev.c_not ?_ | refine Ev.c_t ?_ | refine Ev.c_f ?_ | refine Ev.c_br (fun _ => ?_) (fun _ => ?_)) | ((with_reducible refine Ev.br_not ?_); conv => whnf) | (with_reducible first | refine Ev.br_dec (fun _ => ?_) (fun _ => ?_) | refine Ev.br (fun _ => ?_) (fun _ => ?_) | refine Ev.eo_ret ?_ | refine Ev.eo_norm ?_ | refine Ev.t_norm ?_ | refine Ev.k_seq ?_) | ((with_reducible refine Ev.k_reg (hs := []) (tabOK' _ _) (fun Q hQ => ?_)); (simp only [Ev.runE_cons, Ev.runE_nil]); conv => whnf) | (with_reducible refine hQ _ ?_; clear hQ Q) | (with_reducible first | refine Ev.k_cond rfl ?_ | refine Ev.k_skip ?_ | refine Ev.k_block ?_ | refine Ev.k_exit ?_ | refine Ev.k_ret ?_ | refine Ev.t_ret ?_ | refine Ev.t_exit ?_ | refine Ev.b_norm ?_ | refine Ev.b_ret ?_ | refine Ev.b_here ?_ | refine Ev.b_off rfl ?_) | ((with_reducible first | refine Ev.e_ret (fun F hF => ?_) | refine Ev.e_norm (fun F hF => ?_) | refine Ev.eh_ret (fun F hF => ?_) | refine Ev.eh_norm (fun F hF => ?_) | refine Ev.go_k (fun c' => ?_) | refine Ev.byt_cut ?_ | refine Ev.byt_all ?_ | refine Ev.run_cut ?_ | refine Ev.run_all ?_); conv => whnf) | (with_reducible refine hF _ ?_; clear hF F) | (with_reducible refine Ev.u_step ?_) | ((first | refine Ev.call_det (hT) rfl rfl ?_); conv => whnf) | ((first | refine Ev.call_det (hT) ?_ rfl ?_); (focus (repeat' (first | with_reducible rfl | refine Ev.cons_eq ?_ ?_)) <;> (first | rfl | (refine Ev.lst_eq (Ev.take_all ?_ rfl); first | omega | (simp; done) | (simp; omega)) | (refine Ev.int_eq ?_; omega) | (simp; done))); conv => whnf) | ((refine Ev.el_map0 ?_ (fun hi => ?_)); rotate_left; conv => whnf) | ((refine Ev.el_mapN ?_ (fun hi => ?_)); rotate_left; conv => whnf) | (refine Ev.Side.of ?_; exact Nat.le_of_ble_eq_true rfl) | (refine Ev.Side.of ?_; omega) | (refine Ev.Side.of ?_; simp only [Ev.wrap64]; omega) | (refine Ev.app_one ?_ rfl ?_ (by decide) <;> (first | omega | (simp; done) | (simp; omega))) | (refine Ev.app_nil1 rfl (by decide)) | (refine Ev.app_ys ?_ ?_ ?_ (by decide) <;> (first | omega | exact sps_all _ | exact bts_all _ | exact ints_all _ | exact spss_all _ | (simp; done) | (simp; omega))) | (refine Ev.app_nil ?_ ?_ (by decide) <;> (first | omega | exact sps_all _ | exact bts_all _ | exact ints_all _ | exact spss_all _ | (simp; done) | (simp; omega))) | (refine Ev.Side.of ?_; first | omega | (simp; done) | (simp; omega)))
        exact ⟨rfl, rfl⟩
    · have hi2 : ¬ (i : Int) < ((rowsA l).length : Int) := by omega
      have hd : l.drop i = [] := List.drop_of_length_le (by omega)
      rw [hd] at hg
      have e2 : allG l t = (0, u) := hg
      rw [e2]
      repeat' (first | (((with_reducible refine Ev.br_pos ?_ ?_); focus (decide)); conv => whnf) | (((with_reducible refine Ev.br_neg ?_ ?_); focus (decide)); conv => whnf) | (((with_reducible refine Ev.c_pos ?_ ?_); focus (decide))) | (((with_reducible refine Ev.c_neg ?_ ?_); focus (decide))) | (with_reducible refine Ev.c_neg hi2 ?_) | ((with_reducible first | refine Ev.sided ?_ ?_ | refine Ev.w_put ?_ | refine Ev.w_step ?_ | refine Ev.w_opt ?_); (conv => whnf)) | ((with_reducible refine Ev.chk_k ?_ ?_); rotate_left; (focus first | rfl | (simp only [Ev.nbeq, Bool.and_true, Bool.true_and, Bool.not_false]; done) | ((repeat' (first | exact Ev.nbeq _ | rfl | refine Bool.and_eq_true_iff.2 ⟨?_, ?_⟩)); done)); conv => whnf) | (with_reducible first | refine Ev.c_dec (fun _ => ?_) (fun _ => ?_) | refine Ev.c_not ?_ | refine Ev.c_t ?_ | refine Ev.c_f ?_ | refine Ev.c_br (fun _ => ?_) (fun _ => ?_)) | ((with_reducible refine Ev.br_not ?_); conv => whnf) | (with_reducible first | refine Ev.br_dec (fun _ => ?_) (fun _ => ?_) | refine Ev.br (fun _ => ?_) (fun _ => ?_) | refine Ev.eo_ret ?_ | refine Ev.eo_norm ?_ | refine Ev.t_norm ?_ | refine Ev.k_seq ?_) | ((with_reducible refine Ev.k_reg (hs := []) (tabOK' _ _) (fun Q hQ => ?_)); (simp only [Ev.runE_cons, Ev.runE_nil]); conv => whnf) | (with_reducible refine hQ _ ?_; clear hQ Q) | (with_reducible first | refine Ev.k_cond rfl ?_ | refine Ev.k_skip ?_ | refine Ev.k_block ?_ | refine Ev.k_exit ?_ | refine Ev.k_ret ?_ | refine Ev.t_ret ?_ | refine Ev.t_exit ?_ | refine Ev.b_norm ?_ | refine Ev.b_ret ?_ | refine Ev.b_here ?_ | refine Ev.b_off rfl ?_) | ((with_reducible first | refine Ev.e_ret (fun F hF => ?_) | refine Ev.e_norm (fun F hF => ?_) | refine Ev.eh_ret (fun F hF => ?_) | refine Ev.eh_norm (fun F hF => ?_) | refine Ev.go_k (fun c' => ?_) | refine Ev.byt_cut ?_ | refine Ev.byt_all ?_ | refine Ev.run_cut ?_ | refine Ev.run_all ?_); conv => whnf) | (with_reducible refine hF _ ?_; clear hF F) | (with_reducible refine Ev.u_step ?_) | ((refine Ev.el_map0 ?_ (fun hi => ?_)); rotate_left; conv => whnf) | ((refine Ev.el_mapN ?_ (fun hi => ?_)); rotate_left; conv => whnf) | (refine Ev.Side.of ?_; exact Nat.le_of_ble_eq_true rfl) | (refine Ev.Side.of ?_; omega) | (refine Ev.Side.of ?_; simp only [Ev.wrap64]; omega) | (refine Ev.app_one ?_ rfl ?_ (by decide) <;> (first | omega | (simp; done) | (simp; omega))) | (refine Ev.app_nil1 rfl (by decide)) | (refine Ev.app_ys ?_ ?_ ?_ (by decide) <;> (first | omega | exact sps_all _ | exact bts_all _ | exact ints_all _ | exact spss_all _ | (simp; done) | (simp; omega))) | (refine Ev.app_nil ?_ ?_ (by decide) <;> (first | omega | exact sps_all _ | exact bts_all _ | exact ints_all _ | exact spss_all _ | (simp; done) | (simp; omega))) | (refine Ev.Side.of ?_; first | omega | (simp; done) | (simp; omega)))
      exact ⟨rfl, rfl⟩
theorem cmay_call (c : Lg) (hc : LgS c) : CallW env 28 [lgA c] (fun r hs => r = .v (.int .i64 (chE c)) ∧ hs = []) := by
  have h := sizes_call c hc
  unfold szA at h
  by_cases h0 : chE c = 0
  · rw [if_pos h0] at h
    refine Ev.func tabOK [0, 1, 2, 4] 0 Tryd.func28 rfl rfl (by simp [Tryd.ntmps28]) (by rfl) (comp28 _ rfl) (rs := [.tmp 2]) rfl ?_; rw [cc28]; show Ev.Wp _ _ _ _ ⟨[(0, _)], [], 0⟩
    repeat' (first | ((with_reducible first | refine Ev.sided ?_ ?_ | refine Ev.w_put ?_ | refine Ev.w_step ?_ | refine Ev.w_opt ?_); (conv => whnf)) | ((with_reducible refine Ev.chk_k ?_ ?_); rotate_left; (focus first | rfl | (simp only [Ev.nbeq, Bool.and_true, Bool.true_and, Bool.not_false]; done) | ((repeat' (first | exact Ev.nbeq _ | rfl | refine Bool.and_eq_true_iff.2 ⟨?_, ?_⟩)); done)); conv => whnf) | (with_reducible first | refine Ev.c_dec (fun _ => ?_) (fun _ => ?_) | refine Ev.c_not ?_ | refine Ev.c_t ?_ | refine Ev.c_f ?_ | refine Ev.c_br (fun _ => ?_) (fun _ => ?_)) | ((with_reducible refine Ev.br_not ?_); conv => whnf) | (with_reducible first | refine Ev.br_dec (fun _ => ?_) (fun _ => ?_) | refine Ev.br (fun _ => ?_) (fun _ => ?_) | refine Ev.eo_ret ?_ | refine Ev.eo_norm ?_ | refine Ev.t_norm ?_ | refine Ev.k_seq ?_) | ((with_reducible refine Ev.k_reg (hs := []) (tabOK' _ _) (fun Q hQ => ?_)); (simp only [Ev.runE_cons, Ev.runE_nil]); conv => whnf) | (with_reducible refine hQ _ ?_; clear hQ Q) | (with_reducible first | refine Ev.k_cond rfl ?_ | refine Ev.k_skip ?_ | refine Ev.k_block ?_ | refine Ev.k_exit ?_ | refine Ev.k_ret ?_ | refine Ev.t_ret ?_ | refine Ev.t_exit ?_ | refine Ev.b_norm ?_ | refine Ev.b_ret ?_ | refine Ev.b_here ?_ | refine Ev.b_off rfl ?_) | ((with_reducible first | refine Ev.e_ret (fun F hF => ?_) | refine Ev.e_norm (fun F hF => ?_) | refine Ev.eh_ret (fun F hF => ?_) | refine Ev.eh_norm (fun F hF => ?_) | refine Ev.go_k (fun c' => ?_) | refine Ev.byt_cut ?_ | refine Ev.byt_all ?_ | refine Ev.run_cut ?_ | refine Ev.run_all ?_); conv => whnf) | (with_reducible refine hF _ ?_; clear hF F) | (with_reducible refine Ev.u_step ?_) | ((first | refine Ev.call_det (h) rfl rfl ?_); conv => whnf) | ((first | refine Ev.call_det (h) ?_ rfl ?_); (focus (repeat' (first | with_reducible rfl | refine Ev.cons_eq ?_ ?_)) <;> (first | rfl | (refine Ev.lst_eq (Ev.take_all ?_ rfl); first | omega | (simp; done) | (simp; omega)) | (refine Ev.int_eq ?_; omega) | (simp; done))); conv => whnf) | ((refine Ev.el_map0 ?_ (fun hi => ?_)); rotate_left; conv => whnf) | ((refine Ev.el_mapN ?_ (fun hi => ?_)); rotate_left; conv => whnf) | (refine Ev.Side.of ?_; exact Nat.le_of_ble_eq_true rfl) | (refine Ev.Side.of ?_; omega) | (refine Ev.Side.of ?_; simp only [Ev.wrap64]; omega) | (refine Ev.app_one ?_ rfl ?_ (by decide) <;> (first | omega | (simp; done) | (simp; omega))) | (refine Ev.app_nil1 rfl (by decide)) | (refine Ev.app_ys ?_ ?_ ?_ (by decide) <;> (first | omega | exact sps_all _ | exact bts_all _ | exact ints_all _ | exact spss_all _ | (simp; done) | (simp; omega))) | (refine Ev.app_nil ?_ ?_ (by decide) <;> (first | omega | exact sps_all _ | exact bts_all _ | exact ints_all _ | exact spss_all _ | (simp; done) | (simp; omega))) | (refine Ev.Side.of ?_; first | omega | (simp; done) | (simp; omega)))
    exact ⟨by rw [h0]; rfl, rfl⟩
  · rw [if_neg h0] at h
    refine Ev.func tabOK [0, 1, 2, 4] 0 Tryd.func28 rfl rfl (by simp [Tryd.ntmps28]) (by rfl) (comp28 _ rfl) (rs := [.tmp 2]) rfl ?_; rw [cc28]; show Ev.Wp _ _ _ _ ⟨[(0, _)], [], 0⟩
    repeat' (first | ((with_reducible first | refine Ev.sided ?_ ?_ | refine Ev.w_put ?_ | refine Ev.w_step ?_ | refine Ev.w_opt ?_); (conv => whnf)) | ((with_reducible refine Ev.chk_k ?_ ?_); rotate_left; (focus first | rfl | (simp only [Ev.nbeq, Bool.and_true, Bool.true_and, Bool.not_false]; done) | ((repeat' (first | exact Ev.nbeq _ | rfl | refine Bool.and_eq_true_iff.2 ⟨?_, ?_⟩)); done)); conv => whnf) | (with_reducible first | refine Ev.c_dec (fun _ => ?_) (fun _ => ?_) | refine Ev.c_not ?_ | refine Ev.c_t ?_ | refine Ev.c_f ?_ | refine Ev.c_br (fun _ => ?_) (fun _ => ?_)) | ((with_reducible refine Ev.br_not ?_); conv => whnf) | (with_reducible first | refine Ev.br_dec (fun _ => ?_) (fun _ => ?_) | refine Ev.br (fun _ => ?_) (fun _ => ?_) | refine Ev.eo_ret ?_ | refine Ev.eo_norm ?_ | refine Ev.t_norm ?_ | refine Ev.k_seq ?_) | ((with_reducible refine Ev.k_reg (hs := []) (tabOK' _ _) (fun Q hQ => ?_)); (simp only [Ev.runE_cons, Ev.runE_nil]); conv => whnf) | (with_reducible refine hQ _ ?_; clear hQ Q) | (with_reducible first | refine Ev.k_cond rfl ?_ | refine Ev.k_skip ?_ | refine Ev.k_block ?_ | refine Ev.k_exit ?_ | refine Ev.k_ret ?_ | refine Ev.t_ret ?_ | refine Ev.t_exit ?_ | refine Ev.b_norm ?_ | refine Ev.b_ret ?_ | refine Ev.b_here ?_ | refine Ev.b_off rfl ?_) | ((with_reducible first | refine Ev.e_ret (fun F hF => ?_) | refine Ev.e_norm (fun F hF => ?_) | refine Ev.eh_ret (fun F hF => ?_) | refine Ev.eh_norm (fun F hF => ?_) | refine Ev.go_k (fun c' => ?_) | refine Ev.byt_cut ?_ | refine Ev.byt_all ?_ | refine Ev.run_cut ?_ | refine Ev.run_all ?_); conv => whnf) | (with_reducible refine hF _ ?_; clear hF F) | (with_reducible refine Ev.u_step ?_) | ((first | refine Ev.call_det (h) rfl rfl ?_); conv => whnf) | ((first | refine Ev.call_det (h) ?_ rfl ?_); (focus (repeat' (first | with_reducible rfl | refine Ev.cons_eq ?_ ?_)) <;> (first | rfl | (refine Ev.lst_eq (Ev.take_all ?_ rfl); first | omega | (simp; done) | (simp; omega)) | (refine Ev.int_eq ?_; omega) | (simp; done))); conv => whnf) | ((refine Ev.el_map0 ?_ (fun hi => ?_)); rotate_left; conv => whnf) | ((refine Ev.el_mapN ?_ (fun hi => ?_)); rotate_left; conv => whnf) | (refine Ev.Side.of ?_; exact Nat.le_of_ble_eq_true rfl) | (refine Ev.Side.of ?_; omega) | (refine Ev.Side.of ?_; simp only [Ev.wrap64]; omega) | (refine Ev.app_one ?_ rfl ?_ (by decide) <;> (first | omega | (simp; done) | (simp; omega))) | (refine Ev.app_nil1 rfl (by decide)) | (refine Ev.app_ys ?_ ?_ ?_ (by decide) <;> (first | omega | exact sps_all _ | exact bts_all _ | exact ints_all _ | exact spss_all _ | (simp; done) | (simp; omega))) | (refine Ev.app_nil ?_ ?_ (by decide) <;> (first | omega | exact sps_all _ | exact bts_all _ | exact ints_all _ | exact spss_all _ | (simp; done) | (simp; omega))) | (refine Ev.Side.of ?_; first | omega | (simp; done) | (simp; omega)))
    exact ⟨rfl, rfl⟩
def szL' (c : Lg) : List Int := if chE c = 0 then szL (countD c.base.data.toList) c.segs else []
theorem csizes_call (c : Lg) (hc : LgS c) : CallW env 32 [lgA c] (fun r hs => r = .tup [.lst 1 (ints (szL' c)), .v (.int .i64 (chE c))] ∧ hs = []) := by
  have h := (sizes_call c hc).res_eq (Y := .tup [.lst 1 (ints (szL' c)), .v (.int .i64 (chE c))]) (by
    unfold szA szL'
    by_cases h0 : chE c = 0
    · rw [if_pos h0, if_pos h0, h0]; exact LeR.refl _
    · rw [if_neg h0, if_neg h0]; exact LeR.tup2 (LeR.nil 1) (LeR.refl _))
  refine Ev.func tabOK [0, 1, 2, 3] 0 Tryd.func32 rfl rfl (by simp [Tryd.ntmps32]) (by rfl) (comp32 _ rfl) (rs := [.tmp 2, .tmp 3]) rfl ?_; rw [cc32]; show Ev.Wp _ _ _ _ ⟨[(0, _)], [], 0⟩
  repeat' (first | ((with_reducible first | refine Ev.sided ?_ ?_ | refine Ev.w_put ?_ | refine Ev.w_step ?_ | refine Ev.w_opt ?_); (conv => whnf)) | ((with_reducible refine Ev.chk_k ?_ ?_); rotate_left; (focus first | rfl | (simp only [Ev.nbeq, Bool.and_true, Bool.true_and, Bool.not_false]; done) | ((repeat' (first | exact Ev.nbeq _ | rfl | refine Bool.and_eq_true_iff.2 ⟨?_, ?_⟩)); done)); conv => whnf) | (with_reducible first | refine Ev.c_dec (fun _ => ?_) (fun _ => ?_) | refine Ev.c_not ?_ | refine Ev.c_t ?_ | refine Ev.c_f ?_ | refine Ev.c_br (fun _ => ?_) (fun _ => ?_)) | ((with_reducible refine Ev.br_not ?_); conv => whnf) | (with_reducible first | refine Ev.br_dec (fun _ => ?_) (fun _ => ?_) | refine Ev.br (fun _ => ?_) (fun _ => ?_) | refine Ev.eo_ret ?_ | refine Ev.eo_norm ?_ | refine Ev.t_norm ?_ | refine Ev.k_seq ?_) | ((with_reducible refine Ev.k_reg (hs := []) (tabOK' _ _) (fun Q hQ => ?_)); (simp only [Ev.runE_cons, Ev.runE_nil]); conv => whnf) | (with_reducible refine hQ _ ?_; clear hQ Q) | (with_reducible first | refine Ev.k_cond rfl ?_ | refine Ev.k_skip ?_ | refine Ev.k_block ?_ | refine Ev.k_exit ?_ | refine Ev.k_ret ?_ | refine Ev.t_ret ?_ | refine Ev.t_exit ?_ | refine Ev.b_norm ?_ | refine Ev.b_ret ?_ | refine Ev.b_here ?_ | refine Ev.b_off rfl ?_) | ((with_reducible first | refine Ev.e_ret (fun F hF => ?_) | refine Ev.e_norm (fun F hF => ?_) | refine Ev.eh_ret (fun F hF => ?_) | refine Ev.eh_norm (fun F hF => ?_) | refine Ev.go_k (fun c' => ?_) | refine Ev.byt_cut ?_ | refine Ev.byt_all ?_ | refine Ev.run_cut ?_ | refine Ev.run_all ?_); conv => whnf) | (with_reducible refine hF _ ?_; clear hF F) | (with_reducible refine Ev.u_step ?_) | ((first | refine Ev.call_det (h) rfl rfl ?_); conv => whnf) | ((first | refine Ev.call_det (h) ?_ rfl ?_); (focus (repeat' (first | with_reducible rfl | refine Ev.cons_eq ?_ ?_)) <;> (first | rfl | (refine Ev.lst_eq (Ev.take_all ?_ rfl); first | omega | (simp; done) | (simp; omega)) | (refine Ev.int_eq ?_; omega) | (simp; done))); conv => whnf) | ((refine Ev.el_map0 ?_ (fun hi => ?_)); rotate_left; conv => whnf) | ((refine Ev.el_mapN ?_ (fun hi => ?_)); rotate_left; conv => whnf) | (refine Ev.Side.of ?_; exact Nat.le_of_ble_eq_true rfl) | (refine Ev.Side.of ?_; omega) | (refine Ev.Side.of ?_; simp only [Ev.wrap64]; omega) | (refine Ev.app_one ?_ rfl ?_ (by decide) <;> (first | omega | (simp; done) | (simp; omega))) | (refine Ev.app_nil1 rfl (by decide)) | (refine Ev.app_ys ?_ ?_ ?_ (by decide) <;> (first | omega | exact sps_all _ | exact bts_all _ | exact ints_all _ | exact spss_all _ | (simp; done) | (simp; omega))) | (refine Ev.app_nil ?_ ?_ (by decide) <;> (first | omega | exact sps_all _ | exact bts_all _ | exact ints_all _ | exact spss_all _ | (simp; done) | (simp; omega))) | (refine Ev.Side.of ?_; first | omega | (simp; done) | (simp; omega)))
  exact ⟨rfl, rfl⟩
def atR (c : Lg) (i : Int) : Int × ByteArray := if chE c ≠ 0 then (chE c, ⟨#[]⟩) else if i < 0 ∨ (c.segs.length : Int) < i then (6, ⟨#[]⟩) else allR c.base (c.segs.take i.toNat)
def atA (c : Lg) (i : Int) : AV := .tup [.v (.string (atR c i).2), .v (.int .i64 (atR c i).1)]
theorem atA_bad {c : Lg} {i e : Int} (h : atR c i = (e, ⟨#[]⟩)) : atA c i = .tup [.v (.string ⟨#[]⟩), .v (.int .i64 e)] := by unfold atA; rw [h]
theorem at_call (c : Lg) (i : Int) (hc : LgS c) (hb : c.base.size + totb c.segs ≤ 1000000000) : CallW env 29 [lgA c, .v (.int .i64 i)] (fun r hs => r = atA c i ∧ hs = []) := by
  have hm := cmay_call c hc
  obtain ⟨h1, h2, h3, h4⟩ := hc
  have hrl := rowsA_len c.segs
  refine Ev.func tabOK [0, 1, 2, 4, 5, 6, 10, 20] 0 Tryd.func29 rfl rfl (by simp [Tryd.ntmps29]) (by rfl) (comp29 _ rfl) (rs := [.tmp 4, .tmp 5]) rfl ?_; rw [cc29]; show Ev.Wp _ _ _ _ ⟨[(0, _), (1, _)], [], 0⟩
  have hA : ∀ hi : ¬ i < 0 ∧ ¬ (c.segs.length : Int) < i, CallW env 68 [.v (.string c.base), .lst 1 (List.take (i.toNat - 0) (List.drop 0 (rowsA c.segs)))] (fun r hs => r = allA c.base (c.segs.take i.toNat) ∧ hs = []) := fun hi => by
    have e : List.take (i.toNat - 0) (List.drop 0 (rowsA c.segs)) = rowsA (c.segs.take i.toNat) := by simp [rowsA, List.map_take]
    rw [e]
    have := totb_take c.segs i.toNat
    exact all_call _ _ (by rw [List.length_take]; omega) (fun x hx => (h4 x (List.mem_of_mem_take hx)).1) (by omega)
  unfold allA at hA
  repeat' (first | (((with_reducible refine Ev.br_pos ?_ ?_); focus (decide)); conv => whnf) | (((with_reducible refine Ev.br_neg ?_ ?_); focus (decide)); conv => whnf) | (((with_reducible refine Ev.c_pos ?_ ?_); focus (decide))) | (((with_reducible refine Ev.c_neg ?_ ?_); focus (decide))) | ((with_reducible first | refine Ev.sided ?_ ?_ | refine Ev.w_put ?_ | refine Ev.w_step ?_ | refine Ev.w_opt ?_); (conv => whnf)) | ((with_reducible refine Ev.chk_k ?_ ?_); rotate_left; (focus first | rfl | (simp only [Ev.nbeq, Bool.and_true, Bool.true_and, Bool.not_false]; done) | ((repeat' (first | exact Ev.nbeq _ | rfl | refine Bool.and_eq_true_iff.2 ⟨?_, ?_⟩)); done)); conv => whnf) | (with_reducible first | refine Ev.c_dec (fun _ => ?_) (fun _ => ?_) | refine Ev.c_not ?_ | refine Ev.c_t ?_ | refine Ev.c_f ?_ | refine Ev.c_br (fun _ => ?_) (fun _ => ?_)) | ((with_reducible refine Ev.br_not ?_); conv => whnf) | (with_reducible first | refine Ev.br_dec (fun _ => ?_) (fun _ => ?_) | refine Ev.br (fun _ => ?_) (fun _ => ?_) | refine Ev.eo_ret ?_ | refine Ev.eo_norm ?_ | refine Ev.t_norm ?_ | refine Ev.k_seq ?_) | ((with_reducible refine Ev.k_reg (hs := []) (tabOK' _ _) (fun Q hQ => ?_)); (simp only [Ev.runE_cons, Ev.runE_nil]); conv => whnf) | (with_reducible refine hQ _ ?_; clear hQ Q) | (with_reducible first | refine Ev.k_cond rfl ?_ | refine Ev.k_skip ?_ | refine Ev.k_block ?_ | refine Ev.k_exit ?_ | refine Ev.k_ret ?_ | refine Ev.t_ret ?_ | refine Ev.t_exit ?_ | refine Ev.b_norm ?_ | refine Ev.b_ret ?_ | refine Ev.b_here ?_ | refine Ev.b_off rfl ?_) | ((with_reducible first | refine Ev.e_ret (fun F hF => ?_) | refine Ev.e_norm (fun F hF => ?_) | refine Ev.eh_ret (fun F hF => ?_) | refine Ev.eh_norm (fun F hF => ?_) | refine Ev.go_k (fun c' => ?_) | refine Ev.byt_cut ?_ | refine Ev.byt_all ?_ | refine Ev.run_cut ?_ | refine Ev.run_all ?_); conv => whnf) | (with_reducible refine hF _ ?_; clear hF F) | (with_reducible refine Ev.u_step ?_) | ((first | refine Ev.call_det (hm) rfl rfl ?_ | refine Ev.call_det (hA ⟨by omega, by omega⟩) rfl rfl ?_); conv => whnf) | ((first | refine Ev.call_det (hm) ?_ rfl ?_ | refine Ev.call_det (hA ⟨by omega, by omega⟩) ?_ rfl ?_); (focus (repeat' (first | with_reducible rfl | refine Ev.cons_eq ?_ ?_)) <;> (first | rfl | (refine Ev.lst_eq (Ev.take_all ?_ rfl); first | omega | (simp; done) | (simp; omega)) | (refine Ev.int_eq ?_; omega) | (simp; done))); conv => whnf) | ((refine Ev.k_draw (id := 6) (hs := []) (tabOK' _ _) (mixed' _ _) [0, 1, 2, 3, 4, 5, 6, 7, 8, 9, 10] (by decide) rfl rfl (fun Q hQ => ?_)); (simp only [Ev.runE_cons, Ev.runE_nil]); conv => whnf) | ((refine Ev.el_map0 ?_ (fun hi => ?_)); rotate_left; conv => whnf) | ((refine Ev.el_mapN ?_ (fun hi => ?_)); rotate_left; conv => whnf) | (refine Ev.Side.of ?_; exact Nat.le_of_ble_eq_true rfl) | (refine Ev.Side.of ?_; omega) | (refine Ev.Side.of ?_; simp only [Ev.wrap64]; omega) | (refine Ev.app_one ?_ rfl ?_ (by decide) <;> (first | omega | (simp; done) | (simp; omega))) | (refine Ev.app_nil1 rfl (by decide)) | (refine Ev.app_ys ?_ ?_ ?_ (by decide) <;> (first | omega | exact sps_all _ | exact bts_all _ | exact ints_all _ | exact spss_all _ | (simp; done) | (simp; omega))) | (refine Ev.app_nil ?_ ?_ (by decide) <;> (first | omega | exact sps_all _ | exact bts_all _ | exact ints_all _ | exact spss_all _ | (simp; done) | (simp; omega))) | (refine Ev.Side.of ?_; first | omega | (simp; done) | (simp; omega)))
  · have h0 : chE c = 0 := by assumption
    exact ⟨(atA_bad (by unfold atR; rw [if_neg (by simp [h0]), if_pos (by omega)])).symm, rfl⟩
  · have h0 : chE c = 0 := by assumption
    exact ⟨(atA_bad (by unfold atR; rw [if_neg (by simp [h0]), if_pos (by omega)])).symm, rfl⟩
  · have h0 : chE c = 0 := by assumption
    have : atR c i = allR c.base (c.segs.take i.toNat) := by unfold atR; rw [if_neg (by simp [h0]), if_neg (by omega)]
    unfold atA; rw [this]; exact ⟨rfl, rfl⟩
  · have h0 : ¬ chE c = 0 := by assumption
    exact ⟨(atA_bad (by unfold atR; rw [if_pos h0])).symm, rfl⟩
def fitL' (t : ByteArray) (l : List (List Sp)) : Lg :=
  let b := fitS (t.extract 0 (min t.size 20))
  let w := chO l (countD b.data.toList)
  ⟨b, (List.range (w.length + 1)).map fun (i : Nat) => (i : Int), w.map norm⟩
theorem fit16_core (t : ByteArray) (l : List (List Sp)) : CallW env 27 [.v (.string t), .lst 1 (rowsA l)] (fun r hs => LeR r (lgA (fitL' t l)) ∧ hs = []) := by
  have hrl := rowsA_len l
  have hs20 : (t.extract 0 (min t.size 20)).size ≤ 20 := by rw [ByteArray.size_extract]; omega
  have hx : (min (t.size : Int) 20).toNat = min t.size 20 := by omega
  have hF : CallW env 64 [.v (.string (t.extract 0 (min (t.size : Int) 20).toNat))] (fun r hs => r = .v (.string (fitS (t.extract 0 (min t.size 20)))) ∧ hs = []) := by rw [hx]; exact fit_call _ (by omega)
  have hC := rcount_call (fitS (t.extract 0 (min t.size 20))) (by have := fit_size (t.extract 0 (min t.size 20)) (by omega); omega)
  have hcc := fit_count (t.extract 0 (min t.size 20))
  have hW := chain4_call l (countD (fitS (t.extract 0 (min t.size 20))).data.toList) (by omega)
  have hL : lgA (fitL' t l) = .agg [.v (.string (fitS (t.extract 0 (min t.size 20)))), .lst 1 (ints ((List.range ((chO l (countD (fitS (t.extract 0 (min t.size 20))).data.toList)).length + 1)).map fun (i : Nat) => (i : Int))), .lst 1 (rowsA ((chO l (countD (fitS (t.extract 0 (min t.size 20))).data.toList)).map norm))] := rfl
  rw [hL]
  have hcw := chO_chn l (n := countD (fitS (t.extract 0 (min t.size 20))).data.toList) (by omega)
  have hN : ∀ x ∈ chO l (countD (fitS (t.extract 0 (min t.size 20))).data.toList), x.length ≤ 13 ∧ tbs x ≤ 312 := by
    intro x hx
    obtain ⟨y, m, rfl, m1, m2⟩ := chn_mem hcw.1 x hx
    exact fit_tbs y (by omega)
  obtain ⟨_, h20⟩ := hcw
  generalize fitS (t.extract 0 (min t.size 20)) = b at *
  generalize chO l (countD b.data.toList) = W at *
  have hwl := rowsA_len W
  refine Ev.func tabOK [0, 1, 4, 5, 6, 7, 24] 0 Tryd.func27 rfl rfl (by simp [Tryd.ntmps27]) (by rfl) (comp27 _ rfl) (rs := [.cell 4 42]) rfl ?_; rw [cc27]; show Ev.Wp _ _ _ _ ⟨[(0, _), (1, _)], [], 0⟩
  repeat' (first | (((with_reducible refine Ev.br_pos ?_ ?_); focus (decide)); conv => whnf) | (((with_reducible refine Ev.br_neg ?_ ?_); focus (decide)); conv => whnf) | (((with_reducible refine Ev.c_pos ?_ ?_); focus (decide))) | (((with_reducible refine Ev.c_neg ?_ ?_); focus (decide))) | ((with_reducible first | refine Ev.sided ?_ ?_ | refine Ev.w_put ?_ | refine Ev.w_step ?_ | refine Ev.w_opt ?_); (conv => whnf)) | ((with_reducible refine Ev.chk_k ?_ ?_); rotate_left; (focus first | rfl | (simp only [Ev.nbeq, Bool.and_true, Bool.true_and, Bool.not_false]; done) | ((repeat' (first | exact Ev.nbeq _ | rfl | refine Bool.and_eq_true_iff.2 ⟨?_, ?_⟩)); done)); conv => whnf) | (with_reducible first | refine Ev.c_dec (fun _ => ?_) (fun _ => ?_) | refine Ev.c_not ?_ | refine Ev.c_t ?_ | refine Ev.c_f ?_ | refine Ev.c_br (fun _ => ?_) (fun _ => ?_)) | ((with_reducible refine Ev.br_not ?_); conv => whnf) | (with_reducible first | refine Ev.br_dec (fun _ => ?_) (fun _ => ?_) | refine Ev.br (fun _ => ?_) (fun _ => ?_) | refine Ev.eo_ret ?_ | refine Ev.eo_norm ?_ | refine Ev.t_norm ?_ | refine Ev.k_seq ?_) | ((with_reducible refine Ev.k_reg (hs := []) (tabOK' _ _) (fun Q hQ => ?_)); (simp only [Ev.runE_cons, Ev.runE_nil]); conv => whnf) | (with_reducible refine hQ _ ?_; clear hQ Q) | (with_reducible first | refine Ev.k_cond rfl ?_ | refine Ev.k_skip ?_ | refine Ev.k_block ?_ | refine Ev.k_exit ?_ | refine Ev.k_ret ?_ | refine Ev.t_ret ?_ | refine Ev.t_exit ?_ | refine Ev.b_norm ?_ | refine Ev.b_ret ?_ | refine Ev.b_here ?_ | refine Ev.b_off rfl ?_) | ((with_reducible first | refine Ev.e_ret (fun F hF => ?_) | refine Ev.e_norm (fun F hF => ?_) | refine Ev.eh_ret (fun F hF => ?_) | refine Ev.eh_norm (fun F hF => ?_) | refine Ev.go_k (fun c' => ?_) | refine Ev.byt_cut ?_ | refine Ev.byt_all ?_ | refine Ev.run_cut ?_ | refine Ev.run_all ?_); conv => whnf) | (with_reducible refine hF _ ?_; clear hF F) | (with_reducible refine Ev.u_step ?_) | ((first | refine Ev.call_det (hF) rfl rfl ?_ | refine Ev.call_det (hC) rfl rfl ?_ | refine Ev.call_det (hW) rfl rfl ?_); conv => whnf) | ((first | refine Ev.call_det (hF) ?_ rfl ?_ | refine Ev.call_det (hC) ?_ rfl ?_ | refine Ev.call_det (hW) ?_ rfl ?_); (focus (repeat' (first | with_reducible rfl | refine Ev.cons_eq ?_ ?_)) <;> (first | rfl | (refine Ev.lst_eq (Ev.take_all ?_ rfl); first | omega | (simp; done) | (simp; omega)) | (refine Ev.int_eq ?_; omega) | (simp; done))); conv => whnf) | ((refine Ev.k_draw (id := 7) (hs := []) (tabOK' _ _) (mixed' _ _) [0, 1, 2, 3, 4, 5, 6, 7, 8, 9, 10] (by decide) rfl rfl (fun Q hQ => ?_)); (simp only [Ev.runE_cons, Ev.runE_nil]); conv => whnf) | ((refine Ev.el_map0 ?_ (fun hi => ?_)); rotate_left; conv => whnf) | ((refine Ev.el_mapN ?_ (fun hi => ?_)); rotate_left; conv => whnf) | (refine Ev.Side.of ?_; exact Nat.le_of_ble_eq_true rfl) | (refine Ev.Side.of ?_; omega) | (refine Ev.Side.of ?_; simp only [Ev.wrap64]; omega) | (refine Ev.app_one ?_ rfl ?_ (by decide) <;> (first | omega | (simp; done) | (simp; omega))) | (refine Ev.app_nil1 rfl (by decide)) | (refine Ev.app_ys ?_ ?_ ?_ (by decide) <;> (first | omega | exact sps_all _ | exact bts_all _ | exact ints_all _ | exact spss_all _ | (simp; done) | (simp; omega))) | (refine Ev.app_nil ?_ ?_ (by decide) <;> (first | omega | exact sps_all _ | exact bts_all _ | exact ints_all _ | exact spss_all _ | (simp; done) | (simp; omega))) | (refine Ev.Side.of ?_; first | omega | (simp; done) | (simp; omega)))
  have hrg : ∀ i : Nat, ((List.range (i + 1)).map fun (i : Nat) => (i : Int)) = ((List.range i).map fun (i : Nat) => (i : Int)) ++ [(i : Int)] := fun i => by rw [List.range_succ, List.map_append]; rfl
  refine Ev.loop (fun k s => ∃ (i c v w : Nat) (sg : AV) (hx : List (Nat × Blk)), s = ⟨[(4, .ptr 0 0 0 0), (5, .ptr 576 w 0 0), (6, .lst 1 (rowsA W)), (7, .v (.int .i64 i))],
      (576, ⟨3, 42, w, 0, true, [[.v (.string b), .own 560 v 0 (i + 1), sg]]⟩) :: (560, ⟨1, 3, v, 0, false, ints ((List.range (i + 1)).map fun (i : Nat) => (i : Int))⟩) :: (0, ⟨3, 42, 0, 0, true, [[.v (.string ⟨#[]⟩), nilA, nilA]]⟩) :: hx, c⟩ ∧
      ((i = 0 ∧ sg = nilA ∧ hx = []) ∨ (0 < i ∧ ∃ u, sg = .own 3648 u 0 i ∧ hx = [(3648, ⟨1, 25, u, 0, false, rowsA ((W.take i).map norm)⟩)])) ∧ k + i = W.length) ?_ ?_
  · (refine Ev.to _ ?hs5 ?hh5 ?hc5 ⟨W.length, 0, ?_, ?_, ?_, nilA, [], rfl, ?hp5⟩; (case hs5 | hh5 => ((repeat' (first | exact trivial | refine And.intro ?_ ?_)) <;> (refine Ev.slot_eq rfl ?_; first | with_reducible rfl | (refine Ev.int_eq ?_; first | omega | (simp only [Ev.wrap64, Ev.wrap8, Ev.wrap32, Int.toNat_natCast] at *; omega)) | ((first | refine Ev.int_eq ?_ | refine Ev.own_eq ?_ | refine Ev.blk_eq ?_ | skip); first | with_reducible rfl | omega | (first | rfl | (simp; done)) | rfl) | (first | rfl | (simp; done)) | rfl))); (case hc5 => exact Nat.le_refl _))
    exact ⟨.inl ⟨rfl, rfl, rfl⟩, by omega⟩
  rintro k s1 ⟨i, c, v, w, sg, hx, rfl, hsg, hk⟩
  have hlr := ints_len ((List.range (i + 1)).map fun (i : Nat) => (i : Int))
  rw [List.length_map, List.length_range] at hlr
  have hO : ∀ (hi : i < W.length), CallW env 66 [.lst 3 (sps W[i])] (fun r hs => r = .lst 3 (sps (norm W[i])) ∧ hs = []) := fun hi => by
    have := hN _ (List.getElem_mem hi); exact rnof_call _ (by omega) (by omega)
  by_cases hi : i < W.length
  · have hi2 : (i : Int) < ((rowsA W).length : Int) := by omega
    rcases hsg with ⟨rfl, rfl, rfl⟩ | ⟨h0, u, rfl, rfl⟩
    · repeat' (first | (((with_reducible refine Ev.br_pos ?_ ?_); focus (decide)); conv => whnf) | (((with_reducible refine Ev.br_neg ?_ ?_); focus (decide)); conv => whnf) | (((with_reducible refine Ev.c_pos ?_ ?_); focus (decide))) | (((with_reducible refine Ev.c_neg ?_ ?_); focus (decide))) | (with_reducible refine Ev.c_pos hi2 ?_) | ((with_reducible first | refine Ev.sided ?_ ?_ | refine Ev.w_put ?_ | refine Ev.w_step ?_ | refine Ev.w_opt ?_); (conv => whnf)) | ((with_reducible refine Ev.chk_k ?_ ?_); rotate_left; (focus first | rfl | (simp only [Ev.nbeq, Bool.and_true, Bool.true_and, Bool.not_false]; done) | ((repeat' (first | exact Ev.nbeq _ | rfl | refine Bool.and_eq_true_iff.2 ⟨?_, ?_⟩)); done)); conv => whnf) | (with_reducible first | refine Ev.c_dec (fun _ => ?_) (fun _ => ?_) | refine Ev.c_not ?_ | refine Ev.c_t ?_ | refine Ev.c_f ?_ | refine Ev.c_br (fun _ => ?_) (fun _ => ?_)) | ((with_reducible refine Ev.br_not ?_); conv => whnf) | (with_reducible first | refine Ev.br_dec (fun _ => ?_) (fun _ => ?_) | refine Ev.br (fun _ => ?_) (fun _ => ?_) | refine Ev.eo_ret ?_ | refine Ev.eo_norm ?_ | refine Ev.t_norm ?_ | refine Ev.k_seq ?_) | ((with_reducible refine Ev.k_reg (hs := []) (tabOK' _ _) (fun Q hQ => ?_)); (simp only [Ev.runE_cons, Ev.runE_nil]); conv => whnf) | (with_reducible refine hQ _ ?_; clear hQ Q) | (with_reducible first | refine Ev.k_cond rfl ?_ | refine Ev.k_skip ?_ | refine Ev.k_block ?_ | refine Ev.k_exit ?_ | refine Ev.k_ret ?_ | refine Ev.t_ret ?_ | refine Ev.t_exit ?_ | refine Ev.b_norm ?_ | refine Ev.b_ret ?_ | refine Ev.b_here ?_ | refine Ev.b_off rfl ?_) | ((with_reducible first | refine Ev.e_ret (fun F hF => ?_) | refine Ev.e_norm (fun F hF => ?_) | refine Ev.eh_ret (fun F hF => ?_) | refine Ev.eh_norm (fun F hF => ?_) | refine Ev.go_k (fun c' => ?_) | refine Ev.byt_cut ?_ | refine Ev.byt_all ?_ | refine Ev.run_cut ?_ | refine Ev.run_all ?_); conv => whnf) | (with_reducible refine hF _ ?_; clear hF F) | (with_reducible refine Ev.u_step ?_) | ((first | refine Ev.call_det (hO hi) rfl rfl ?_); conv => whnf) | ((first | refine Ev.call_det (hO hi) ?_ rfl ?_); (focus (repeat' (first | with_reducible rfl | refine Ev.cons_eq ?_ ?_)) <;> (first | rfl | (refine Ev.lst_eq (Ev.take_all ?_ rfl); first | omega | (simp; done) | (simp; omega)) | (refine Ev.int_eq ?_; omega) | (simp; done))); conv => whnf) | ((refine Ev.k_draw (id := 7) (hs := []) (tabOK' _ _) (mixed' _ _) [0, 1, 2, 3, 4, 5, 6, 7, 8, 9, 10] (by decide) rfl rfl (fun Q hQ => ?_)); (simp only [Ev.runE_cons, Ev.runE_nil]); conv => whnf) | ((refine Ev.el_map0 ?_ (fun hi => ?_)); rotate_left; conv => whnf) | ((refine Ev.el_mapN ?_ (fun hi => ?_)); rotate_left; conv => whnf) | (refine Ev.Side.of ?_; exact Nat.le_of_ble_eq_true rfl) | (refine Ev.Side.of ?_; omega) | (refine Ev.Side.of ?_; simp only [Ev.wrap64]; omega) | (refine Ev.app_one ?_ rfl ?_ (by decide) <;> (first | omega | (simp; done) | (simp; omega))) | (refine Ev.app_nil1 rfl (by decide)) | (refine Ev.app_ys ?_ ?_ ?_ (by decide) <;> (first | omega | exact sps_all _ | exact bts_all _ | exact ints_all _ | exact spss_all _ | (simp; done) | (simp; omega))) | (refine Ev.app_nil ?_ ?_ (by decide) <;> (first | omega | exact sps_all _ | exact bts_all _ | exact ints_all _ | exact spss_all _ | (simp; done) | (simp; omega))) | (refine Ev.Side.of ?_; first | omega | (simp; done) | (simp; omega)))
      have hw1 : IntKind.i64.wrap (((0 : Nat) : Int) + 1) = ((0 + 1 : Nat) : Int) := by rw [wrap_id (by omega)]; rfl
      have hr1 : ints ((List.range (0 + 1)).map fun (i : Nat) => (i : Int)) ++ List.take 1 (List.drop 0 [[AV.v (.int .i64 (IntKind.i64.wrap (((0 : Nat) : Int) + 1)))]]) = ints ((List.range (0 + 1 + 1)).map fun (i : Nat) => (i : Int)) := by rw [hrg (0 + 1), ints_app, hw1]; rfl
      have hr2 : List.take 1 (List.drop 0 [[AV.lst 3 (sps (norm W[0]))]]) = rowsA ((W.take (0 + 1)).map norm) := by rw [List.take_succ_eq_append_getElem hi]; rfl
      (refine Ev.again (k - 1) _ ?hm6 ?hs6 ?hh6 ?hc6 ⟨0 + 1, ?_, c + 8, w, .own 3648 (c + 8 + 8 + 8) 0 (0 + 1), [(3648, ⟨1, 25, c + 8 + 8 + 8, 0, false, rowsA ((W.take (0 + 1)).map norm)⟩)], rfl, ?hp6⟩; (case hs6 | hh6 => ((repeat' (first | exact trivial | refine And.intro ?_ ?_)) <;> (refine Ev.slot_eq rfl ?_; first | with_reducible rfl | (refine Ev.int_eq ?_; first | omega | (simp only [Ev.wrap64, Ev.wrap8, Ev.wrap32, Int.toNat_natCast] at *; omega)) | ((first | refine Ev.int_eq ?_ | refine Ev.own_eq ?_ | refine Ev.blk_eq ?_ | skip); first | with_reducible rfl | omega | (first | exact wrap_succ (by omega) | exact congrArg (fun n => Blk.mk 1 3 _ 0 false n) hr1 | exact congrArg (fun n => Blk.mk 1 25 _ 0 false n) hr2 | rfl) | rfl) | (first | exact wrap_succ (by omega) | exact congrArg (fun n => Blk.mk 1 3 _ 0 false n) hr1 | exact congrArg (fun n => Blk.mk 1 25 _ 0 false n) hr2 | rfl) | rfl))); (case hc6 => exact Nat.le_refl _); (case hm6 => omega))
      exact ⟨.inr ⟨by omega, _, rfl, rfl⟩, by omega⟩
    · have hml := rowsA_len ((W.take i).map norm)
      rw [List.length_map, List.length_take] at hml
      repeat' (first | (((with_reducible refine Ev.br_pos ?_ ?_); focus (decide)); conv => whnf) | (((with_reducible refine Ev.br_neg ?_ ?_); focus (decide)); conv => whnf) | (((with_reducible refine Ev.c_pos ?_ ?_); focus (decide))) | (((with_reducible refine Ev.c_neg ?_ ?_); focus (decide))) | (with_reducible refine Ev.c_pos hi2 ?_) | ((with_reducible first | refine Ev.sided ?_ ?_ | refine Ev.w_put ?_ | refine Ev.w_step ?_ | refine Ev.w_opt ?_); (conv => whnf)) | ((with_reducible refine Ev.chk_k ?_ ?_); rotate_left; (focus first | rfl | (simp only [Ev.nbeq, Bool.and_true, Bool.true_and, Bool.not_false]; done) | ((repeat' (first | exact Ev.nbeq _ | rfl | refine Bool.and_eq_true_iff.2 ⟨?_, ?_⟩)); done)); conv => whnf) | (with_reducible first | refine Ev.c_dec (fun _ => ?_) (fun _ => ?_) | refine Ev.c_not ?_ | refine Ev.c_t ?_ | refine Ev.c_f ?_ | refine Ev.c_br (fun _ => ?_) (fun _ => ?_)) | ((with_reducible refine Ev.br_not ?_); conv => whnf) | (with_reducible first | refine Ev.br_dec (fun _ => ?_) (fun _ => ?_) | refine Ev.br (fun _ => ?_) (fun _ => ?_) | refine Ev.eo_ret ?_ | refine Ev.eo_norm ?_ | refine Ev.t_norm ?_ | refine Ev.k_seq ?_) | ((with_reducible refine Ev.k_reg (hs := []) (tabOK' _ _) (fun Q hQ => ?_)); (simp only [Ev.runE_cons, Ev.runE_nil]); conv => whnf) | (with_reducible refine hQ _ ?_; clear hQ Q) | (with_reducible first | refine Ev.k_cond rfl ?_ | refine Ev.k_skip ?_ | refine Ev.k_block ?_ | refine Ev.k_exit ?_ | refine Ev.k_ret ?_ | refine Ev.t_ret ?_ | refine Ev.t_exit ?_ | refine Ev.b_norm ?_ | refine Ev.b_ret ?_ | refine Ev.b_here ?_ | refine Ev.b_off rfl ?_) | ((with_reducible first | refine Ev.e_ret (fun F hF => ?_) | refine Ev.e_norm (fun F hF => ?_) | refine Ev.eh_ret (fun F hF => ?_) | refine Ev.eh_norm (fun F hF => ?_) | refine Ev.go_k (fun c' => ?_) | refine Ev.byt_cut ?_ | refine Ev.byt_all ?_ | refine Ev.run_cut ?_ | refine Ev.run_all ?_); conv => whnf) | (with_reducible refine hF _ ?_; clear hF F) | (with_reducible refine Ev.u_step ?_) | ((first | refine Ev.call_det (hO hi) rfl rfl ?_); conv => whnf) | ((first | refine Ev.call_det (hO hi) ?_ rfl ?_); (focus (repeat' (first | with_reducible rfl | refine Ev.cons_eq ?_ ?_)) <;> (first | rfl | (refine Ev.lst_eq (Ev.take_all ?_ rfl); first | omega | (simp; done) | (simp; omega)) | (refine Ev.int_eq ?_; omega) | (simp; done))); conv => whnf) | ((refine Ev.k_draw (id := 7) (hs := []) (tabOK' _ _) (mixed' _ _) [0, 1, 2, 3, 4, 5, 6, 7, 8, 9, 10] (by decide) rfl rfl (fun Q hQ => ?_)); (simp only [Ev.runE_cons, Ev.runE_nil]); conv => whnf) | ((refine Ev.el_map0 ?_ (fun hi => ?_)); rotate_left; conv => whnf) | ((refine Ev.el_mapN ?_ (fun hi => ?_)); rotate_left; conv => whnf) | (refine Ev.Side.of ?_; exact Nat.le_of_ble_eq_true rfl) | (refine Ev.Side.of ?_; omega) | (refine Ev.Side.of ?_; simp only [Ev.wrap64]; omega) | (refine Ev.app_one ?_ rfl ?_ (by decide) <;> (first | omega | (simp; done) | (simp; omega))) | (refine Ev.app_nil1 rfl (by decide)) | (refine Ev.app_ys ?_ ?_ ?_ (by decide) <;> (first | omega | exact sps_all _ | exact bts_all _ | exact ints_all _ | exact spss_all _ | (simp; done) | (simp; omega))) | (refine Ev.app_nil ?_ ?_ (by decide) <;> (first | omega | exact sps_all _ | exact bts_all _ | exact ints_all _ | exact spss_all _ | (simp; done) | (simp; omega))) | (refine Ev.Side.of ?_; first | omega | (simp; done) | (simp; omega)))
      have hw1 : IntKind.i64.wrap ((i : Int) + 1) = ((i + 1 : Nat) : Int) := by rw [wrap_id (by omega)]; simp
      have hr1 : ints ((List.range (i + 1)).map fun (i : Nat) => (i : Int)) ++ List.take 1 (List.drop 0 [[AV.v (.int .i64 (IntKind.i64.wrap ((i : Int) + 1)))]]) = ints ((List.range (i + 1 + 1)).map fun (i : Nat) => (i : Int)) := by rw [hrg (i + 1), ints_app, hw1]; rfl
      have hr2 : rowsA ((W.take i).map norm) ++ List.take 1 (List.drop 0 [[AV.lst 3 (sps (norm W[i]))]]) = rowsA ((W.take (i + 1)).map norm) := by rw [List.take_succ_eq_append_getElem hi, List.map_append, rowsA_app]; rfl
      (refine Ev.again (k - 1) _ ?hm7 ?hs7 ?hh7 ?hc7 ⟨i + 1, ?_, c + 8, w, .own 3648 (c + 8 + 8 + 8) 0 (i + 1), [(3648, ⟨1, 25, c + 8 + 8 + 8, 0, false, rowsA ((W.take (i + 1)).map norm)⟩)], rfl, ?hp7⟩; (case hs7 | hh7 => ((repeat' (first | exact trivial | refine And.intro ?_ ?_)) <;> (refine Ev.slot_eq rfl ?_; first | with_reducible rfl | (refine Ev.int_eq ?_; first | omega | (simp only [Ev.wrap64, Ev.wrap8, Ev.wrap32, Int.toNat_natCast] at *; omega)) | ((first | refine Ev.int_eq ?_ | refine Ev.own_eq ?_ | refine Ev.blk_eq ?_ | skip); first | with_reducible rfl | omega | (first | exact wrap_succ (by omega) | exact congrArg (fun n => Blk.mk 1 3 _ 0 false n) hr1 | exact congrArg (fun n => Blk.mk 1 25 _ 0 false n) hr2 | rfl) | rfl) | (first | exact wrap_succ (by omega) | exact congrArg (fun n => Blk.mk 1 3 _ 0 false n) hr1 | exact congrArg (fun n => Blk.mk 1 25 _ 0 false n) hr2 | rfl) | rfl))); (case hc7 => exact Nat.le_refl _); (case hm7 => omega))
      exact ⟨.inr ⟨by omega, _, rfl, rfl⟩, by omega⟩
  · have hi2 : ¬ (i : Int) < ((rowsA W).length : Int) := by omega
    rcases hsg with ⟨rfl, rfl, rfl⟩ | ⟨h0, u, rfl, rfl⟩
    · repeat' (first | (((with_reducible refine Ev.br_pos ?_ ?_); focus (decide)); conv => whnf) | (((with_reducible refine Ev.br_neg ?_ ?_); focus (decide)); conv => whnf) | (((with_reducible refine Ev.c_pos ?_ ?_); focus (decide))) | (((with_reducible refine Ev.c_neg ?_ ?_); focus (decide))) | (with_reducible refine Ev.c_neg hi2 ?_) | ((with_reducible first | refine Ev.sided ?_ ?_ | refine Ev.w_put ?_ | refine Ev.w_step ?_ | refine Ev.w_opt ?_); (conv => whnf)) | ((with_reducible refine Ev.chk_k ?_ ?_); rotate_left; (focus first | rfl | (simp only [Ev.nbeq, Bool.and_true, Bool.true_and, Bool.not_false]; done) | ((repeat' (first | exact Ev.nbeq _ | rfl | refine Bool.and_eq_true_iff.2 ⟨?_, ?_⟩)); done)); conv => whnf) | (with_reducible first | refine Ev.c_dec (fun _ => ?_) (fun _ => ?_) | refine Ev.c_not ?_ | refine Ev.c_t ?_ | refine Ev.c_f ?_ | refine Ev.c_br (fun _ => ?_) (fun _ => ?_)) | ((with_reducible refine Ev.br_not ?_); conv => whnf) | (with_reducible first | refine Ev.br_dec (fun _ => ?_) (fun _ => ?_) | refine Ev.br (fun _ => ?_) (fun _ => ?_) | refine Ev.eo_ret ?_ | refine Ev.eo_norm ?_ | refine Ev.t_norm ?_ | refine Ev.k_seq ?_) | ((with_reducible refine Ev.k_reg (hs := []) (tabOK' _ _) (fun Q hQ => ?_)); (simp only [Ev.runE_cons, Ev.runE_nil]); conv => whnf) | (with_reducible refine hQ _ ?_; clear hQ Q) | (with_reducible first | refine Ev.k_cond rfl ?_ | refine Ev.k_skip ?_ | refine Ev.k_block ?_ | refine Ev.k_exit ?_ | refine Ev.k_ret ?_ | refine Ev.t_ret ?_ | refine Ev.t_exit ?_ | refine Ev.b_norm ?_ | refine Ev.b_ret ?_ | refine Ev.b_here ?_ | refine Ev.b_off rfl ?_) | ((with_reducible first | refine Ev.e_ret (fun F hF => ?_) | refine Ev.e_norm (fun F hF => ?_) | refine Ev.eh_ret (fun F hF => ?_) | refine Ev.eh_norm (fun F hF => ?_) | refine Ev.go_k (fun c' => ?_) | refine Ev.byt_cut ?_ | refine Ev.byt_all ?_ | refine Ev.run_cut ?_ | refine Ev.run_all ?_); conv => whnf) | (with_reducible refine hF _ ?_; clear hF F) | (with_reducible refine Ev.u_step ?_) | ((refine Ev.k_draw (id := 7) (hs := []) (tabOK' _ _) (mixed' _ _) [0, 1, 2, 3, 4, 5, 6, 7, 8, 9, 10] (by decide) rfl rfl (fun Q hQ => ?_)); (simp only [Ev.runE_cons, Ev.runE_nil]); conv => whnf) | ((refine Ev.el_map0 ?_ (fun hi => ?_)); rotate_left; conv => whnf) | ((refine Ev.el_mapN ?_ (fun hi => ?_)); rotate_left; conv => whnf) | (refine Ev.Side.of ?_; exact Nat.le_of_ble_eq_true rfl) | (refine Ev.Side.of ?_; omega) | (refine Ev.Side.of ?_; simp only [Ev.wrap64]; omega) | (refine Ev.app_one ?_ rfl ?_ (by decide) <;> (first | omega | (simp; done) | (simp; omega))) | (refine Ev.app_nil1 rfl (by decide)) | (refine Ev.app_ys ?_ ?_ ?_ (by decide) <;> (first | omega | exact sps_all _ | exact bts_all _ | exact ints_all _ | exact spss_all _ | (simp; done) | (simp; omega))) | (refine Ev.app_nil ?_ ?_ (by decide) <;> (first | omega | exact sps_all _ | exact bts_all _ | exact ints_all _ | exact spss_all _ | (simp; done) | (simp; omega))) | (refine Ev.Side.of ?_; first | omega | (simp; done) | (simp; omega)))
      have : W = [] := List.eq_nil_of_length_eq_zero (by omega)
      subst this
      refine ⟨LeR.agg3 (LeR.refl _) (LeR.refl _) (LeR.nil 1), rfl⟩
    · repeat' (first | (((with_reducible refine Ev.br_pos ?_ ?_); focus (decide)); conv => whnf) | (((with_reducible refine Ev.br_neg ?_ ?_); focus (decide)); conv => whnf) | (((with_reducible refine Ev.c_pos ?_ ?_); focus (decide))) | (((with_reducible refine Ev.c_neg ?_ ?_); focus (decide))) | (with_reducible refine Ev.c_neg hi2 ?_) | ((with_reducible first | refine Ev.sided ?_ ?_ | refine Ev.w_put ?_ | refine Ev.w_step ?_ | refine Ev.w_opt ?_); (conv => whnf)) | ((with_reducible refine Ev.chk_k ?_ ?_); rotate_left; (focus first | rfl | (simp only [Ev.nbeq, Bool.and_true, Bool.true_and, Bool.not_false]; done) | ((repeat' (first | exact Ev.nbeq _ | rfl | refine Bool.and_eq_true_iff.2 ⟨?_, ?_⟩)); done)); conv => whnf) | (with_reducible first | refine Ev.c_dec (fun _ => ?_) (fun _ => ?_) | refine Ev.c_not ?_ | refine Ev.c_t ?_ | refine Ev.c_f ?_ | refine Ev.c_br (fun _ => ?_) (fun _ => ?_)) | ((with_reducible refine Ev.br_not ?_); conv => whnf) | (with_reducible first | refine Ev.br_dec (fun _ => ?_) (fun _ => ?_) | refine Ev.br (fun _ => ?_) (fun _ => ?_) | refine Ev.eo_ret ?_ | refine Ev.eo_norm ?_ | refine Ev.t_norm ?_ | refine Ev.k_seq ?_) | ((with_reducible refine Ev.k_reg (hs := []) (tabOK' _ _) (fun Q hQ => ?_)); (simp only [Ev.runE_cons, Ev.runE_nil]); conv => whnf) | (with_reducible refine hQ _ ?_; clear hQ Q) | (with_reducible first | refine Ev.k_cond rfl ?_ | refine Ev.k_skip ?_ | refine Ev.k_block ?_ | refine Ev.k_exit ?_ | refine Ev.k_ret ?_ | refine Ev.t_ret ?_ | refine Ev.t_exit ?_ | refine Ev.b_norm ?_ | refine Ev.b_ret ?_ | refine Ev.b_here ?_ | refine Ev.b_off rfl ?_) | ((with_reducible first | refine Ev.e_ret (fun F hF => ?_) | refine Ev.e_norm (fun F hF => ?_) | refine Ev.eh_ret (fun F hF => ?_) | refine Ev.eh_norm (fun F hF => ?_) | refine Ev.go_k (fun c' => ?_) | refine Ev.byt_cut ?_ | refine Ev.byt_all ?_ | refine Ev.run_cut ?_ | refine Ev.run_all ?_); conv => whnf) | (with_reducible refine hF _ ?_; clear hF F) | (with_reducible refine Ev.u_step ?_) | ((refine Ev.k_draw (id := 7) (hs := []) (tabOK' _ _) (mixed' _ _) [0, 1, 2, 3, 4, 5, 6, 7, 8, 9, 10] (by decide) rfl rfl (fun Q hQ => ?_)); (simp only [Ev.runE_cons, Ev.runE_nil]); conv => whnf) | ((refine Ev.el_map0 ?_ (fun hi => ?_)); rotate_left; conv => whnf) | ((refine Ev.el_mapN ?_ (fun hi => ?_)); rotate_left; conv => whnf) | (refine Ev.Side.of ?_; exact Nat.le_of_ble_eq_true rfl) | (refine Ev.Side.of ?_; omega) | (refine Ev.Side.of ?_; simp only [Ev.wrap64]; omega) | (refine Ev.app_one ?_ rfl ?_ (by decide) <;> (first | omega | (simp; done) | (simp; omega))) | (refine Ev.app_nil1 rfl (by decide)) | (refine Ev.app_ys ?_ ?_ ?_ (by decide) <;> (first | omega | exact sps_all _ | exact bts_all _ | exact ints_all _ | exact spss_all _ | (simp; done) | (simp; omega))) | (refine Ev.app_nil ?_ ?_ (by decide) <;> (first | omega | exact sps_all _ | exact bts_all _ | exact ints_all _ | exact spss_all _ | (simp; done) | (simp; omega))) | (refine Ev.Side.of ?_; first | omega | (simp; done) | (simp; omega)))
      have hiW : i = W.length := by omega
      subst hiW
      have e1 : List.take (W.length + 1) (List.drop 0 (ints ((List.range (W.length + 1)).map fun (i : Nat) => (i : Int)))) = ints ((List.range (W.length + 1)).map fun (i : Nat) => (i : Int)) := by rw [List.drop_zero, List.take_of_length_le (by omega)]
      have e2 : List.take W.length (List.drop 0 (rowsA ((W.take W.length).map norm))) = rowsA (W.map norm) := by rw [List.drop_zero, List.take_length, List.take_of_length_le (by simp)]
      refine ⟨?_, rfl⟩
      show LeR (AV.agg [_, .lst 1 (List.take (W.length + 1) (List.drop 0 (ints _))), .lst 1 (List.take W.length (List.drop 0 (rowsA _)))]) _
      rw [e1, e2]; exact LeR.refl _
theorem fit16_call (t : ByteArray) (l : List (List Sp)) : CallW env 27 [.v (.string t), .lst 1 (rowsA l)] (fun r hs => r = lgA (fitL' t l) ∧ hs = []) :=
  (fit16_core t l).res (fun r hs h => ⟨_, ⟨rfl, h.2⟩, h.1⟩)
end Go.Proofs.YthdjbgbfboppcaaDoor.Abs

namespace Go.Proofs.YthdjbgbfboppcaaDoor.Abs
open Go
set_option maxRecDepth 100000
set_option linter.unusedSimpArgs false
set_option linter.unusedVariables false
attribute [local irreducible] Ev.Unr Ev.Go' Ev.bytK Ev.runK Ev.FinL Ev.brC Ev.Side Ev.Wp Ev.Again Ev.To Ev.Fin
open Go.Lib Go.RowKit
def cc26 : CC := (.seq (.reg 0 [⟨0, some 0, (.assign (.const (Value.bool false))), none⟩]) (.seq (.reg 1 [⟨0, some 4, (.buildSlice 40 2 #[(0, .const (Value.int .i64 0)), (1, .const (Value.int .i64 3))]), none⟩, ⟨1, some 5, (.build 35 #[(0, .const (Value.int .i64 1)), (1, .const (Value.int .i64 2))]), none⟩, ⟨2, some 6, (.build 35 #[(0, .const (Value.int .i64 2)), (2, .const (Value.string { data := #[99] }))]), none⟩, ⟨3, some 7, (.buildSlice 25 2 #[(0, .tmp 5), (1, .tmp 6)]), none⟩, ⟨4, some 8, (.buildSlice 38 1 #[(0, .tmp 7)]), none⟩, ⟨5, some 9, (.build 42 #[(0, .const (Value.string { data := #[97, 98] })), (1, .tmp 4), (2, .tmp 8)]), none⟩, ⟨6, some 1, (.alloc 42), none⟩, ⟨7, none, (.store 42 (.tmp 1) (.tmp 9)), none⟩]) (.seq (.reg 2 [⟨0, some 11, (.load 42 (.tmp 1)), none⟩, ⟨1, some 12, (.call { callee := .value (.func 29), args := #[.tmp 11, .const (Value.int .i64 1)], argTypes := #[42, 3] }), none⟩, ⟨2, some 10, (.move (.tmp 12)), none⟩, ⟨3, some 13, (.extract (.tmp 10) 0), none⟩, ⟨4, some 14, (.extract (.tmp 10) 1), none⟩, ⟨5, some 2, (.assign (.tmp 13)), none⟩, ⟨6, some 3, (.assign (.tmp 14)), none⟩]) (.seq (.reg 3 [⟨0, some 15, (.move (.tmp 2)), none⟩, ⟨1, some 16, (.binOp .eql 9 (.tmp 15) (.const (Value.string { data := #[97, 98, 99] })) 9), none⟩, ⟨2, some 17, (.move (.tmp 16)), none⟩, ⟨3, some 18, (.move (.tmp 3)), (some (17, true))⟩, ⟨4, some 19, (.binOp .eql 26 (.tmp 18) (.const (Value.int .i64 0)) 26), (some (17, true))⟩, ⟨5, some 20, (.pick (.tmp 17) (.tmp 19) (.const (Value.bool false))), none⟩, ⟨6, some 21, (.move (.tmp 20)), none⟩, ⟨7, some 22, (.load 42 (.tmp 1)), (some (21, true))⟩, ⟨8, some 23, (.call { callee := .value (.func 28), args := #[.tmp 22], argTypes := #[42] }), (some (21, true))⟩, ⟨9, some 24, (.binOp .eql 26 (.tmp 23) (.const (Value.int .i64 0)) 26), (some (21, true))⟩, ⟨10, some 25, (.pick (.tmp 21) (.tmp 24) (.const (Value.bool false))), none⟩, ⟨11, some 26, (.move (.tmp 25)), none⟩, ⟨12, some 27, (.build 42 #[]), (some (26, true))⟩, ⟨13, some 28, (.call { callee := .value (.func 28), args := #[.tmp 27], argTypes := #[42] }), (some (26, true))⟩, ⟨14, some 29, (.binOp .eql 26 (.tmp 28) (.const (Value.int .i64 6)) 26), (some (26, true))⟩, ⟨15, some 30, (.pick (.tmp 26) (.tmp 29) (.const (Value.bool false))), none⟩, ⟨16, some 0, (.assign (.tmp 30)), none⟩]) .ret))))
theorem comp26 : ∀ c, Tryd.f26.body = some c → comp c = cc26 := by
  intro c h
  have : c = Tryd.f26.body.get rfl := by rw [← Option.some_inj, ← h]; rfl
  rw [this]; rfl
theorem segE_zero {n : Int} {x : List Sp} (h : segE n x = 0) : opMayF x = 0 ∧ inW x = n ∧ outW x ≤ 1048576 ∧ isN x = true := by
  unfold segE at h
  by_cases h1 : opMayF x = 0
  · rw [if_neg (by simp [h1])] at h
    by_cases h2 : inW x = n
    · rw [if_neg (by simp [h2])] at h
      by_cases h3 : 1048576 < outW x
      · rw [if_pos h3] at h; cases h
      · rw [if_neg h3] at h
        cases h4 : isN x with
        | true => exact ⟨h1, h2, by omega, rfl⟩
        | false => rw [h4] at h; cases h
    · rw [if_pos h2] at h; cases h
  · rw [if_pos h1] at h; exact absurd h h1
theorem segE_of {n : Int} {x : List Sp} (h1 : opMayF x = 0) (h2 : inW x = n) (h3 : outW x ≤ 1048576) (h4 : isN x = true) : segE n x = 0 := by
  unfold segE; rw [if_neg (by simp [h1]), if_neg (by simp [h2]), if_neg (by omega), if_pos h4]
theorem allG_good : ∀ (l : List (List Sp)) (n : Int) (t : ByteArray), validD t.data.toList = true → countD t.data.toList = n → segsE n l = 0 → (∀ x ∈ l, x.length ≤ 100000000) → t.size + totb l ≤ 1000000000 →
    ∃ u, allG l t = (0, u) ∧ validD u.data.toList = true ∧ countD u.data.toList = endN n l ∧ u.size ≤ t.size + totb l
  | [], n, t, hv, hc, _, _, _ => ⟨t, rfl, hv, hc, by simp [totb]⟩
  | x :: l, n, t, hv, hc, hs, hx, hb => by
    have h0 : segE n x = 0 := by
      simp only [segsE] at hs
      by_cases h : segE n x = 0
      · exact h
      · rw [if_neg h] at hs; exact absurd hs h
    simp only [segsE] at hs
    rw [if_pos h0] at hs
    obtain ⟨a1, a2, a3, a4⟩ := segE_zero h0
    rw [totb_cons] at hb
    have hz : toE x t = 0 := toE_of a1 hv (by rw [a2, ← hc, countD_pts hv])
    obtain ⟨b1, b2, b3, b4⟩ := toT_facts hz (by have := hx x (by simp); omega) (by omega)
    obtain ⟨u, c1, c2, c3, c4⟩ := allG_good l (outW x) (toT x t) b1 (by rw [countD_pts b1, b3]) hs (fun y hy => hx y (by simp [hy])) (by omega)
    refine ⟨u, ?_, c2, c3, by rw [totb_cons]; omega⟩
    simp only [allG]; rw [if_pos hz]; exact c1
theorem allG_app : ∀ (a b : List (List Sp)) (t : ByteArray), (allG a t).1 = 0 → allG (a ++ b) t = allG b (allG a t).2
  | [], b, t, _ => rfl
  | x :: a, b, t, h => by
    rw [List.cons_append]
    simp only [allG] at h ⊢
    by_cases h0 : toE x t = 0
    · rw [if_pos h0] at h ⊢; rw [if_pos h0]; exact allG_app a b _ h
    · rw [if_neg h0] at h; exact absurd h h0
theorem chE_zero {c : Lg} (h : chE c = 0) : validD c.base.data.toList = true ∧ countD c.base.data.toList ≤ 1048576 ∧ rises c.revs = true ∧ c.revs.length = c.segs.length + 1 ∧ segsE (countD c.base.data.toList) c.segs = 0 := by
  unfold chE at h
  by_cases h1 : countD c.base.data.toList < 0
  · rw [if_pos h1] at h; cases h
  · rw [if_neg h1] at h
    by_cases h2 : 1048576 < countD c.base.data.toList
    · rw [if_pos h2] at h; cases h
    · rw [if_neg h2] at h
      by_cases h3 : rPutE c.revs ≠ 0 ∨ c.revs.length ≠ c.segs.length + 1
      · rw [if_pos h3] at h; cases h
      · rw [if_neg h3] at h
        refine ⟨?_, by omega, ?_, by omega, h⟩
        · cases hv : validD c.base.data.toList with
          | true => rfl
          | false => rw [countD_bad hv] at h1; omega
        · cases hr : rises c.revs with
          | true => rfl
          | false => exact absurd (.inl (by unfold rPutE; rw [hr]; decide)) h3
theorem chE_of {c : Lg} (h1 : validD c.base.data.toList = true) (h2 : countD c.base.data.toList ≤ 1048576) (h3 : rises c.revs = true) (h4 : c.revs.length = c.segs.length + 1) (h5 : segsE (countD c.base.data.toList) c.segs = 0) : chE c = 0 := by
  have : 0 ≤ countD c.base.data.toList := by rw [countD_pts h1]; omega
  unfold chE
  rw [if_neg (by omega), if_neg (by omega), if_neg, h5]
  rintro (h | h)
  · apply h; unfold rPutE; rw [h3]; rfl
  · exact h h4
theorem segsE_take {l : List (List Sp)} {n : Int} (h : segsE n l = 0) (i : Nat) : segsE n (l.take i) = 0 ∧ segsE (endN n (l.take i)) (l.drop i) = 0 := by
  have e := segsE_app (l.take i) (l.drop i) n
  rw [List.take_append_drop, h] at e
  by_cases h0 : segsE n (l.take i) = 0
  · rw [if_pos h0] at e; exact ⟨h0, e.symm⟩
  · rw [if_neg h0] at e; exact absurd e.symm h0
def atT (c : Lg) (i : Nat) : ByteArray := (allG (c.segs.take i) c.base).2
theorem at_good {c : Lg} (h : chE c = 0) (hx : ∀ x ∈ c.segs, x.length ≤ 100000000) (hb : c.base.size + totb c.segs ≤ 1000000000) (i : Nat) : allG (c.segs.take i) c.base = (0, atT c i) ∧ validD (atT c i).data.toList = true ∧ countD (atT c i).data.toList = endN (countD c.base.data.toList) (c.segs.take i) ∧ (atT c i).size ≤ c.base.size + totb c.segs := by
  obtain ⟨h1, h2, h3, h4, h5⟩ := chE_zero h
  have := totb_take c.segs i
  obtain ⟨u, c1, c2, c3, c4⟩ := allG_good (c.segs.take i) _ c.base h1 rfl (segsE_take h5 i).1 (fun x hx' => hx x (List.mem_of_mem_take hx')) (by omega)
  have : atT c i = u := by unfold atT; rw [c1]
  rw [this]
  exact ⟨c1, c2, c3, by omega⟩
theorem atR_good {c : Lg} (h : chE c = 0) (hx : ∀ x ∈ c.segs, x.length ≤ 100000000) (hb : c.base.size + totb c.segs ≤ 1000000000) {i : Nat} (hi : i ≤ c.segs.length) : atR c i = (0, atT c i) := by
  unfold atR
  rw [if_neg (by simp [h]), if_neg (by omega), Int.toNat_natCast, allR_ok, (at_good h hx hb i).1]
  rintro ⟨_, e⟩
  rw [(chE_zero h).1] at e; cases e
theorem at_ok {c : Lg} (hc : LgS c) (h : chE c = 0) (hb : c.base.size + totb c.segs ≤ 1000000000) {i : Nat} (hi : i ≤ c.segs.length) : CallW env 29 [lgA c, .v (.int .i64 i)] (fun r hs => r = .tup [.v (.string (atT c i)), .v (.int .i64 0)] ∧ hs = []) := by
  have := at_call c i hc hb
  unfold atA at this
  rwa [atR_good h (fun x hx => (hc.2.2.2 x hx).1) hb hi] at this
theorem endN_le : ∀ (l : List (List Sp)) (n : Int), segsE n l = 0 → n ≤ 1048576 → endN n l ≤ 1048576
  | [], n, _, h => h
  | x :: l, n, hs, h => by
    simp only [segsE] at hs
    by_cases h0 : segE n x = 0
    · rw [if_pos h0] at hs
      exact endN_le l _ hs (segE_zero h0).2.2.1
    · rw [if_neg h0] at hs; exact absurd hs h0
theorem risesG_low : ∀ (l : List Int) (was w : Int), w ≤ was → risesG was l = true → risesG w l = true
  | [], _, _, _, _ => rfl
  | y :: l, was, w, hw, h => by
    simp only [risesG, Bool.and_eq_true, decide_eq_true_eq] at h ⊢
    exact ⟨⟨by omega, h.1.2⟩, h.2⟩
theorem risesG_drop : ∀ (k : Nat) (l : List Int) (was : Int), -1 ≤ was → risesG was l = true → risesG (-1) (l.drop k) = true
  | 0, l, was, hw, h => risesG_low l was (-1) hw h
  | k + 1, [], _, _, _ => rfl
  | k + 1, y :: l, was, hw, h => by
    simp only [risesG, Bool.and_eq_true, decide_eq_true_eq] at h
    rw [List.drop_succ_cons]
    exact risesG_drop k l y (by omega) h.2
theorem rises_of {l : List Int} (h0 : l ≠ []) (h1 : l.length ≤ 65536) (h2 : risesG (-1) l = true) : rises l = true := by
  unfold rises; rw [h2, decide_eq_true h1]
  cases l with
  | nil => exact absurd rfl h0
  | cons x l => rfl
theorem rises_cut {l : List Int} (h : rises l = true) {k : Nat} (hk : k < l.length) : rises (l.take (k + 1)) = true ∧ rises (l.drop k) = true := by
  unfold rises at h
  simp only [Bool.and_eq_true, decide_eq_true_eq] at h
  refine ⟨rises_of ?_ (by rw [List.length_take]; omega) (risesG_take _ _ _ h.2), rises_of ?_ (by rw [List.length_drop]; omega) (risesG_drop k l (-1) (by omega) h.2)⟩
  · intro e; have := congrArg List.length e; rw [List.length_take, List.length_nil] at this; omega
  · intro e; have := congrArg List.length e; rw [List.length_drop, List.length_nil] at this; omega
theorem cut_good {c : Lg} (h : chE c = 0) (hx : ∀ x ∈ c.segs, x.length ≤ 100000000) (hb : c.base.size + totb c.segs ≤ 1000000000) {k : Nat} (hk : k ≤ c.segs.length) :
    chE ⟨c.base, c.revs.take (k + 1), c.segs.take k⟩ = 0 ∧ chE ⟨atT c k, c.revs.drop k, c.segs.drop k⟩ = 0 ∧ atT ⟨atT c k, c.revs.drop k, c.segs.drop k⟩ (c.segs.length - k) = atT c c.segs.length ∧ atT ⟨c.base, c.revs.take (k + 1), c.segs.take k⟩ k = atT c k := by
  obtain ⟨h1, h2, h3, h4, h5⟩ := chE_zero h
  obtain ⟨g1, g2, g3, g4⟩ := at_good h hx hb k
  obtain ⟨s1, s2⟩ := segsE_take h5 k
  obtain ⟨r1, r2⟩ := rises_cut h3 (k := k) (by omega)
  have hend := endN_le (c.segs.take k) _ s1 h2
  refine ⟨chE_of h1 h2 r1 (by simp only [List.length_take]; omega) s1, chE_of g2 (by rw [g3]; exact hend) r2 (by simp only [List.length_drop]; omega) (by show segsE (countD (atT c k).data.toList) _ = 0; rw [g3]; exact s2), ?_, ?_⟩
  · show (allG ((c.segs.drop k).take (c.segs.length - k)) (atT c k)).2 = (allG (c.segs.take c.segs.length) c.base).2
    rw [List.take_of_length_le (by simp), List.take_length]
    have := allG_app (c.segs.take k) (c.segs.drop k) c.base (by rw [g1])
    rw [List.take_append_drop] at this
    rw [this]; rfl
  · show (allG ((c.segs.take k).take k) c.base).2 = _
    rw [List.take_take, Nat.min_self]; rfl
theorem norm_seg {x : List Sp} (h : opMayF x = 0) (hl : x.length ≤ 1000000000) (ho : outW x ≤ 1048576) : segE (inW x) (norm x) = 0 := by
  obtain ⟨h3, h4⟩ := (opMay_iff x).1 h
  exact segE_of (norm_may h hl) (norm_in h hl) (by rw [norm_out h hl]; exact ho) (norm_isN x h3 (by rw [← inW_sum h3 hl]; exact h4))
theorem chn_segs : ∀ (W : List (List Sp)) (n : Int), Chn n W → segsE n (W.map norm) = 0
  | [], _, _ => rfl
  | x :: W, n, ⟨⟨y, m, e, m1, m2⟩, hin, hr⟩ => by
    have h1 : opMayF x = 0 := by rw [e]; exact fitO_may y (by omega)
    have h2 : x.length ≤ 13 := by rw [e]; exact (fit_tbs y (by omega)).1
    have h3 : outW x ≤ 1048576 := by rw [e]; have := (fit_out y (n := m) (by omega)).2; omega
    have h4 := norm_seg h1 (by omega) h3
    rw [hin] at h4
    rw [List.map_cons]
    simp only [segsE]
    rw [if_pos h4, norm_out h1 (by omega)]
    exact chn_segs W _ hr
theorem rises_range : ∀ n : Nat, n ≤ 1000 → rises ((List.range (n + 1)).map fun (i : Nat) => (i : Int)) = true := by
  have key : ∀ n : Nat, n ≤ 1001 → risesG (-1) ((List.range n).map fun (i : Nat) => (i : Int)) = true ∧ lastI (-1) ((List.range n).map fun (i : Nat) => (i : Int)) = (n : Int) - 1 := by
    intro n
    induction n with
    | zero => intro _; exact ⟨rfl, rfl⟩
    | succ n ih =>
      intro h
      obtain ⟨a, b⟩ := ih (by omega)
      have e : ((List.range (n + 1)).map fun (i : Nat) => (i : Int)) = ((List.range n).map fun (i : Nat) => (i : Int)) ++ [(n : Int)] := by rw [List.range_succ, List.map_append]; rfl
      rw [e, risesG_snoc, lastI_snoc, a, b]
      refine ⟨?_, by omega⟩
      simp only [Bool.true_and, Bool.and_eq_true, decide_eq_true_eq]; omega
  intro n hn
  refine rises_of ?_ (by simp; omega) (key (n + 1) (by omega)).1
  intro e; have := congrArg List.length e; simp at this
theorem fit_good (t : ByteArray) (l : List (List Sp)) : chE (fitL' t l) = 0 ∧ LgS (fitL' t l) ∧ (fitL' t l).base.size ≤ 4000 ∧ totb (fitL' t l).segs ≤ 10000 ∧ (fitL' t l).segs.length ≤ 20 := by
  have hs20 : (t.extract 0 (min t.size 20)).size ≤ 20 := by rw [ByteArray.size_extract]; omega
  have hb := fit_size (t.extract 0 (min t.size 20)) (by omega)
  have hv := fit_valid (t.extract 0 (min t.size 20))
  have hc := fit_count (t.extract 0 (min t.size 20))
  have hW := chO_chn l (n := countD (fitS (t.extract 0 (min t.size 20))).data.toList) (by omega)
  have hN : ∀ x ∈ chO l (countD (fitS (t.extract 0 (min t.size 20))).data.toList), (norm x).length ≤ 13 ∧ tbs (norm x) ≤ 312 := by
    intro x hx
    obtain ⟨y, m, rfl, m1, m2⟩ := chn_mem hW.1 x hx
    exact (fit_norm y (by omega)).2
  have htb : ∀ W : List (List Sp), (∀ x ∈ W, tbs (norm x) ≤ 312) → totb (W.map norm) ≤ 312 * W.length := by
    intro W
    induction W with
    | nil => intro _; simp [totb]
    | cons x W ih =>
      intro h
      have h1 := h x (by simp)
      have h2 := ih (fun y hy => h y (by simp [hy]))
      rw [List.map_cons, totb_cons, List.length_cons, Nat.mul_succ]; omega
  unfold fitL'
  generalize fitS (t.extract 0 (min t.size 20)) = b at *
  simp only
  have h4 := htb _ (fun x hx => (hN x hx).2)
  have hs := chn_segs _ _ hW.1
  refine ⟨chE_of hv (by show countD b.data.toList ≤ _; omega) (rises_range _ (by omega)) (by simp) hs, ⟨by show b.size ≤ _; omega, by simp; omega, by simp; omega, ?_⟩, hb, by have := hW.2; show totb _ ≤ _; omega, by simp; exact hW.2⟩
  intro x hx
  obtain ⟨y, hy, rfl⟩ := List.mem_map.1 hx
  exact ⟨by have := (hN y hy).1; omega, tbs_small (by have := (hN y hy).2; omega)⟩
def shC : Lg := ⟨⟨#[97, 98]⟩, [0, 3], [[⟨1, 2, ⟨#[]⟩⟩, ⟨2, 0, ⟨#[99]⟩⟩]]⟩
theorem shC_may : chE shC = 0 := by decide
theorem shC_at : atR shC 1 = (0, ⟨#[97, 98, 99]⟩) := by decide
theorem shown16_call : CallW env 26 [] (fun r hs => r = .v (.bool true) ∧ hs = []) := by
  have hS : LgS shC := ⟨by decide, by decide, by decide, fun x hx => by simp [shC] at hx; subst hx; exact ⟨by decide, fun s hs => by simp at hs; rcases hs with rfl | rfl <;> decide⟩⟩
  have h1 := at_call shC 1 hS (by decide)
  unfold atA at h1; rw [shC_at] at h1
  have h2 := cmay_call shC hS
  rw [shC_may] at h2
  have hZ : LgS ⟨⟨#[]⟩, [], []⟩ := ⟨by decide, by decide, by decide, fun x hx => by cases hx⟩
  have h3 := (cmay_call ⟨⟨#[]⟩, [], []⟩ hZ).arg1 (Le.agg3 (Le.refl (.v (.string ⟨#[]⟩))) (Le.nil 1) (Le.nil 1))
  have h3e : chE ⟨⟨#[]⟩, [], []⟩ = 6 := by decide
  rw [h3e] at h3
  refine Ev.func tabOK [0, 1, 2, 3] 0 Tryd.func26 rfl rfl (by simp [Tryd.ntmps26]) (by rfl) (comp26 _ rfl) (rs := [.tmp 0]) rfl ?_; rw [cc26]; show Ev.Wp _ _ _ _ ⟨[], [], 0⟩
  repeat' (first | (((with_reducible refine Ev.br_pos ?_ ?_); focus (decide)); conv => whnf) | (((with_reducible refine Ev.br_neg ?_ ?_); focus (decide)); conv => whnf) | (((with_reducible refine Ev.c_pos ?_ ?_); focus (decide))) | (((with_reducible refine Ev.c_neg ?_ ?_); focus (decide))) | (with_reducible refine Ev.br_pos rfl ?_) | (with_reducible refine Ev.c_pos rfl ?_) | ((with_reducible first | refine Ev.sided ?_ ?_ | refine Ev.w_put ?_ | refine Ev.w_step ?_ | refine Ev.w_opt ?_); (conv => whnf)) | ((with_reducible refine Ev.chk_k ?_ ?_); rotate_left; (focus first | rfl | (simp only [Ev.nbeq, Bool.and_true, Bool.true_and, Bool.not_false]; done) | ((repeat' (first | exact Ev.nbeq _ | rfl | refine Bool.and_eq_true_iff.2 ⟨?_, ?_⟩)); done)); conv => whnf) | (with_reducible first | refine Ev.c_dec (fun _ => ?_) (fun _ => ?_) | refine Ev.c_not ?_ | refine Ev.c_t ?_ | refine Ev.c_f ?_ | refine Ev.c_br (fun _ => ?_) (fun _ => ?_)) | ((with_reducible refine Ev.br_not ?_); conv => whnf) | (with_reducible first | refine Ev.br_dec (fun _ => ?_) (fun _ => ?_) | refine Ev.br (fun _ => ?_) (fun _ => ?_) | refine Ev.eo_ret ?_ | refine Ev.eo_norm ?_ | refine Ev.t_norm ?_ | refine Ev.k_seq ?_) | ((with_reducible refine Ev.k_reg (hs := []) (tabOK' _ _) (fun Q hQ => ?_)); (simp only [Ev.runE_cons, Ev.runE_nil]); conv => whnf) | (with_reducible refine hQ _ ?_; clear hQ Q) | (with_reducible first | refine Ev.k_cond rfl ?_ | refine Ev.k_skip ?_ | refine Ev.k_block ?_ | refine Ev.k_exit ?_ | refine Ev.k_ret ?_ | refine Ev.t_ret ?_ | refine Ev.t_exit ?_ | refine Ev.b_norm ?_ | refine Ev.b_ret ?_ | refine Ev.b_here ?_ | refine Ev.b_off rfl ?_) | ((with_reducible first | refine Ev.e_ret (fun F hF => ?_) | refine Ev.e_norm (fun F hF => ?_) | refine Ev.eh_ret (fun F hF => ?_) | refine Ev.eh_norm (fun F hF => ?_) | refine Ev.go_k (fun c' => ?_) | refine Ev.byt_cut ?_ | refine Ev.byt_all ?_ | refine Ev.run_cut ?_ | refine Ev.run_all ?_); conv => whnf) | (with_reducible refine hF _ ?_; clear hF F) | (with_reducible refine Ev.u_step ?_) | ((first | refine Ev.call_det (h1) rfl rfl ?_ | refine Ev.call_det (h2) rfl rfl ?_ | refine Ev.call_det (h3) rfl rfl ?_); conv => whnf) | ((first | refine Ev.call_det (h1) ?_ rfl ?_ | refine Ev.call_det (h2) ?_ rfl ?_ | refine Ev.call_det (h3) ?_ rfl ?_); (focus (repeat' (first | with_reducible rfl | refine Ev.cons_eq ?_ ?_)) <;> (first | rfl | (refine Ev.lst_eq (Ev.take_all ?_ rfl); first | omega | (simp; done) | (simp; omega)) | (refine Ev.int_eq ?_; omega) | (simp; done))); conv => whnf) | ((refine Ev.el_map0 ?_ (fun hi => ?_)); rotate_left; conv => whnf) | ((refine Ev.el_mapN ?_ (fun hi => ?_)); rotate_left; conv => whnf) | (refine Ev.Side.of ?_; exact Nat.le_of_ble_eq_true rfl) | (refine Ev.Side.of ?_; omega) | (refine Ev.Side.of ?_; simp only [Ev.wrap64]; omega) | (refine Ev.app_one ?_ rfl ?_ (by decide) <;> (first | omega | (simp; done) | (simp; omega))) | (refine Ev.app_nil1 rfl (by decide)) | (refine Ev.app_ys ?_ ?_ ?_ (by decide) <;> (first | omega | exact sps_all _ | exact bts_all _ | exact ints_all _ | exact spss_all _ | (simp; done) | (simp; omega))) | (refine Ev.app_nil ?_ ?_ (by decide) <;> (first | omega | exact sps_all _ | exact bts_all _ | exact ints_all _ | exact spss_all _ | (simp; done) | (simp; omega))) | (refine Ev.Side.of ?_; first | omega | (simp; done) | (simp; omega)))
  exact ⟨rfl, rfl⟩
end Go.Proofs.YthdjbgbfboppcaaDoor.Abs
