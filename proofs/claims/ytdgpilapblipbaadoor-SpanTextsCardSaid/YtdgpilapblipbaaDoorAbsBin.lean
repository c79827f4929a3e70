/- A calculus over values: operators and conversions. -/
import Derived.Test.YtdgpilapblipbaaDoorAbsOp
namespace Go.Proofs.YtdgpilapblipbaaDoor.Abs
open Go Go.RowKit
set_option linter.unusedVariables false
set_option linter.unusedSimpArgs false

section
variable {P : Program} {w : World}

theorem run_intw {op : BinOp} {t : TypeId} {k k' : IntKind} {a b : Int} {K : Value → Prop} (hk : k = k' ∨ op = .shl ∨ op = .shr) (h : intw op k a b K) (w : World) :
    ∃ v, (binOp op t (.int k a) (.int k' b)).run P w = .ok v w ∧ K v ∧ v.oneCell' = true := by
  cases op <;> simp only [intw] at h
  case add => obtain rfl : k = k' := by simpa using hk
              exact ⟨_, by simp [binOp, Op.intArith], h, rfl⟩
  case sub => obtain rfl : k = k' := by simpa using hk
              exact ⟨_, by simp [binOp, Op.intArith], h, rfl⟩
  case mul => obtain rfl : k = k' := by simpa using hk
              exact ⟨_, by simp [binOp, Op.intArith], h, rfl⟩
  case quo => obtain rfl : k = k' := by simpa using hk
              exact ⟨_, by simp [binOp, Op.intDiv, h.1], h.2, rfl⟩
  case rem => obtain rfl : k = k' := by simpa using hk
              exact ⟨_, by simp [binOp, Op.intDiv, h.1], h.2, rfl⟩
  case and => obtain rfl : k = k' := by simpa using hk
              exact ⟨_, by simp [binOp, Op.intBits, bitsOf], h, rfl⟩
  case or => obtain rfl : k = k' := by simpa using hk
             exact ⟨_, by simp [binOp, Op.intBits, bitsOf], h, rfl⟩
  case xor => obtain rfl : k = k' := by simpa using hk
              exact ⟨_, by simp [binOp, Op.intBits, bitsOf], h, rfl⟩
  case andNot => obtain rfl : k = k' := by simpa using hk
                 exact ⟨_, by simp [binOp, Op.intBits, bitsOf], h, rfl⟩
  case shl => exact ⟨_, by simp [binOp, Op.shift, show ¬ b < 0 by omega], h.2, rfl⟩
  case shr => exact ⟨_, by simp [binOp, Op.shift, show ¬ b < 0 by omega], h.2, rfl⟩
  case eql => obtain rfl : k = k' := by simpa using hk
              exact ⟨_, by simp [binOp, Op.intCmp]; rfl, h, rfl⟩
  case neq => obtain rfl : k = k' := by simpa using hk
              refine ⟨_, ?_, h, rfl⟩
              simp only [binOp, Op.intCmp, ne_eq, not_true_eq_false, if_false, Sem.run_pure]
              congr 2
              by_cases e : a = b <;> simp [e]
  case lss => obtain rfl : k = k' := by simpa using hk
              exact ⟨_, by simp [binOp, Op.intCmp], h, rfl⟩
  case leq => obtain rfl : k = k' := by simpa using hk
              exact ⟨_, by simp [binOp, Op.intCmp], h, rfl⟩
  case gtr => obtain rfl : k = k' := by simpa using hk
              exact ⟨_, by simp [binOp, Op.intCmp], h, rfl⟩
  case geq => obtain rfl : k = k' := by simpa using hk
              exact ⟨_, by simp [binOp, Op.intCmp], h, rfl⟩

theorem toList_inj {a b : ByteArray} : a.toList = b.toList ↔ a = b := by
  rw [ByteArray.toList_eq, ByteArray.toList_eq]
  constructor
  · intro h
    cases a; cases b
    simp only [ByteArray.mk.injEq]
    simpa using h
  · rintro rfl; rfl

theorem run_strw {op : BinOp} {t : TypeId} {a b : ByteArray} {K : Value → Prop} (h : strw op a b K) (w : World) :
    ∃ v, (binOp op t (.string a) (.string b)).run P w = .ok v w ∧ K v ∧ v.oneCell' = true := by
  cases op <;> simp only [strw] at h <;> try (exact h.elim)
  · refine ⟨_, ?_, h.2, rfl⟩
    have h1 := h.1
    unfold maxLen at h1
    simp only [binOp, Op.stringOp]
    rw [if_neg]
    · rfl
    · simp only [IntKind.max, IntKind.signed, IntKind.bits]; simp; omega
  · refine ⟨_, ?_, h, rfl⟩
    simp only [binOp, Op.stringOp, Sem.run_pure]
    congr 2
    rw [Bool.eq_iff_iff]; simp [toList_inj]
  · refine ⟨_, ?_, h, rfl⟩
    simp only [binOp, Op.stringOp, Sem.run_pure]
    congr 2
    rw [Bool.eq_iff_iff]; simp [toList_inj]

theorem run_eqGuard_one (op : BinOp) (t : TypeId) (x y : Operand) (a b : Value) (ha : a ≠ .nilIface) (h : ∀ cs, a ≠ .agg cs) (w : World) :
    (eqGuard op t x y a b).run P w = .ok () w := by
  unfold eqGuard
  cases a <;> first | exact absurd rfl ha | exact absurd rfl (h _) | (cases op <;> rfl)

theorem rel_agg3 {M : Mem} {J : Locs} {a b : Int} {x : ByteArray} {u : Value} (h : Rel M J (.agg [.v (.int .i64 a), .v (.int .i64 b), .v (.string x)]) u) :
    u = .agg #[.int .i64 a, .int .i64 b, .string x] := by
  obtain ⟨vs, rfl, hn, _, h2⟩ := h.agg_inv
  simp at hn
  obtain ⟨l⟩ := vs
  match l, hn with
  | [x0, x1, x2], _ =>
    have e0 := (h2 0 _ x0 rfl rfl).v_inv
    have e1 := (h2 1 _ x1 rfl rfl).v_inv
    have e2 := (h2 2 _ x2 rfl rfl).v_inv
    rw [e0, e1, e2]

theorem run_equal_ptr {t e : TypeId} (he : P.underlying t = some (.pointer e)) (a : Option Addr) (w : World) : (Op.equal t (.pointer a) (.pointer none)).run P w = .ok a.isNone w := by
  have key : ∀ d, (Op.equalIn (d + 1) t (.pointer a) (.pointer none)).run P w = .ok a.isNone w := by
    intro d
    simp only [Op.equalIn, Sem.run_bind, run_underlying he, Result.andThen_ok]
    cases a <;> rfl
  exact key 9999
theorem run_equal_bool {t : TypeId} (he : P.underlying t = some .bool) (a b : Bool) (w : World) : (Op.equal t (.bool a) (.bool b)).run P w = .ok (a == b) w := by
  have key : ∀ d, (Op.equalIn (d + 1) t (.bool a) (.bool b)).run P w = .ok (a == b) w := by
    intro d
    simp only [Op.equalIn, Sem.run_bind, run_underlying he, Result.andThen_ok, Sem.run_pure]
  exact key 9999

theorem run_binw {M : Mem} {J : Locs} {op : BinOp} {t : TypeId} {x y : AV} {u v : Value} {X Y : Operand} {K : Value → Prop} (hx : Rel M J x u) (hy : Rel M J y v) (h : binw P op t x y K) (w : World) :
    ∃ r, (do eqGuard op t X Y u v; binOp op t u v : Sem Value).run P w = .ok r w ∧ K r ∧ r.oneCell' = true := by
  have scal : ∀ {r : Value}, u ≠ .nilIface → (∀ cs, u ≠ .agg cs) → (binOp op t u v).run P w = .ok r w → (do eqGuard op t X Y u v; binOp op t u v : Sem Value).run P w = .ok r w := by
    intro r h1 h2 h3
    simp only [Sem.run_bind, run_eqGuard_one op t X Y u v h1 h2 w, Result.andThen_ok, h3]
  have ptrs : ∀ {a : Option Addr} {e : TypeId}, u = .pointer a → v = .pointer none → P.underlying t = some (.pointer e) →
      (op = .eql → (binOp op t u v).run P w = .ok (.bool a.isNone) w) ∧ (op = .neq → (binOp op t u v).run P w = .ok (.bool (!a.isNone)) w) := by
    intro a e e1 e2 he
    subst e1; subst e2
    refine ⟨fun ho => ?_, fun ho => ?_⟩ <;> subst ho
    · simp only [binOp, Sem.run_bind, run_equal_ptr he, Result.andThen_ok, Sem.run_pure]
    · simp only [binOp, Sem.run_bind, run_equal_ptr he, Result.andThen_ok, Sem.run_pure]
  have isp : ∀ {p : AV}, Rel M J p u → isPtr p = true → ∃ a, u = .pointer (some a) := by
    intro p hp hi
    cases p <;> simp [isPtr] at hi
    · have := hp.rptr_inv; cases this; exact ⟨_, rfl⟩
    · obtain ⟨L, rfl, _, _⟩ := hp.ptr_inv; exact ⟨_, rfl⟩
  unfold binw at h
  split at h
  · obtain rfl := hx.v_inv; obtain rfl := hy.v_inv
    obtain ⟨r, a, b, c⟩ := run_intw (P := P) (t := t) h.1 h.2 w
    exact ⟨r, scal (by simp) (by simp) a, b, c⟩
  · obtain rfl := hx.v_inv; obtain rfl := hy.v_inv
    obtain ⟨r, a, b, c⟩ := run_strw (P := P) (t := t) h w
    exact ⟨r, scal (by simp) (by simp) a, b, c⟩
  · obtain rfl := hx.v_inv; obtain rfl := hy.v_inv
    rename_i a b
    split at h
    · rename_i hu
      refine ⟨_, scal (by simp) (by simp) ?_, h, rfl⟩
      simp only [binOp, Sem.run_bind, run_equal_bool hu, Result.andThen_ok, Sem.run_pure]
    · rename_i hu
      refine ⟨_, scal (by simp) (by simp) ?_, h, rfl⟩
      simp only [binOp, Sem.run_bind, run_equal_bool hu, Result.andThen_ok, Sem.run_pure]
      cases a <;> cases b <;> rfl
    · exact h.elim
  · obtain rfl := rel_agg3 hx; obtain rfl := rel_agg3 hy
    rename_i a b s a' b' s'
    split at h
    · obtain ⟨he, hk⟩ := h
      refine ⟨_, ?_, hk, rfl⟩
      have := he a b a' b' s s' w
      simp only [Sem.run_bind, run_eqGuard_agg w .eql t X Y _ _ this.2, Result.andThen_ok, binOp, this.1, Sem.run_pure]
    · obtain ⟨he, hk⟩ := h
      refine ⟨_, ?_, hk, rfl⟩
      have := he a b a' b' s s' w
      simp only [Sem.run_bind, run_eqGuard_agg w .neq t X Y _ _ this.2, Result.andThen_ok, binOp, this.1, Sem.run_pure]
    · exact h.elim
  · obtain rfl := hx.v_inv; obtain rfl := hy.v_inv
    split at h
    · rename_i hu
      exact ⟨_, scal (by simp) (by simp) ((ptrs rfl rfl hu).1 rfl), h, rfl⟩
    · rename_i hu
      exact ⟨_, scal (by simp) (by simp) ((ptrs rfl rfl hu).2 rfl), h, rfl⟩
    · exact h.elim
  · obtain rfl := hy.v_inv
    split at h
    · rename_i hu
      obtain ⟨a, rfl⟩ := isp hx h.1
      exact ⟨_, scal (by simp) (by simp) ((ptrs rfl rfl hu).1 rfl), h.2, rfl⟩
    · rename_i hu
      obtain ⟨a, rfl⟩ := isp hx h.1
      exact ⟨_, scal (by simp) (by simp) ((ptrs rfl rfl hu).2 rfl), h.2, rfl⟩
    · exact h.elim
  · exact h.elim
end
end Go.Proofs.YtdgpilapblipbaaDoor.Abs
