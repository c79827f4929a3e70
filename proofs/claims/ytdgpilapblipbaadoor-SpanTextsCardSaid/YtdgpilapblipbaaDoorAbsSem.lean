/- A calculus over values: an operation, a call or a store among them, in the machine. -/
import Derived.Test.YtdgpilapblipbaaDoorAbsCall
namespace Go.Proofs.YtdgpilapblipbaaDoor.Abs
open Go Go.RowKit
set_option linter.unusedVariables false
set_option linter.unusedSimpArgs false

/-- A store. -/
def storew (E : Env) (t : TypeId) (p x : AV) (s : St) (K : St → Prop) : Prop :=
  match p, tsz E.P t with
  | .ptr r v i o, some (_, n) =>
    match get s.hp r with
    | some k =>
      if k.box then
        (match cellsOf x, k.es[i]? with
        | some cs, some e => k.ver = v ∧ cs.length = n ∧ o + n ≤ k.sz ∧ k.frz ≤ i ∧ K { s with hp := set s.hp r { k with es := k.es.set i (withCells e o cs) } }
        | _, _ => False)
      else s.pure x fun y s' =>
        (match get s'.hp r with
        | some k => (match cellsOf y, k.es[i]? with
          | some cs, some e => k.box = false ∧ k.ver = v ∧ cs.length = n ∧ o + n ≤ k.sz ∧ k.frz ≤ i ∧ K { s' with hp := set s'.hp r { k with es := k.es.set i (withCells e o cs) } }
          | _, _ => False)
        | none => False)
    | none => False
  | _, _ => False

section
variable {E : Env} {M0 : Mem} {w0 : World} {c : Nat} {M : Mem} {J : Locs} {s : St} {tm : Array Value} {w : World} {K : AV → St → Prop} {ds : List Deferred} {nm ver : Nat}

theorem Inv.bare (inv : Inv E M0 w0 c M J s tm w) : Inv E M0 w0 c M J ⟨[], s.hp, 0⟩ #[] w :=
  { inv with slot := fun t x h => by simp [get_nil, get_cons] at h }

theorem Inv.env {E' : Env} (h : E'.G = E.G) (inv : Inv E M0 w0 c M J s tm w) : Inv E' M0 w0 c M J s tm w :=
  { inv with glob := fun g cs hg => inv.glob g cs (by rw [← h]; exact hg) }

theorem arr1 {α : Type} {xs : Array α} {a : α} (h : xs.toList = [a]) : xs = #[a] := by cases xs; simp at h; subst h; rfl
theorem arr2 {α : Type} {xs : Array α} {a b : α} (h : xs.toList = [a, b]) : xs = #[a, b] := by cases xs; simp at h; subst h; rfl

theorem args_val (inv : Inv E M0 w0 c M J s tm w) {args : Array Operand} {as : List AV} (h : operA E s args.toList = some as) :
    (args.map (Act.eval ⟨tm, ds⟩)).size = as.length ∧ ∀ (i : Nat) (x : AV) (v : Value), as[i]? = some x → (args.map (Act.eval ⟨tm, ds⟩))[i]? = some v → Rel M J x v := by
  obtain ⟨h1, h2⟩ := operA_rel inv (ds := ds) h
  refine ⟨by simp [h1], fun i x v hx hv => ?_⟩
  obtain ⟨o, ho, hr⟩ := h2 i x hx
  rw [Array.getElem?_toList] at ho
  rw [Array.getElem?_map, ho] at hv
  obtain rfl := Option.some.inj hv
  exact hr

theorem rows_append {R : AV → Value → Prop} {a b : List AV} {va vb : Array Value} (ha : va.size = a.length) (h1 : ∀ (i : Nat) (x : AV) (v : Value), a[i]? = some x → va[i]? = some v → R x v)
    (h2 : ∀ (i : Nat) (x : AV) (v : Value), b[i]? = some x → vb[i]? = some v → R x v) :
    ∀ (i : Nat) (x : AV) (v : Value), (a ++ b)[i]? = some x → (va ++ vb)[i]? = some v → R x v := by
  intro i x v hx hv
  rcases Nat.lt_or_ge i a.length with h | h
  · rw [List.getElem?_append_left h] at hx
    rw [Array.getElem?_append_left (by omega)] at hv
    exact h1 i x v hx hv
  · rw [List.getElem?_append_right h] at hx
    rw [Array.getElem?_append_right (by omega), ha] at hv
    exact h2 _ x v hx hv

theorem op_wp (inv : Inv E M0 w0 c M J s tm w) (hv : c ≤ ver) {o : Oper} (hst : ∀ t a b, o.op ≠ .store t a b) (h : opw E nm ver o.op s K) {next : Act → World → Prop} {Q : Exit → Act → World → Prop}
    (hn : ∀ v w' M' J' x s' c', K x s' → Inv E M0 w0 c' M' J' s' tm w' → Rel M' J' x v → (c' ≤ c ∧ s'.ctr = s.ctr ∨ c' ≤ s'.ctr) → next ((⟨tm, ds⟩ : Act).put o.dst v) w') :
    o.wp E.P ⟨tm, ds⟩ w next Q := by
  by_cases hp : ∃ f, o.op = .call f
  case neg =>
    obtain ⟨v, w', M', J', x, s', c', e, hk, hi, hr, _, _, hc⟩ := opw_goes (ds := ds) inv hv ⟨fun f h => hp ⟨f, h⟩, hst⟩ h
    unfold Oper.wp
    rw [e]
    exact hn v w' M' J' x s' _ hk hi hr (by omega)
  case pos =>
    obtain ⟨cl, hcl⟩ := hp
    rw [hcl] at h
    simp only [opw] at h
    have same : ∀ {v : Value} {x : AV}, K x s → Rel M J x v → (do let d ← resolve (Act.eval ⟨tm, ds⟩) cl o.type; invoke d.target d.args).run E.P w = .ok (.value v) w → o.wp E.P ⟨tm, ds⟩ w next Q := by
      intro v x hk hr he
      unfold Oper.wp execOp
      rw [hcl]
      simp only
      rw [he]
      exact hn v w M J x s c hk inv hr (.inl ⟨Nat.le_refl _, rfl⟩)
    unfold callw at h
    split at h
    · -- len
      rename_i x t hcal hargs htys
      have ea := arr1 hargs; have et := arr1 htys
      split at h
      · rename_i a hx
        split at h
        · rename_i n hn'
          obtain ⟨ht, hk⟩ := h
          refine same hk (.pure (.v _)) ?_
          have := len_sound inv (ty := o.type) (inv.oper (ds := ds) hx) hn' ht
          simp [resolve, hcal, ea, et, invoke, builtin, this]
        · exact h.elim
      · exact h.elim
    · -- min
      rename_i x y hcal hargs
      have ea := arr2 hargs
      split at h
      · rename_i k a k' b hx hy
        refine same h (.pure (.v _)) ?_
        simp only [resolve, hcal, ea, invoke, builtin, Sem.run_bind, Sem.run_pure, Result.andThen_ok, List.map_toArray, List.map_cons, List.map_nil, (inv.oper (ds := ds) hx).v_inv, (inv.oper (ds := ds) hy).v_inv, Builtin.min_, List.foldlM_cons, List.foldlM_nil, Builtin.min2]
        congr 3
        rw [Int.min_def]; split <;> split <;> omega
      · exact h.elim
    · -- max
      rename_i x y hcal hargs
      have ea := arr2 hargs
      split at h
      · rename_i k a k' b hx hy
        refine same h (.pure (.v _)) ?_
        simp only [resolve, hcal, ea, invoke, builtin, Sem.run_bind, Sem.run_pure, Result.andThen_ok, List.map_toArray, List.map_cons, List.map_nil, (inv.oper (ds := ds) hx).v_inv, (inv.oper (ds := ds) hy).v_inv, Builtin.max_, List.foldlM_cons, List.foldlM_nil, Builtin.max2]
        congr 3
        rw [Int.max_def]; split <;> split <;> omega
      · exact h.elim
    · -- append
      rename_i x y t t' hcal hargs htys
      have ea := arr2 hargs; have et := arr2 htys
      have fin : ∀ {d : TypeDesc} {a : AV} {ys : List (List AV)}, oper E s x = some a → E.P.underlying t' = some d → (∀ k, d ≠ .int k) → appw E nm ver t s a ys K →
          (∀ n, 0 < n → (∀ z ∈ ys, z.length = n) → ∃ news, News E.P w n (Act.eval ⟨tm, ds⟩ y) ys.length news ∧ NewsOK M n ys news) → o.wp E.P ⟨tm, ds⟩ w next Q := by
        intro d a ys hx ht' hd ha hnews
        obtain ⟨v, w', J', z, s', e, hk, hi, hr, hJ, hc⟩ := app_sound inv hv (ty := o.type) ht' hd (inv.oper (ds := ds) hx) ha hnews
        unfold Oper.wp execOp
        rw [hcl]
        simp only [resolve, hcal, ea, et, invoke, builtin, Sem.run_bind, Sem.run_pure, Result.andThen_ok, List.map_toArray, List.map_cons, List.map_nil, e]
        exact hn v w' M J' z s' _ hk hi hr (.inr (by omega))
      split at h
      · rename_i a b hx hy
        obtain ⟨hu, ha⟩ := h
        refine fin hx hu (fun k h => by cases h) ha (fun n hn0 hlen => ?_)
        rw [(inv.oper (ds := ds) hy).v_inv]
        exact news_of_string b hn0 hlen
      · rename_i a b hb hx hy
        obtain ⟨hs, h⟩ := h
        obtain ⟨d, hu, hd⟩ := not_int hs
        split at h
        · rename_i ys hys
          exact fin hx hu hd h (fun n hn0 hlen => news_of_elems inv (inv.oper (ds := ds) hy) hys hn0 hlen)
        · exact h.elim
      · exact h.elim
    · -- a function
      rename_i f hcal
      split at h
      · rename_i g first caps as hf has
        obtain ⟨fs, cs, ef, hfs, hcs, h1, h2⟩ := (inv.oper (ds := ds) hf).clo_inv
        obtain ⟨hsz, hrel⟩ := args_val inv (ds := ds) has
        have hrows := rows_append (R := Rel M J) (a := first ++ as) (b := caps) (va := fs ++ cl.args.map (Act.eval ⟨tm, ds⟩)) (vb := cs) (by simp [hfs]; simpa using hsz) (rows_append (R := Rel M J) hfs h1 hrel) h2
        have hsize : (fs ++ cl.args.map (Act.eval ⟨tm, ds⟩) ++ cs).size = (first ++ as ++ caps).length := by
          have := hsz; simp only [Array.size_map] at this
          simp [hfs, hcs, this]
        have hres : (do let d ← resolve (Act.eval ⟨tm, ds⟩) cl o.type; invoke d.target d.args).run E.P w = (callFunc g (fs ++ cl.args.map (Act.eval ⟨tm, ds⟩) ++ cs)).run E.P w := by
          simp only [resolve, hcal, Sem.run_bind, Deferred.ofValue, ef, Sem.run_pure, Result.andThen_ok, invoke]
        rcases h with h | h
        · obtain ⟨ys, s1, M1, hcw, hs1, i1, hyl, hyr⟩ := Inv.pures (first ++ as ++ caps) (vs := (fs ++ cl.args.map (Act.eval ⟨tm, ds⟩) ++ cs).toList) inv (by simpa using hsize) (fun i x v hx hv => hrows i x v hx (by rw [← Array.getElem?_toList]; exact hv)) h
          obtain ⟨hent, hcalls⟩ := hcw M1 w (fs ++ cl.args.map (Act.eval ⟨tm, ds⟩) ++ cs) i1.mem i1.glob (by rw [hsize, hyl]) (fun i x v hx hv => hyr i x v hx (by rw [Array.getElem?_toList]; exact hv))
          unfold Oper.wp execOp
          rw [hcl]
          simp only
          have hent' : (callFunc g (fs ++ cl.args.map (Act.eval ⟨tm, ds⟩) ++ cs)).run E.P w = .ok (.enter g (fs ++ cl.args.map (Act.eval ⟨tm, ds⟩) ++ cs)) w := hent
          rw [hres, hent']
          rw [Oper.upon_enter]
          refine hcalls.mono ?_
          rintro e w' ⟨v, r, hs, M', J1, rfl, ⟨hl8, hfree, hk⟩, hi, hr⟩
          obtain ⟨J', hJ, hJ1, hsub, hi'⟩ := i1.merge hv hfree (Inv.env (E := E.base) (E' := E) rfl hi)
          exact hn v w' M' J' _ _ _ hk (Inv.ctrN (ver + hs.length) hi') (hr.shift hJ1) (.inr (Nat.le_refl _))
        · obtain ⟨hent, hcalls⟩ := h M0 w0 c M J w (fs ++ cl.args.map (Act.eval ⟨tm, ds⟩) ++ cs) (Inv.env (E := E) (E' := E.base) rfl inv.bare) hsize hrows
          unfold Oper.wp execOp
          rw [hcl]
          simp only
          have hent' : (callFunc g (fs ++ cl.args.map (Act.eval ⟨tm, ds⟩) ++ cs)).run E.P w = .ok (.enter g (fs ++ cl.args.map (Act.eval ⟨tm, ds⟩) ++ cs)) w := hent
          rw [hres, hent']
          rw [Oper.upon_enter]
          refine hcalls.mono ?_
          rintro e w' ⟨v, r, hp', c', M', J', rfl, hk, hi0, hr, hsub, hJ⟩
          have hi := Inv.env (E := E.base) (E' := E) rfl hi0
          refine hn v w' M' J' r { s with hp := hp', ctr := max c' (ver + 8) } (max c' (ver + 8)) (hk _ (by omega)) ?_ hr (.inr (Nat.le_refl _))
          refine { hi with slot := fun t x hx => ?_, vers := fun r L h => by have := hi.vers r L h; omega }
          obtain ⟨v, a1, a2⟩ := inv.slot t x hx
          exact ⟨v, a1, a2.mono hsub hJ⟩
      · exact h.elim
    · exact h.elim

theorem store_wp (inv : Inv E M0 w0 c M J s tm w) {o : Oper} {t : TypeId} {p x : Operand} {a b : AV} {K : St → Prop} (ho : o.op = .store t p x) (hp : oper E s p = some a) (hx : oper E s x = some b) (h : storew E t a b s K)
    {next : Act → World → Prop} {Q : Exit → Act → World → Prop}
    (hn : ∀ w' M' s', K s' → Inv E M0 w0 c M' J s' tm w' → s'.ctr = s.ctr → next ((⟨tm, ds⟩ : Act).put o.dst undef) w') : o.wp E.P ⟨tm, ds⟩ w next Q := by
  have core : ∀ {M : Mem} {s : St} (inv : Inv E M0 w0 c M J s tm w) {r v i oo n : Nat} {z : Option Value} {by' : Nat} {k : Blk} {e cs : List AV} {y : AV} {ux : Value},
      Rel M J (.ptr r v i oo) (Act.eval ⟨tm, ds⟩ p) → Act.eval ⟨tm, ds⟩ x = ux → ti E.P t = some (z, n, by') → get s.hp r = some k → k.ver = v → k.es[i]? = some e → Row M J cs ux.cells → (k.box = false → ∀ (j : Nat) (q : AV) (u : Value), cs[j]? = some q → ux.cells[j]? = some u → PRel M q u) →
      cs.length = n → oo + n ≤ k.sz → k.frz ≤ i → ∀ s', s' = { s with hp := set s.hp r { k with es := k.es.set i (withCells e oo cs) } } →
      ∃ w', (execOp (Act.eval ⟨tm, ds⟩) o).run E.P w = .ok .skip w' ∧ Inv E M0 w0 c M J s' tm w' := by
    intro M s inv r v i oo n z by' k e cs y ux hr hux hti hk hkv he hrow hpure hn ho' hf s' hs'
    obtain ⟨L, e1, hL, hN⟩ := hr.ptr_inv
    obtain ⟨L', C, hL', hb, ok⟩ := inv.heap r k hk
    rw [hkv, hL] at hL'; obtain rfl := Option.some.inj hL'
    have hblk := ok.blk hN
    have hi : i < k.es.length := (List.getElem?_eq_some_iff.1 he).1
    have hel := ok.len i e he
    have hcap : (i + 1) * k.sz ≤ L.cap * k.sz := Nat.mul_le_mul_right _ (by have := ok.fits; omega)
    rw [Nat.add_mul, Nat.one_mul] at hcap
    obtain ⟨r1, r2, r3⟩ := hrow
    have hone : ∀ u ∈ ux.cells.toList, u.oneCell' = true := by
      intro u hu
      obtain ⟨j, hj⟩ := List.getElem?_of_mem hu
      exact r2 j u (by simpa using hj)
    have hlenC : ux.cells.toList.length = n := by simp [r1, hn]
    have hst := run_storeCells_at E.P L.b (i * k.sz + oo) k.ty ux.cells.toList 0 C w hblk (by rw [hlenC, ok.size]; omega) hone
    simp only [Nat.add_zero] at hst
    have hrun : (execOp (Act.eval ⟨tm, ds⟩) o).run E.P w = .ok .skip (w.setRow L.b (C.toList.take (i * k.sz + oo) ++ ux.cells.toList ++ C.toList.drop (i * k.sz + oo + ux.cells.toList.length)).toArray) := by
      unfold execOp
      rw [ho]
      simp only [e1, hux, Instr.storeAt, Instr.sureAddr, Sem.run_bind, Sem.run_pure, Result.andThen_ok, storeVar, run_ti hti, ok.sz]
      rw [if_neg (by rw [r1, hn]; simp)]
      rw [hst]; rfl
    refine ⟨_, hrun, ?_⟩
    have hCl : (C.toList.take (i * k.sz + oo) ++ ux.cells.toList ++ C.toList.drop (i * k.sz + oo + ux.cells.toList.length)).length = C.size := by
      simp only [List.length_append, List.length_take, List.length_drop, Array.length_toList, hlenC, ok.size]
      have := r1; rw [hn] at this; omega
    have hCg : ∀ q : Nat, (C.toList.take (i * k.sz + oo) ++ ux.cells.toList ++ C.toList.drop (i * k.sz + oo + ux.cells.toList.length)).toArray[q]? =
        if i * k.sz + oo ≤ q ∧ q < i * k.sz + oo + n then ux.cells[q - (i * k.sz + oo)]? else C[q]? := by
      intro q
      simp only [List.getElem?_toArray, List.append_assoc]
      have htl : (C.toList.take (i * k.sz + oo)).length = i * k.sz + oo := by simp [ok.size]; omega
      by_cases h1 : q < i * k.sz + oo
      · rw [if_neg (by omega), List.getElem?_append_left (by omega), List.getElem?_take, if_pos h1]; simp
      · rw [List.getElem?_append_right (by omega), htl]
        by_cases h2 : q < i * k.sz + oo + n
        · rw [if_pos (by omega), List.getElem?_append_left (by omega)]; simp
        · rw [if_neg (by omega), List.getElem?_append_right (by omega), List.getElem?_drop, hlenC]
          have : i * k.sz + oo + n + (q - (i * k.sz + oo) - n) = q := by omega
          rw [this]; simp
    subst hs'
    refine inv.replace hk (by rw [hkv]; exact hL) ok (w' := w.setRow L.b _) rfl rfl rfl (by simp) (fun b hb' hne => setRow_other w L.b b _ (hne hN)) (fun _ q hq => ?_) (k' := { k with es := k.es.set i (withCells e oo cs) }) (L' := L) (SubJ.refl J) (by rw [hkv]; exact hL) inv.vers
      (C' := (C.toList.take (i * k.sz + oo) ++ ux.cells.toList ++ C.toList.drop (i * k.sz + oo + ux.cells.toList.length)).toArray) ?_ (fun _ => .inl ⟨hN, rfl, Nat.le_refl _⟩)
    · rw [cell_setRow_same w L.b q C _ _ _ hblk, cell_of_row w L.b q C _ _ hblk, hCg, if_neg]
      have : k.frz * k.sz ≤ i * k.sz := Nat.mul_le_mul_right _ hf
      omega
    · have hwl : (withCells e oo cs).length = k.sz := by simp [withCells]; omega
      refine ⟨fun _ => setRow_heap w L.b C _ _ _ hblk, ok.none, by rw [List.size_toArray, hCl]; exact ok.size, by simpa using ok.fits, by simpa using ok.frz, ok.sz, fun i' e' he' => ?_, fun i' e' j q he' hq => ?_, ok.cap⟩
      · rw [List.getElem?_set] at he'
        split at he'
        · obtain rfl := Option.some.inj he'; exact hwl
        · exact ok.len i' e' he'
      · change ∃ u, (C.toList.take (i * k.sz + oo) ++ ux.cells.toList ++ C.toList.drop (i * k.sz + oo + ux.cells.toList.length)).toArray[i' * k.sz + j]? = some u ∧ u.oneCell' = true ∧ CellRel M J k.box q u
        rw [List.getElem?_set] at he'
        split at he'
        · rename_i hii
          subst hii
          · obtain rfl := Option.some.inj he'
            have hj : j < k.sz := by rw [← hwl]; exact (List.getElem?_eq_some_iff.1 hq).1
            rw [withCells_get e oo cs (by omega)] at hq
            rw [hCg]
            split at hq
            · rename_i hc
              rw [if_pos (by omega)]
              obtain ⟨u, hu⟩ : ∃ u, ux.cells[j - oo]? = some u := ⟨_, Array.getElem?_eq_getElem (by rw [r1]; omega)⟩
              refine ⟨u, by rw [show i * k.sz + j - (i * k.sz + oo) = j - oo by omega]; exact hu, r2 _ u hu, ?_⟩
              unfold CellRel
              show if k.box = true then Rel M J q u else PRel M q u
              split
              · exact r3 _ q u hq hu
              · rename_i hb'; exact hpure (by simpa using hb') _ q u hq hu
            · rename_i hc
              rw [if_neg (by omega)]
              exact ok.cell i e j q he hq
        · rename_i hii
          obtain ⟨u, a1, a2, a3⟩ := ok.cell i' e' j q he' hq
          refine ⟨u, ?_, a2, a3⟩
          have hj : j < k.sz := by rw [← ok.len i' e' he']; exact (List.getElem?_eq_some_iff.1 hq).1
          rw [hCg, if_neg]
          · exact a1
          · rcases Nat.lt_or_ge i' i with h | h
            · have : (i' + 1) * k.sz ≤ i * k.sz := Nat.mul_le_mul_right _ h
              rw [Nat.add_mul] at this; omega
            · have : (i + 1) * k.sz ≤ i' * k.sz := Nat.mul_le_mul_right _ (by omega)
              rw [Nat.add_mul] at this; omega
  unfold storew at h
  split at h
  · rename_i r v i oo g n htz
    obtain ⟨d, z, by', hu, hti, hg⟩ := tsz_some htz
    split at h
    · rename_i k hk
      split at h
      · rename_i hbox
        split at h
        · rename_i cs e hc he
          obtain ⟨h1, h2, h3, h4, hK⟩ := h
          have hcr := cells_rel (inv.oper (ds := ds) hx) hc
          obtain ⟨w', hrun, hi⟩ := core inv (y := b) (inv.oper (ds := ds) hp) rfl hti hk h1 he ⟨hcr.1, hcr.2.1, hcr.2.2⟩ (fun hb => by rw [hbox] at hb; cases hb) h2 h3 h4 _ rfl
          unfold Oper.wp
          rw [hrun]
          exact hn w' M _ hK hi rfl
        · exact h.elim
      · obtain ⟨y, s1, M1, hK, hs1, i1, hy, hsc⟩ := inv.pure (inv.oper (ds := ds) hx) h
        split at hK
        · rename_i k' hk'
          split at hK
          · rename_i cs e hc he
            obtain ⟨hb, h1, h2, h3, h4, hK⟩ := hK
            have hcr := cells_rel (J := J) (.pure hy) hc
            have hcr0 := cells_rel (J := fun _ => none) (.pure hy) hc
            obtain ⟨w', hrun, hi⟩ := core i1 (y := y) ((inv.oper (ds := ds) hp).mono hs1 (SubJ.refl J)) rfl hti hk' h1 he ⟨hcr.1, hcr.2.1, hcr.2.2⟩ (fun _ j q u hq hu => (hcr0.2.2 j q u hq hu).pure0) h2 h3 h4 _ rfl
            unfold Oper.wp
            rw [hrun]
            exact hn w' M1 _ hK hi hsc
          · exact hK.elim
        · exact hK.elim
    · exact h.elim
  · exact h.elim
end
end Go.Proofs.YtdgpilapblipbaaDoor.Abs
