/- A part of the proof: a calculus over values, and contracts of functions. No condition. -/
import Derived.Test.YtadlnaljicikfaaDoorZN0
import Derived.Deep.LoopGhost
import Derived.Scope
import Derived.ScopeJumps
import Derived.Orders
import Derived.Laws.StructEq
import Derived.ChangeKeysEq
import Derived.KernelRfl
set_option linter.unusedVariables false
set_option linter.unusedSimpArgs false
namespace Go.Proofs.YtadlnaljicikfaaDoor.aI
open Go Go.RowKit
def Au (E:Env) (t:TypeId) (p x:AV) (s:St) (K:St -> Prop):Prop :=
 match p,iK E.P t with
 | .ptr r v i o,some (_,n) =>
   match get s.hp r with
   | some k =>
     if k.box then
       (match cellsOf x,k.es[i]? with
       | some cs,some e=>k.ver = v /\ cs.length = n /\ o + n <= k.sz /\ k.fH <= i /\ K { s with hp:=set s.hp r { k with es:=k.es.set i (dN e o cs) } }
       | _,_=>False)
     else s.pure x fun y s' =>
       (match get s'.hp r with
       | some k=>(match cellsOf y,k.es[i]? with
         | some cs,some e=>k.box = false /\ k.ver = v /\ cs.length = n /\ o + n <= k.sz /\ k.fH <= i /\ K { s' with hp:=set s'.hp r { k with es:=k.es.set i (dN e o cs) } }
         | _,_=>False)
       | none=>False)
   | none=>False
 | _,_=>False
section
variable {E:Env} {M0:qV} {w0:World} {c:Nat} {M:Mem} {J:bJ} {s:St} {tm:Array Value} {w:World} {K:AV -> St -> Prop} {ds:List Deferred} {nm ver:Nat}
theorem Inv.bare (inv:Inv E M0 w0 c M J s tm w):Inv E M0 w0 c M J ⟨[],s.hp,0⟩ #[] w :=
 { inv with slot:=fun t x h=>by simp [get_nil,au] at h }
theorem Inv.env {E':Env} (h:E'.G = E.G) (inv:Inv E M0 w0 c M J s tm w):Inv E' M0 w0 c M J s tm w :=
 { inv with glob:=fun g cs hg=>inv.glob g cs (by rw [<- h];exact hg) }
theorem arr1 {α:Type} {xs:Array α} {a:α} (h:xs.toList = [a]):xs = #[a]:=by cases xs;simp at h;subst h;rfl
theorem MO {α:Type} {xs:Array α} {a b:α} (h:xs.toList = [a,b]):xs = #[a,b]:=by cases xs;simp at h;subst h;rfl
theorem Qe (inv:Inv E M0 w0 c M J s tm w) {args:Array Operand} {as:List AV} (h:rG E s args.toList = some as) :
   (args.map (Act.eval ⟨tm,ds⟩)).size = as.length /\ ∀ (i:Nat) (x:AV) (v:Value),as[i]? = some x -> (args.map (Act.eval ⟨tm,ds⟩))[i]? = some v -> Rel M J x v:=by
 obtain ⟨h1,h2⟩:=sU inv (ds:=ds) h
 refine ⟨by simp [h1],fun i x v hx hv=>?_⟩
 obtain ⟨o,ho,hr⟩:=h2 i x hx
 rw [Array.getElem?_toList] at ho
 rw [Array.getElem?_map,ho] at hv
 obtain rfl:=Option.some.inj hv
 exact hr
theorem rH {R:AV -> Value -> Prop} {a b:List AV} {va vb:Array Value} (ha:va.size = a.length) (h1:∀ (i:Nat) (x:AV) (v:Value),a[i]? = some x -> va[i]? = some v -> R x v)
   (h2:∀ (i:Nat) (x:AV) (v:Value),b[i]? = some x -> vb[i]? = some v -> R x v) :
   ∀ (i:Nat) (x:AV) (v:Value),(a ++ b)[i]? = some x -> (va ++ vb)[i]? = some v -> R x v:=by
 intro i x v hx hv
 rcases Nat.lt_or_ge i a.length with h | h
 · rw [List.getElem?_append_left h] at hx
   rw [Array.getElem?_append_left (by omega)] at hv
   exact h1 i x v hx hv
 · rw [List.getElem?_append_right h] at hx
   rw [Array.getElem?_append_right (by omega),ha] at hv
   exact h2 _ x v hx hv
theorem abj{G:Prop}(h:G:=by
 unfold Oper.wp execOp
 rw [hcl]
 simp only
 have acY:(callFunc g (fs ++ cl.args.map (Act.eval ⟨tm,ds⟩) ++ cs)).run E.P w = .ok (.enter g (fs ++ cl.args.map (Act.eval ⟨tm,ds⟩) ++ cs)) w:=hent
 rw [hres,acY]
 rw [Oper.upon_enter]
 refine Qg.mono ?_
 all_goals(rcases(⟨_⟩:PLift _)with⟨h⟩;exact h)):G:=h
theorem abu{G:Prop}(h:G:=by
 unfold Oper.wp execOp
 rw [hcl]
 simp only [resolve,zG,ea,et,invoke,builtin,Sem.run_bind,Sem.run_pure,Result.andThen_ok,List.map_toArray,List.map_cons,List.map_nil,e1]
 exact hn _ w' M J _ _ c hK e2 (.pure (.v _)) (.inl ⟨Nat.le_refl _,rfl⟩)):G:=h
theorem acZ (inv:Inv E M0 w0 c M J s tm w) (hv:c <= ver) {o:Oper} (hst:∀ t a b,o.op ≠ .store t a b) (h:pY E nm ver o.op s K) {next:Act -> World -> Prop} {Q:Exit -> Act -> World -> Prop}
   (hn:∀ v w' M' J' x s' c',K x s' -> Inv E M0 w0 c' M' J' s' tm w' -> Rel M' J' x v -> (c' <= c /\ s'.ctr = s.ctr ∨ c' <= s'.ctr) -> next ((⟨tm,ds⟩:Act).put o.dst v) w') :
   o.wp E.P ⟨tm,ds⟩ w next Q:=by
 by_cases hp:∃ f,o.op = .call f
 case neg =>
   obtain ⟨v,w',M',J',x,s',c',e,hk,hi,hr,_,_,hc⟩:=Qd (ds:=ds) inv hv ⟨fun f h=>hp ⟨f,h⟩,hst⟩ h
   unfold Oper.wp
   rw [e]
   exact hn v w' M' J' x s' _ hk hi hr (by omega)
 case pos =>
   obtain ⟨cl,hcl⟩:=hp
   rw [hcl] at h
   simp only [pY] at h
   have same:∀ {v:Value} {x:AV},K x s -> Rel M J x v -> (do let d <- resolve (Act.eval ⟨tm,ds⟩) cl o.type;invoke d.target d.args).run E.P w = .ok (.value v) w -> o.wp E.P ⟨tm,ds⟩ w next Q:=by
     intro v x hk hr he
     unfold Oper.wp execOp
     rw [hcl]
     simp only
     rw [he]
     exact hn v w M J x s c hk inv hr (.inl ⟨Nat.le_refl _,rfl⟩)
   unfold Kz at h
   split at h
   · -- len
     rename_i x t zG hargs IJ
     have ea:=arr1 hargs;have et:=arr1 IJ
     split at h
     · rename_i a hx
       split at h
       · rename_i n hn'
         obtain ⟨ht,hk⟩:=h
         refine same hk (.pure (.v _)) ?_
         have:=MN inv (ty:=o.type) (inv.oper (ds:=ds) hx) hn' ht
         simp [resolve,zG,ea,et,invoke,builtin,this]
       · exact h.elim
     · exact h.elim
   · -- min
     rename_i x y zG hargs
     have ea:=MO hargs
     split at h
     · rename_i k a k' b hx hy
       refine same h (.pure (.v _)) ?_
       simp only [resolve,zG,ea,invoke,builtin,Sem.run_bind,Sem.run_pure,Result.andThen_ok,List.map_toArray,List.map_cons,List.map_nil,(inv.oper (ds:=ds) hx).bZ,(inv.oper (ds:=ds) hy).bZ,Builtin.min_,List.foldlM_cons,List.foldlM_nil,Builtin.min2]
       congr 3
       rw [Int.min_def];split <;> split <;> omega
     · exact h.elim
   · -- max
     rename_i x y zG hargs
     have ea:=MO hargs
     split at h
     · rename_i k a k' b hx hy
       refine same h (.pure (.v _)) ?_
       simp only [resolve,zG,ea,invoke,builtin,Sem.run_bind,Sem.run_pure,Result.andThen_ok,List.map_toArray,List.map_cons,List.map_nil,(inv.oper (ds:=ds) hx).bZ,(inv.oper (ds:=ds) hy).bZ,Builtin.max_,List.foldlM_cons,List.foldlM_nil,Builtin.max2]
       congr 3
       rw [Int.max_def];split <;> split <;> omega
     · exact h.elim
   · -- append
     rename_i x y t t' zG hargs IJ
     have ea:=MO hargs;have et:=MO IJ
     have fin:∀ {d:TypeDesc} {a:AV} {ys:List (List AV)},oper E s x = some a -> E.P.underlying t' = some d -> (∀ k,d ≠ .int k) -> IC E nm ver t s a ys K ->
         (∀ n,0 < n -> (∀ z ∈ ys,z.length = n) -> ∃ news,MI E.P w n (Act.eval ⟨tm,ds⟩ y) ys.length news /\ qm M n ys news) -> o.wp E.P ⟨tm,ds⟩ w next Q:=by
       intro d a ys hx ht' hd ha hnews
       obtain ⟨v,w',J',z,s',e,hk,hi,hr,hJ,hc⟩:=ML inv hv (ty:=o.type) ht' hd (inv.oper (ds:=ds) hx) ha hnews
       unfold Oper.wp execOp
       rw [hcl]
       simp only [resolve,zG,ea,et,invoke,builtin,Sem.run_bind,Sem.run_pure,Result.andThen_ok,List.map_toArray,List.map_cons,List.map_nil,e]
       exact hn v w' M J' z s' _ hk hi hr (.inr (by omega))
     split at h
     · rename_i a b hx hy
       obtain ⟨hu,ha⟩:=h
       refine fin hx hu (fun k h=>by cases h) ha (fun n hn0 hlen=>?_)
       rw [(inv.oper (ds:=ds) hy).bZ]
       exact Aq b hn0 hlen
     · rename_i a b hb hx hy
       obtain ⟨hs,h⟩:=h
       obtain ⟨d,hu,hd⟩:=UM hs
       split at h
       · rename_i ys hys
         exact fin hx hu hd h (fun n hn0 hlen=>uI inv (inv.oper (ds:=ds) hy) hys hn0 hlen)
       · exact h.elim
     · exact h.elim
   · -- copy
     rename_i x y t t' zG hargs IJ
     have ea:=MO hargs;have et:=MO IJ
     split at h
     · rename_i r v off len b e z n by' hx hy hs
       split at h
       · rename_i ys k hys hk
         obtain ⟨⟨h1,h2,h3,h4,h5,h6,h7⟩,hK⟩:=h
         obtain ⟨w',e1,e2⟩:=II inv (t':=t') (ty:=o.type) (inv.oper (ds:=ds) hx) (inv.oper (ds:=ds) hy) hys hk hs h1 h2 h3 h4 h5 h6 h7
         refine' abu
       · exact h.elim
     · exact h.elim
   · -- clear
     rename_i x t zG hargs IJ
     have ea:=arr1 hargs;have et:=arr1 IJ
     split at h
     · rename_i r v off len e z n by' hx hs
       split at h
       · rename_i k cs hk hc
         obtain ⟨⟨h1,h2,h3,h4,h5,h6⟩,hK⟩:=h
         obtain ⟨w',e1,e2⟩:=Gn inv (ty:=o.type) (inv.oper (ds:=ds) hx) hk hs hc h1 h2 h3 h4 h5 h6
         refine' abu
       · exact h.elim
     · exact h.elim
   · -- a function
     rename_i f zG
     split at h
     · rename_i g first caps as hf has
       obtain ⟨fs,cs,ef,hfs,hcs,h1,h2⟩:=(inv.oper (ds:=ds) hf).zQ
       obtain ⟨hsz,hrel⟩:=Qe inv (ds:=ds) has
       have hrows:=rH (R:=Rel M J) (a:=first ++ as) (b:=caps) (va:=fs ++ cl.args.map (Act.eval ⟨tm,ds⟩)) (vb:=cs) (by simp [hfs];simpa using hsz) (rH (R:=Rel M J) hfs h1 hrel) h2
       have hsize:(fs ++ cl.args.map (Act.eval ⟨tm,ds⟩) ++ cs).size = (first ++ as ++ caps).length:=by
         have:=hsz;simp only [Array.size_map] at this
         simp [hfs,hcs,this]
       have hres:(do let d <- resolve (Act.eval ⟨tm,ds⟩) cl o.type;invoke d.target d.args).run E.P w = (callFunc g (fs ++ cl.args.map (Act.eval ⟨tm,ds⟩) ++ cs)).run E.P w:=by
         simp only [resolve,zG,Sem.run_bind,Deferred.ofValue,ef,Sem.run_pure,Result.andThen_ok,invoke]
       rcases h with h | h
       · obtain ⟨ys,s1,M1,hcw,hs1,i1,hyl,hyr⟩:=Inv.nP (first ++ as ++ caps) (vs:=(fs ++ cl.args.map (Act.eval ⟨tm,ds⟩) ++ cs).toList) inv (by simpa using hsize) (fun i x v hx hv=>hrows i x v hx (by rw [<- Array.getElem?_toList];exact hv)) h
         obtain ⟨hent,Qg⟩:=hcw M1 w (fs ++ cl.args.map (Act.eval ⟨tm,ds⟩) ++ cs) i1.mem i1.glob (by rw [hsize,hyl]) (fun i x v hx hv=>hyr i x v hx (by rw [Array.getElem?_toList];exact hv))
         refine' abj
         rintro e w' ⟨v,r,hs,M',J1,rfl,⟨hl8,hfree,hk⟩,hi,hr⟩
         obtain ⟨J',hJ,hJ1,hsub,hi'⟩:=i1.merge hv hfree (Inv.env (E:=E.base) (E':=E) rfl hi)
         exact hn v w' M' J' _ _ _ hk (Inv.UL (ver + hs.length) hi') (hr.shift hJ1) (.inr (Nat.le_refl _))
       · obtain ⟨N,h⟩:=h
         obtain ⟨hent,Qg⟩:=h M0 w0 c M J w (fs ++ cl.args.map (Act.eval ⟨tm,ds⟩) ++ cs) (Inv.env (E:=E) (E':=E.base) rfl inv.bare) hsize hrows
         refine' abj
         rintro e w' ⟨v,r,hp',c',M',J',rfl,hk,hi0,hr,hsub,hJ⟩
         have hi:=Inv.env (E:=E.base) (E':=E) rfl hi0
         refine hn v w' M' J' r { s with hp:=hp',ctr:=max c' (ver + 8) } (max c' (ver + 8)) (hk _ (by omega)) ?_ hr (.inr (Nat.le_refl _))
         refine { hi with slot:=fun t x hx=>?_,vers:=fun r L h=>by have:=hi.vers r L h;omega }
         obtain ⟨v,a1,a2⟩:=inv.slot t x hx
         exact ⟨v,a1,a2.mono hsub hJ⟩
     · exact h.elim
   · exact h.elim
theorem Qh (inv:Inv E M0 w0 c M J s tm w) {o:Oper} {t:TypeId} {p x:Operand} {a b:AV} {K:St -> Prop} (ho:o.op = .store t p x) (hp:oper E s p = some a) (hx:oper E s x = some b) (h:Au E t a b s K)
   {next:Act -> World -> Prop} {Q:Exit -> Act -> World -> Prop}
   (hn:∀ w' M' s',K s' -> Inv E M0 w0 c M' J s' tm w' -> s'.ctr = s.ctr -> next ((⟨tm,ds⟩:Act).put o.dst undef) w'):o.wp E.P ⟨tm,ds⟩ w next Q:=by
 have core:∀ {M:Mem} {s:St} (inv:Inv E M0 w0 c M J s tm w) {r v i oo n:Nat} {z:Option Value} {by':Nat} {k:aG} {e cs:List AV} {y:AV} {ux:Value},
     Rel M J (.ptr r v i oo) (Act.eval ⟨tm,ds⟩ p) -> Act.eval ⟨tm,ds⟩ x = ux -> ti E.P t = some (z,n,by') -> get s.hp r = some k -> k.ver = v -> k.es[i]? = some e -> Row M J cs ux.cells -> (k.box = false -> ∀ (j:Nat) (q:AV) (u:Value),cs[j]? = some q -> ux.cells[j]? = some u -> cZ M q u) ->
     cs.length = n -> oo + n <= k.sz -> k.fH <= i -> ∀ s',s' = { s with hp:=set s.hp r { k with es:=k.es.set i (dN e oo cs) } } ->
     ∃ w',(execOp (Act.eval ⟨tm,ds⟩) o).run E.P w = .ok .skip w' /\ Inv E M0 w0 c M J s' tm w':=by
   intro M s inv r v i oo n z by' k e cs y ux hr hux hti hk hkv he hrow hpure hn ho' hf s' hs'
   obtain ⟨L,e1,hL,hN⟩:=hr.qj
   obtain ⟨L',C,hL',hb,ok⟩:=inv.heap r k hk
   rw [hkv,hL] at hL';obtain rfl:=Option.some.inj hL'
   have hblk:=ok.blk hN
   have hi:i < k.es.length:=(List.getElem?_eq_some_iff.1 he).1
   have hel:=ok.len i e he
   have hcap:(i + 1) * k.sz <= L.cap * k.sz:=Nat.mul_le_mul_right _ (by have:=ok.fits;omega)
   rw [Nat.add_mul,Nat.one_mul] at hcap
   obtain ⟨r1,r2,r3⟩:=hrow
   have hone:∀ u ∈ ux.cells.toList,u.oneCell' = true:=by
     intro u hu
     obtain ⟨j,hj⟩:=List.getElem?_of_mem hu
     exact r2 j u (by simpa using hj)
   have Qi:ux.cells.toList.length = n:=by simp [r1,hn]
   have hst:=run_storeCells_at E.P L.b (i * k.sz + oo) k.ty ux.cells.toList 0 C w hblk (by rw [Qi,ok.size];omega) hone
   simp only [Nat.add_zero] at hst
   have hrun:(execOp (Act.eval ⟨tm,ds⟩) o).run E.P w = .ok .skip (w.setRow L.b (C.toList.take (i * k.sz + oo) ++ ux.cells.toList ++ C.toList.drop (i * k.sz + oo + ux.cells.toList.length)).toArray):=by
     unfold execOp
     rw [ho]
     simp only [e1,hux,Instr.storeAt,Instr.sureAddr,Sem.run_bind,Sem.run_pure,Result.andThen_ok,storeVar,jv hti,ok.sz]
     rw [if_neg (by rw [r1,hn];simp)]
     rw [hst];rfl
   refine ⟨_,hrun,?_⟩
   have hCl:(C.toList.take (i * k.sz + oo) ++ ux.cells.toList ++ C.toList.drop (i * k.sz + oo + ux.cells.toList.length)).length = C.size:=by
     simp only [List.length_append,List.length_take,List.length_drop,Array.length_toList,Qi,ok.size]
     have:=r1;rw [hn] at this;omega
   have UD:∀ q:Nat,(C.toList.take (i * k.sz + oo) ++ ux.cells.toList ++ C.toList.drop (i * k.sz + oo + ux.cells.toList.length)).toArray[q]? =
       if i * k.sz + oo <= q /\ q < i * k.sz + oo + n then ux.cells[q - (i * k.sz + oo)]? else C[q]?:=by
     intro q
     simp only [List.getElem?_toArray,List.append_assoc]
     have htl:(C.toList.take (i * k.sz + oo)).length = i * k.sz + oo:=by simp [ok.size];omega
     by_cases h1:q < i * k.sz + oo
     · rw [if_neg (by omega),List.getElem?_append_left (by omega),List.getElem?_take,if_pos h1];simp
     · rw [List.getElem?_append_right (by omega),htl]
       by_cases h2:q < i * k.sz + oo + n
       · rw [if_pos (by omega),List.getElem?_append_left (by omega)];simp
       · rw [if_neg (by omega),List.getElem?_append_right (by omega),List.getElem?_drop,Qi]
         have:i * k.sz + oo + n + (q - (i * k.sz + oo) - n) = q:=by omega
         rw [this];simp
   subst hs'
   refine inv.replace hk (by rw [hkv];exact hL) ok (w':=w.setRow L.b _) rfl rfl rfl (by simp) (fun b hb' hne=>setRow_other w L.b b _ (hne hN)) (fun _ q hq=>?_) (k':={ k with es:=k.es.set i (dN e oo cs) }) (L':=L) (iG.refl J) (by rw [hkv];exact hL) inv.vers
     (C':=(C.toList.take (i * k.sz + oo) ++ ux.cells.toList ++ C.toList.drop (i * k.sz + oo + ux.cells.toList.length)).toArray) ?_ (fun _=>.inl ⟨hN,rfl,Nat.le_refl _⟩)
   · rw [cell_setRow_same w L.b q C _ _ _ hblk,cell_of_row w L.b q C _ _ hblk,UD,if_neg]
     have:k.fH * k.sz <= i * k.sz:=Nat.mul_le_mul_right _ hf
     omega
   · have hwl:(dN e oo cs).length = k.sz:=by simp [dN];omega
     refine ⟨fun _=>setRow_heap w L.b C _ _ _ hblk,ok.none,by rw [List.size_toArray,hCl];exact ok.size,by simpa using ok.fits,by simpa using ok.fH,ok.sz,fun i' e' he'=>?_,fun i' e' j q he' hq=>?_,ok.cap⟩
     · rw [List.getElem?_set] at he'
       split at he'
       · obtain rfl:=Option.some.inj he';exact hwl
       · exact ok.len i' e' he'
     · change ∃ u,(C.toList.take (i * k.sz + oo) ++ ux.cells.toList ++ C.toList.drop (i * k.sz + oo + ux.cells.toList.length)).toArray[i' * k.sz + j]? = some u /\ u.oneCell' = true /\ dh M J k.box q u
       rw [List.getElem?_set] at he'
       split at he'
       · rename_i hii
         subst hii
         · obtain rfl:=Option.some.inj he'
           have hj:j < k.sz:=by rw [<- hwl];exact (List.getElem?_eq_some_iff.1 hq).1
           rw [uG e oo cs (by omega)] at hq
           rw [UD]
           split at hq
           · rename_i hc
             rw [if_pos (by omega)]
             obtain ⟨u,hu⟩:∃ u,ux.cells[j - oo]? = some u:=⟨_,Array.getElem?_eq_getElem (by rw [r1];omega)⟩
             refine ⟨u,by rw [show i * k.sz + j - (i * k.sz + oo) = j - oo by omega];exact hu,r2 _ u hu,?_⟩
             unfold dh
             show if k.box = true then Rel M J q u else cZ M q u
             split
             · exact r3 _ q u hq hu
             · rename_i hb';exact hpure (by simpa using hb') _ q u hq hu
           · rename_i hc
             rw [if_neg (by omega)]
             exact ok.cell i e j q he hq
       · rename_i hii
         obtain ⟨u,a1,a2,a3⟩:=ok.cell i' e' j q he' hq
         refine ⟨u,?_,a2,a3⟩
         have hj:j < k.sz:=by rw [<- ok.len i' e' he'];exact (List.getElem?_eq_some_iff.1 hq).1
         rw [UD,if_neg]
         · exact a1
         · rcases Nat.lt_or_ge i' i with h | h
           · have:(i' + 1) * k.sz <= i * k.sz:=Nat.mul_le_mul_right _ h
             rw [Nat.add_mul] at this;omega
           · have:(i + 1) * k.sz <= i' * k.sz:=Nat.mul_le_mul_right _ (by omega)
             rw [Nat.add_mul] at this;omega
 unfold Au at h
 split at h
 · rename_i r v i oo g n htz
   obtain ⟨d,z,by',hu,hti,hg⟩:=FW htz
   split at h
   · rename_i k hk
     split at h
     · rename_i hbox
       split at h
       · rename_i cs e hc he
         obtain ⟨h1,h2,h3,h4,hK⟩:=h
         have hcr:=iL (inv.oper (ds:=ds) hx) hc
         obtain ⟨w',hrun,hi⟩:=core inv (y:=b) (inv.oper (ds:=ds) hp) rfl hti hk h1 he ⟨hcr.1,hcr.2.1,hcr.2.2⟩ (fun hb=>by rw [hbox] at hb;cases hb) h2 h3 h4 _ rfl
         unfold Oper.wp
         rw [hrun]
         exact hn w' M _ hK hi rfl
       · exact h.elim
     · obtain ⟨y,s1,M1,hK,hs1,i1,hy,hsc⟩:=inv.pure (inv.oper (ds:=ds) hx) h
       split at hK
       · rename_i k' hk'
         split at hK
         · rename_i cs e hc he
           obtain ⟨hb,h1,h2,h3,h4,hK⟩:=hK
           have hcr:=iL (J:=J) (.pure hy) hc
           have hcr0:=iL (J:=fun _=>none) (.pure hy) hc
           obtain ⟨w',hrun,hi⟩:=core i1 (y:=y) ((inv.oper (ds:=ds) hp).mono hs1 (iG.refl J)) rfl hti hk' h1 he ⟨hcr.1,hcr.2.1,hcr.2.2⟩ (fun _ j q u hq hu=>(hcr0.2.2 j q u hq hu).Qc) h2 h3 h4 _ rfl
           unfold Oper.wp
           rw [hrun]
           exact hn w' M1 _ hK hi hsc
         · exact hK.elim
       · exact hK.elim
   · exact h.elim
 · exact h.elim
end
def uJ (sl:List (Nat × AV)):List Nat -> List (Nat × AV) -> List (Nat × AV)
 | [],acc=>acc
 | k :: ks,acc=>match get sl k with | some x=>uJ sl ks ((k,x) :: acc) | none=>uJ sl ks acc
def Gp (sl:List (Nat × AV)) (ks:List Nat):List (Nat × AV):=uJ sl ks []
def St.only (s:St) (keep:List Nat):St:={ s with sl:=Gp s.sl keep }
structure Ins where
 i:Nat
 dst:Option Tmp
 op:Op
 g:Option (Tmp × Bool)
inductive CC where
 | skip
 | ret
 | exit (id:Nat)
 | seq (a b:CC)
 | cond (x:Operand) (a b:CC)
 | block (id:Nat) (a:CC)
 | loop (a:CC)
 | scope (a:CC)
 | goto (l:Nat)
 | label (l:Nat)
 | reg (id:Nat) (l:List Ins)
 | draw (id:Nat) (l:List Ins) (deps:List (List Nat))
 | other (c:Code)
def insOf (all:Array Oper) (p:Nat × Oper):Option Ins :=
 match p.2.guard with
 | none=>some ⟨p.1,p.2.dst,p.2.op,none⟩
 | some (j,want)=>((all[j]?).bind (·.dst)).map fun t=>⟨p.1,p.2.dst,p.2.op,some (t,want)⟩
def insL (all:Array Oper):List (Nat × Oper) -> Option (List Ins)
 | []=>some []
 | p :: l=>match insOf all p,insL all l with | some a,some r=>some (a :: r) | _,_=>none
def numbered (ops:Array Oper):List (Nat × Oper):=ops.toList.zipIdx.map fun p=>(p.2,p.1)
def direct (o:Oper):List Nat:=(o.after.toList.filter (Region.binds .any)).map (·.on)
def comp:Code -> CC
 | .skip=>.skip
 | .label l=>.label l
 | .ret=>.ret
 | .exit id=>.exit id
 | .seq a b=>.seq (comp a) (comp b)
 | .cond x a b=>.cond x (comp a) (comp b)
 | .block id b=>.block id (comp b)
 | .loop b=>.loop (comp b)
 | .region id ops false=>match insL ops (numbered ops) with | some l=>.reg id l | none=>.other (.region id ops false)
 | .region id ops true=>match insL ops (numbered ops) with | some l=>.draw id l (ops.toList.map direct) | none=>.other (.region id ops true)
 | .rangeFunc a b c d=>.other (.rangeFunc a b c d)
 | .scope b=>.scope (comp b)
 | .goto l=>.goto l
 | .refuse r=>.other (.refuse r)
def Ym (E:Env) (nm:Nat) (d:Option Tmp) (op:Op) (s:St) (K:St -> Prop):Prop :=
 match op with
 | .store t p x=>match oper E s p,oper E s x with | some a,some b=>Au E t a b s fun s'=>K (s'.put d (.v undef)) | _,_=>False
 | op=>pY E nm s.ctr op s fun x s'=>K (s'.put d x)
abbrev opS (E:Env) (nm:Nat) (o:Oper) (s:St) (K:St -> Prop):Prop:=Ym E nm o.dst o.op s K
def St.know (s:St) (t:Tmp) (b:Bool):St:={ s with sl:=set s.sl t (.v (.bool b)) }
def uq (E:Env) (base:Nat):List Ins -> St -> (St -> Prop) -> Prop
 | [],s,K=>K (s.only E.keep)
 | ⟨i,d,op,none⟩ :: rest,s,K=>Ym E (base + i * 8) d op s fun s'=>uq E base rest s' K
 | ⟨i,d,op,some (t,want)⟩ :: rest,s,K =>
   match get s.sl t with
   | some (.v (.bool b)) =>
     (b = want -> Ym E (base + i * 8) d op (s.know t want) fun s'=>uq E base rest s' K) /\
     (b = !want -> uq E base rest ((s.know t (!want)).put d (.v undef)) K)
   | some (.v (.tuple _))=>uq E base rest (s.put d (.v undef)) K
   | _=>False
def wz (nt:Nat) (ops:Array Oper):Bool:=ops.toList.all fun o=>(match o.dst with | some d=>decide (d < nt) | none=>true)
def bQ (nt:Nat):Code -> Bool
 | .region _ ops _=>wz nt ops
 | .seq a b=>bQ nt a && bQ nt b
 | .cond _ a b=>bQ nt a && bQ nt b
 | .block _ b=>bQ nt b
 | .loop b=>bQ nt b
 | .scope b=>bQ nt b
 | _=>true
def Post (E:Env) (M0:qV) (w0:World) (nt:Nat) (K:Exit -> St -> Prop) (e:Exit) (a:Act) (w:World):Prop :=
 ∃ s M J,K e s /\ Inv E M0 w0 s.ctr M J s a.tmps w /\ a.tmps.size = nt /\ a.defers = M0.d
def WP (E:Env) (nt:Nat) (c:Code) (K:Exit -> St -> Prop) (s:St):Prop :=
 ∀ (M0:qV) (w0:World) (M:Mem) (J:bJ) (tm:Array Value) (w:World),Inv E M0 w0 s.ctr M J s tm w -> tm.size = nt ->
   c.wp E.P (Post E M0 w0 nt K) ⟨tm,M0.d⟩ w
def Gh (E:Env) (s s':St):Prop:=∀ (M0:qV) (w0:World) (M:Mem) (J:bJ) (tm:Array Value) (w:World),Inv E M0 w0 s.ctr M J s tm w -> ∃ M' J',Inv E M0 w0 s'.ctr M' J' s' tm w
def kM (next:St -> Prop) (K:Exit -> St -> Prop):Exit -> St -> Prop
 | .normal,s=>next s
 | e,s=>K e s
def mg (id:Nat) (K:Exit -> St -> Prop):Exit -> St -> Prop
 | .exit i,s=>if i = id then K .normal s else K (.exit i) s
 | e,s=>K e s
def uK (E:Env) (nt:Nat) (c:CC) (K:Exit -> St -> Prop) (s:St):Prop:=∀ c',comp c' = c -> bQ nt c' = true -> WP E nt c' K s
def IK (E:Env) (nt:Nat):CC -> (Exit -> St -> Prop) -> St -> Prop
 | .skip,K,s=>K .normal s
 | .label _,K,s=>K .normal s
 | .goto l,K,s=>K (.goto l) s
 | .ret,K,s=>K .ret s
 | .exit id,K,s=>K (.exit id) s
 | .seq a b,K,s=>IK E nt a (kM (IK E nt b K) K) s
 | .cond c a b,K,s =>
   match oper E s c with
   | some (.v (.bool t))=>(t = true -> IK E nt a K s) /\ (t = false -> IK E nt b K s)
   | _=>False
 | .block id b,K,s=>IK E nt b (mg id K) s
 | .reg id l,K,s=>uq E (E.N + id * 512) l s (K .normal)
 | c,K,s=>uK E nt c K s
section
variable {E:Env} {M0:qV} {w0:World} {M:Mem} {J:bJ} {s:St} {tm:Array Value} {w:World}
theorem Inv.put {c:Nat} (inv:Inv E M0 w0 c M J s tm w) {d:Option Tmp} {x:AV} {v:Value} (hr:Rel M J x v) (hd:∀ t,d = some t -> t < tm.size) {ds:List Deferred} :
   Inv E M0 w0 c M J (s.put d x) ((⟨tm,ds⟩:Act).put d v).tmps w:=by
 cases d with
 | none=>exact inv
 | some t =>
   have ht:=hd t rfl
   refine { inv with slot:=fun t' x' hx'=>?_ }
   simp only [St.put,get_nil,au] at hx'
   show ∃ u,(tm.setIfInBounds t v)[t']? = some u /\ _
   split at hx'
   · rename_i e;subst e
     obtain rfl:=Option.some.inj hx'
     exact ⟨v,by rw [Array.getElem?_setIfInBounds];simp [ht],hr⟩
   · rename_i hne
     obtain ⟨u,h1,h2⟩:=inv.slot t' x' hx'
     exact ⟨u,by rw [Array.getElem?_setIfInBounds,if_neg (fun e=>hne e.symm)];exact h1,h2⟩
theorem Inv.ctr {c c':Nat} (inv:Inv E M0 w0 c M J s tm w) (n:Nat) (h:c <= c'):Inv E M0 w0 c' M J { s with ctr:=n } tm w :=
 { inv with vers:=fun r L hr=>Nat.lt_of_lt_of_le (inv.vers r L hr) h }
theorem zX (s:St) (d:Option Tmp) (x:AV):(s.put d x).ctr = s.ctr:=by cases d <;> rfl
theorem xY (sl:List (Nat × AV)):∀ (ks:List Nat) (acc:List (Nat × AV)),(∀ t x,get acc t = some x -> get sl t = some x) -> ∀ (t:Nat) (x:AV),get (uJ sl ks acc) t = some x -> get sl t = some x
 | [],acc,ha,t,x,h=>ha t x h
 | k :: ks,acc,ha,t,x,h=>by
   simp only [uJ] at h
   split at h
   · rename_i y hy
     refine xY sl ks _ (fun t' x' h'=>?_) t x h
     simp only [get_nil,au] at h'
     split at h'
     · rename_i e;subst e;rw [hy];exact h'
     · exact ha t' x' h'
   · exact xY sl ks acc ha t x h
theorem MP (sl:List (Nat × AV)) (ks:List Nat) (t:Nat) (x:AV):get (Gp sl ks) t = some x -> get sl t = some x:=xY sl ks [] (fun t x h=>by simp [get_nil,au] at h) t x
theorem Inv.only {c:Nat} (inv:Inv E M0 w0 c M J s tm w) (keep:List Nat):Inv E M0 w0 c M J (s.only keep) tm w :=
 { inv with slot:=fun t x h=>inv.slot t x (MP s.sl keep t x h) }
theorem oQ (a:Act) (d:Option Tmp) (v:Value):(a.put d v).tmps.size = a.tmps.size:=by cases d <;> simp [Act.put]
theorem put_defers (a:Act) (d:Option Tmp) (v:Value):(a.put d v).defers = a.defers:=by cases d <;> rfl
theorem IL (inv:Inv E M0 w0 s.ctr M J s tm w) {nm:Nat} {o:Oper} {K:St -> Prop} (h:opS E nm o s K) (hd:∀ t,o.dst = some t -> t < tm.size) {next:Act -> World -> Prop} {Q:Exit -> Act -> World -> Prop}
   (hn:∀ a w' M' J' s',K s' -> Inv E M0 w0 s'.ctr M' J' s' a.tmps w' -> a.tmps.size = tm.size -> a.defers = M0.d -> next a w'):o.wp E.P ⟨tm,M0.d⟩ w next Q:=by
 unfold opS Ym at h
 split at h
 · rename_i t p x ho
   split at h
   · rename_i a b ha hb
     refine Qh inv (ds:=M0.d) ho ha hb h (fun w' M' s' hk hi hc=>?_)
     refine hn _ w' M' J _ hk ?_ (oQ _ _ _) (put_defers _ _ _)
     rw [zX,hc]
     exact Inv.put hi (.pure (.v _)) hd
   · exact h.elim
 · rename_i op hst
   refine acZ inv (ds:=M0.d) (ver:=s.ctr) (Nat.le_refl _) (fun t a b e=>hst t a b e) h (fun v w' M' J' x s' c' hk hi hr hc=>?_)
   refine hn _ w' M' J' _ hk ?_ (oQ _ _ _) (put_defers _ _ _)
   rw [zX]
   exact Inv.put (hi.weaken (by omega)) hr hd
theorem zY {base:Nat} {ops:Array Oper}:∀ (l:List (Nat × Oper)) {k:List Ins} {s:St} {M:Mem} {J:bJ} {tm:Array Value} {w:World} {K:St -> Prop},(∀ p ∈ l,ops[p.1]? = some p.2) -> wz tm.size ops = true ->
   insL ops l = some k -> uq E base k s K -> Inv E M0 w0 s.ctr M J s tm w -> ∀ {Q:Exit -> Act -> World -> Prop},
   (∀ a w' M' J' s',K s' -> Inv E M0 w0 s'.ctr M' J' s' a.tmps w' -> a.tmps.size = tm.size -> a.defers = M0.d -> Q .normal a w') ->
   wpOps E.P ops Q (l.map Prod.fst) ⟨tm,M0.d⟩ w
 | [],k,s,M,J,tm,w,K,_,_,hk,h,inv,Q,hq=>by
   simp only [insL,Option.some.injEq] at hk;subst hk
   exact hq _ w M J _ h (inv.only _) rfl rfl
 | (i,o) :: rest,k,s,M,J,tm,w,K,hl,hok,hk,h,inv,Q,hq=>by
   simp only [insL] at hk
   split at hk
   case h_2=>cases hk
   rename_i a r ha hrr
   obtain rfl:=Option.some.inj hk
   have hio:=hl (i,o) (by simp)
   have hd:∀ t,o.dst = some t -> t < tm.size:=by
     intro t ht
     unfold wz at hok
     rw [List.all_eq_true] at hok
     have:=hok o (by rw [Array.mem_toList_iff];exact Array.mem_of_getElem? hio)
     rw [ht] at this;simpa using this
   have hrest:∀ p ∈ rest,ops[p.1]? = some p.2:=fun p hp=>hl p (by simp [hp])
   simp only [List.map_cons,wpOps,hio]
   have go:∀ {s1:St} {J1:bJ} {M1:Mem},opS E (base + i * 8) o s1 (fun s'=>uq E base r s' K) -> Inv E M0 w0 s1.ctr M1 J1 s1 tm w -> Oper.wp E.P o ⟨tm,M0.d⟩ w (wpOps E.P ops Q (rest.map Prod.fst)) Q:=by
     intro s1 J1 M1 h1 i1
     refine IL i1 h1 hd (fun a w' M' J' s' hk hi hs hdf=>?_)
     obtain ⟨tm',ds'⟩:=a
     simp only at hi hs hdf
     subst hdf
     exact zY rest hrest (by rw [hs];exact hok) hrr hk hi (fun a w'' M'' XT s'' a1 a2 a3 a4=>hq a w'' M'' XT s'' a1 a2 (by rw [a3,hs]) a4)
   simp only [insOf] at ha
   split at ha
   · rename_i hg
     obtain rfl:=Option.some.inj ha
     simp only [uq] at h
     have:Region.wanted o (yielded ops tm) = true:=by simp [Region.wanted,hg]
     rw [if_pos this]
     exact .inl (go h inv)
   · rename_i j want hg
     rw [Option.map_eq_some_iff] at ha
     obtain ⟨t,ht,rfl⟩:=ha
     simp only [uq] at h
     · split at h
       · rename_i b hb
         obtain ⟨v,hv,hr⟩:=inv.slot t _ hb
         obtain rfl:=hr.bZ
         have hy:yielded ops tm j = some b:=by simp [yielded,ht,hv]
         have hself:∀ b',b = b' -> Inv E M0 w0 s.ctr M J (s.know t b') tm w:=by
           rintro b' rfl
           refine { inv with slot:=fun t' x' hx'=>?_ }
           rw [St.know,nS _ _ _ _ _ hb] at hx'
           split at hx'
           · rename_i e;subst e
             obtain rfl:=Option.some.inj hx'
             exact ⟨_,hv,hr⟩
           · rename_i hne
             exact inv.slot t' x' hx'
         by_cases hbw:b = want
         · have:Region.wanted o (yielded ops tm) = true:=by simp [Region.wanted,hg,hy,hbw]
           rw [if_pos this]
           exact .inl (go (h.1 hbw) (hself want hbw))
         · have:Region.wanted o (yielded ops tm) = false:=by simp [Region.wanted,hg,hy,hbw]
           rw [if_neg (by rw [this];simp)]
           have hb':b = !want:=by cases b <;> cases want <;> simp_all
           have i1:=Inv.put (hself (!want) hb') (d:=o.dst) (x:=.v undef) (v:=undef) (.pure (.v _)) hd (ds:=M0.d)
           have hs:=oQ ⟨tm,M0.d⟩ o.dst undef
           have hdf:=put_defers ⟨tm,M0.d⟩ o.dst undef
           generalize (⟨tm,M0.d⟩:Act).put o.dst undef = a at i1 hs hdf ⊢
           obtain ⟨tm',ds'⟩:=a
           simp only at i1 hs hdf
           subst hdf
           refine zY (M:=M) (J:=J) rest hrest (by rw [hs];exact hok) hrr (h.2 hb') ?_ (fun a w'' M'' XT s'' a1 a2 a3 a4=>hq a w'' M'' XT s'' a1 a2 (by rw [a3,hs]) a4)
           rw [zX];exact i1
       · rename_i vs hb
         obtain ⟨v,hv,hr⟩:=inv.slot t _ hb
         obtain rfl:=hr.bZ
         have hy:yielded ops tm j = none:=by simp [yielded,ht,hv]
         have:Region.wanted o (yielded ops tm) = false:=by simp [Region.wanted,hg,hy]
         rw [if_neg (by rw [this];simp)]
         have i1:=Inv.put inv (d:=o.dst) (x:=.v undef) (v:=undef) (.pure (.v _)) hd (ds:=M0.d)
         have hs:=oQ ⟨tm,M0.d⟩ o.dst undef
         have hdf:=put_defers ⟨tm,M0.d⟩ o.dst undef
         generalize (⟨tm,M0.d⟩:Act).put o.dst undef = a at i1 hs hdf ⊢
         obtain ⟨tm',ds'⟩:=a
         simp only at i1 hs hdf
         subst hdf
         refine zY (M:=M) (J:=J) rest hrest (by rw [hs];exact hok) hrr h ?_ (fun a w'' M'' XT s'' a1 a2 a3 a4=>hq a w'' M'' XT s'' a1 a2 (by rw [a3,hs]) a4)
         rw [zX];exact i1
       · exact h.elim
theorem Aw (ops:Array Oper):(∀ p ∈ (ops.toList.zipIdx.map fun p=>(p.2,p.1)),ops[p.1]? = some p.2) /\ (ops.toList.zipIdx.map fun p=>(p.2,p.1)).map Prod.fst = List.range ops.size:=by
 constructor
 · intro p hp
   rw [List.mem_map] at hp
   obtain ⟨⟨o,i⟩,hp,rfl⟩:=hp
   have:=List.mem_zipIdx_iff_getElem?.1 hp
   simpa using this
 · apply List.ext_getElem?
   intro i
   simp only [List.getElem?_map,List.getElem?_zipIdx,Option.map_map]
   by_cases h:i < ops.size
   · rw [List.getElem?_range h,Array.getElem?_toList,Array.getElem?_eq_getElem h];simp
   · have h1:(List.range ops.size)[i]? = none:=List.getElem?_eq_none (by rw [List.length_range];omega)
     rw [h1,Array.getElem?_toList,Array.getElem?_eq_none (by omega)];rfl
theorem WP.mono {nt:Nat} {c:Code} {K K':Exit -> St -> Prop} {s:St} (h:WP E nt c K s) (hk:∀ e s,K e s -> K' e s):WP E nt c K' s :=
 fun M0 w0 M J tm w inv hs=>wp_mono (h M0 w0 M J tm w inv hs) fun e a w' ⟨s',M',J',k,i,z,d⟩=>⟨s',M',J',hk _ _ k,i,z,d⟩
theorem WP.ghost {nt:Nat} {c:Code} {K:Exit -> St -> Prop} {s s':St} (hg:Gh E s s') (h:WP E nt c K s'):WP E nt c K s :=
 fun M0 w0 M J tm w inv hs=>let ⟨M',J',i⟩:=hg M0 w0 M J tm w inv;h M0 w0 M' J' tm w i hs
theorem jM {nt:Nat}:∀ (c:Code) {K:Exit -> St -> Prop} {s:St},bQ nt c = true -> IK E nt (comp c) K s -> WP E nt c K s
 | .skip,K,s,_,h=>fun M0 w0 M J tm w inv hs=>wp_skip ⟨s,M,J,h,inv,hs,rfl⟩
 | .label l,K,s,_,h=>fun M0 w0 M J tm w inv hs=>wp_label ⟨s,M,J,h,inv,hs,rfl⟩
 | .exit id,K,s,_,h=>fun M0 w0 M J tm w inv hs=>wp_exit ⟨s,M,J,h,inv,hs,rfl⟩
 | .ret,K,s,_,h=>fun M0 w0 M J tm w inv hs=>wp_ret ⟨s,M,J,h,inv,hs,rfl⟩
 | .seq a b,K,s,hok,h=>fun M0 w0 M J tm w inv hs=>by
   simp only [bQ,Bool.and_eq_true] at hok
   simp only [comp,IK] at h
   refine wp_seq (wp_mono (jM a hok.1 h M0 w0 M J tm w inv hs) ?_)
   rintro e ⟨tm',ds'⟩ w' ⟨s',M',J',hk,hi,hz,hd⟩
   simp only at hd;subst hd
   cases e <;> simp only [Exit.then]
   case normal=>exact jM b hok.2 hk M0 w0 M' J' tm' w' hi hz
   all_goals exact ⟨s',M',J',hk,hi,hz,rfl⟩
 | .cond c a b,K,s,hok,h=>fun M0 w0 M J tm w inv hs=>by
   simp only [bQ,Bool.and_eq_true] at hok
   simp only [comp,IK] at h
   split at h
   · rename_i t ht
     have hv:=(inv.oper (ds:=M0.d) ht).bZ
     refine wp_cond_split hv (fun e=>?_) (fun e=>?_)
     · exact jM a hok.1 (h.1 e) M0 w0 M J tm w inv hs
     · exact jM b hok.2 (h.2 e) M0 w0 M J tm w inv hs
   · exact h.elim
 | .block id b,K,s,hok,h=>fun M0 w0 M J tm w inv hs=>by
   simp only [comp,IK] at h
   refine wp_block (wp_mono (jM b hok h M0 w0 M J tm w inv hs) ?_)
   rintro e a w' ⟨s',M',J',hk,hi,hz,hd⟩
   cases e <;> simp only [Exit.inBlock]
   case exit i =>
     simp only [mg] at hk
     split
     · rename_i e;rw [if_pos e] at hk;exact ⟨s',M',J',hk,hi,hz,hd⟩
     · rename_i e;rw [if_neg e] at hk;exact ⟨s',M',J',hk,hi,hz,hd⟩
   all_goals exact ⟨s',M',J',hk,hi,hz,hd⟩
 | .region id ops false,K,s,hok,h=>by
   simp only [comp] at h
   split at h
   · rename_i l hl
     simp only [IK] at h
     intro M0 w0 M J tm w inv hs
     obtain ⟨z1,z2⟩:=Aw ops
     refine wp_region ?_
     rw [<- z2]
     exact zY _ z1 (by rw [hs];exact hok) hl h inv (fun a w' M' J' s' hk hi hz hd=>⟨s',M',J',hk,hi,by rw [hz,hs],hd⟩)
   · rename_i hl
     exact h _ (by simp only [comp];split <;> simp_all) hok
 | .region id ops true,K,s,hok,h=>by
   have:IK E nt (comp (.region id ops true)) K s = uK E nt (comp (.region id ops true)) K s:=by
     simp only [comp];split <;> rfl
   rw [this] at h
   exact h _ rfl hok
 | .loop c,K,s,hok,h=>h _ rfl hok
 | .rangeFunc a b c d,K,s,hok,h=>h _ rfl hok
 | .scope b,K,s,hok,h=>h _ rfl hok
 | .goto l,K,s,hok,h=>fun M0 w0 M J tm w inv hs=>wp_goto ⟨s,M,J,h,inv,hs,rfl⟩
 | .refuse r,K,s,hok,h=>h _ rfl hok
theorem CW {c:Code} {d:CC} (h:comp c = .loop d):∃ b,c = .loop b /\ comp b = d:=by
 cases c
 case loop b=>simp only [comp] at h;exact ⟨b,rfl,by injection h⟩
 case region id ops dr=>cases dr <;> simp only [comp] at h <;> split at h <;> cases h
 all_goals (simp only [comp] at h;cases h)
theorem Az {c:Code} {d e:CC} (h:comp c = .seq d e):∃ a b,c = .seq a b /\ comp a = d /\ comp b = e:=by
 cases c
 case seq a b=>simp only [comp] at h;injection h with h1 h2;exact ⟨a,b,rfl,h1,h2⟩
 case region id ops dr=>cases dr <;> simp only [comp] at h <;> split at h <;> cases h
 all_goals (simp only [comp] at h;cases h)
theorem uK.of {nt:Nat} {c:CC} {K:Exit -> St -> Prop} {s:St} (h:IK E nt c K s):uK E nt c K s:=by
 rintro c' rfl hok
 exact jM c' hok h
theorem uK.mono {nt:Nat} {c:CC} {K K':Exit -> St -> Prop} {s:St} (h:uK E nt c K s) (hk:∀ e s,K e s -> K' e s):uK E nt c K' s :=
 fun c' e hok=>(h c' e hok).mono hk
theorem uK.ghost {nt:Nat} {c:CC} {K:Exit -> St -> Prop} {s s':St} (hg:Gh E s s') (h:uK E nt c K s'):uK E nt c K s :=
 fun c' e hok=>.ghost hg (h c' e hok)
theorem uK.seq {nt:Nat} {a b:CC} {K:Exit -> St -> Prop} {s:St} (h:uK E nt a (kM (fun s'=>∃ s2,Gh E s' s2 /\ uK E nt b K s2) K) s):uK E nt (.seq a b) K s:=by
 intro c' e hok
 obtain ⟨a',b',rfl,rfl,rfl⟩:=Az e
 simp only [bQ,Bool.and_eq_true] at hok
 intro M0 w0 M J tm w inv hs
 refine wp_seq (wp_mono (h a' rfl hok.1 M0 w0 M J tm w inv hs) ?_)
 rintro e ⟨tm',ds'⟩ w' ⟨s',M',J',hk,hi,hz,hd⟩
 simp only at hd;subst hd
 cases e <;> simp only [Exit.then]
 case normal =>
   obtain ⟨s2,hg,hb⟩:=hk
   obtain ⟨M2,J2,i2⟩:=hg M0 w0 M' J' tm' w' hi
   exact hb b' rfl hok.2 M0 w0 M2 J2 tm' w' i2 hz
 all_goals exact ⟨s',M',J',hk,hi,hz,rfl⟩
theorem uK.loop {nt:Nat} {d:CC} {K:Exit -> St -> Prop} {s:St} (I:Nat -> St -> Prop) (h0:∃ n s0,Gh E s s0 /\ I n s0)
   (round:∀ n s1,I n s1 -> IK E nt d (kM (fun s'=>∃ m s2,m < n /\ Gh E s' s2 /\ I m s2) K) s1):uK E nt (.loop d) K s:=by
 intro c' e hok
 obtain ⟨c,rfl,rfl⟩:=CW e
 simp only [bQ] at hok
 intro M0 w0 M J tm w inv hs
 obtain ⟨n0,s0,hg,hI⟩:=h0
 obtain ⟨M',J',i0⟩:=hg M0 w0 M J tm w inv
 refine wp_loop_ghost (fun n a w=>∃ s M J,I n s /\ Inv E M0 w0 s.ctr M J s a.tmps w /\ a.tmps.size = nt /\ a.defers = M0.d) n0 ⟨s0,M',J',hI,i0,hs,rfl⟩ ?_
 rintro n ⟨tm',ds'⟩ w' ⟨s1,M1,J1,hI1,i1,hz,hd⟩
 simp only at hd;subst hd
 refine wp_mono (jM c hok (round n s1 hI1) M0 w0 M1 J1 tm' w' i1 hz) ?_
 rintro e a w'' ⟨s2,M2,J2,hk,i2,hz2,hd2⟩
 cases e <;> simp only [Exit.then]
 case normal =>
   obtain ⟨m,s3,hm,hg3,hI3⟩:=hk
   obtain ⟨M3,J3,i3⟩:=hg3 M0 w0 M2 J2 a.tmps w'' i2
   exact ⟨m,hm,s3,M3,J3,hI3,i3,hz2,hd2⟩
 all_goals exact ⟨s2,M2,J2,hk,i2,hz2,hd2⟩
end
def subs {α:Type} (l:List (Nat × α)):List (Nat × α) -> Prop
 | []=>True
 | (k,x) :: r=>get l k = some x /\ subs l r
theorem kW {α:Type} {l:List (Nat × α)}:∀ {r:List (Nat × α)},subs l r -> ∀ t x,get r t = some x -> get l t = some x
 | [],_,t,x,h=>by simp [get_nil,au] at h
 | (k,y) :: r,h,t,x,hx=>by
   simp only [get_nil,au] at hx
   split at hx
   · rename_i e;subst e;obtain rfl:=Option.some.inj hx;exact h.1
   · exact kW h.2 t x hx
section
variable {E:Env} {M0:qV} {w0:World} {c:Nat} {M:Mem} {J:bJ} {s s':St} {tm:Array Value} {w:World}
theorem Inv.less (inv:Inv E M0 w0 c M J s tm w) (h1:∀ t x,get s'.sl t = some x -> get s.sl t = some x) (h2:∀ r k,get s'.hp r = some k -> get s.hp r = some k):Inv E M0 w0 c M J s' tm w :=
 { inv with
   slot:=fun t x h=>inv.slot t x (h1 t x h)
   heap:=fun r k h=>inv.heap r k (h2 r k h)
   apart:=fun r r' k k' L L' h h'=>inv.apart r r' k k' L L' (h2 r k h) (h2 r' k' h')
   owns:=fun r k L o u h=>inv.owns r k L o u (h2 r k h) }
theorem Gh.refl:Gh E s s:=fun M0 w0 M J tm w inv=>⟨M,J,inv⟩
theorem Gh.trans {s'':St} (h:Gh E s s') (h':Gh E s' s''):Gh E s s'':=fun M0 w0 M J tm w inv=>let ⟨M',J',i⟩:=h M0 w0 M J tm w inv;h' M0 w0 M' J' tm w i
theorem Gh.sub (h1:subs s.sl s'.sl) (h2:subs s.hp s'.hp) (h3:s.ctr <= s'.ctr):Gh E s s':=fun M0 w0 M J tm w inv =>
 ⟨M,J,(inv.less (kW h1) (kW h2)).weaken h3⟩
theorem get_put (s:St) (t t':Nat) (x:AV):get (s.put (some t) x).sl t' = if t' = t then some x else get s.sl t':=au _ _ _ _
theorem Gh.pure {t:Nat} {x y:AV} (hx:get s.sl t = some x) (hy:iE s deep x = some y):Gh E s ((s.freeze (reads deep x)).put (some t) y):=fun M0 w0 M J tm w inv=>by
 obtain ⟨v,hv,hr⟩:=inv.slot t x hx
 obtain ⟨y',s1,M1,⟨hk,hs1⟩,hs,i1,hp,hc⟩:=inv.pure (K:=fun y' s'=>y' = y /\ s' = s.freeze (reads deep x)) hr (by unfold St.pure;rw [hy];exact ⟨rfl,rfl⟩)
 subst hk;subst hs1
 refine ⟨M1,J,?_⟩
 have hcc:((s.freeze (reads deep x)).put (some t) y').ctr = s.ctr:=ql _ _
 rw [hcc]
 refine { i1 with slot:=fun t' x' h'=>?_ }
 rw [get_put] at h'
 split at h'
 · rename_i e;subst e;obtain rfl:=Option.some.inj h';exact ⟨v,hv,.pure hp⟩
 · exact i1.slot t' x' h'
def idx:List (Nat × Nat) -> Nat -> Nat -> Nat -> Option Nat
 | [],_,_,_=>none
 | (a,b) :: l,j,r,v=>if r = a /\ v = b then some j else idx l (j + 1) r v
mutual
def ren (l:List (Nat × Nat)):AV -> Option AV
  | .agg cs=>(wB l cs).map .agg
  | .dM cs=>(wB l cs).map .dM
  | .clo f a b=>match wB l a,wB l b with | some a',some b'=>some (.clo f a' b') | _,_=>none
  | .own r v off len=>(idx l 0 r v).map fun j=>.own j j off len
  | .ptr r v i o=>(idx l 0 r v).map fun j=>.ptr j j i o
  | x=>some x
def wB (l:List (Nat × Nat)):List AV -> Option (List AV)
  | []=>some []
  | c :: cs=>match ren l c,wB l cs with | some c',some cs'=>some (c' :: cs') | _,_=>none
end
def wC (l:List (Nat × Nat)):List (List AV) -> Option (List (List AV))
 | []=>some []
 | c :: cs=>match wB l c,wC l cs with | some c',some cs'=>some (c' :: cs') | _,_=>none
def handed (s:St) (l:List (Nat × Nat)):List (Nat × Nat) -> Nat -> Option (List aG)
 | [],_=>some []
 | (r,v) :: rest,j =>
   match get s.hp r,handed s l rest (j + 1) with
   | some k,some ks =>
     if k.ver = v then (if k.box then (wC l k.es).map fun es=>{ k with ver:=j,es:=es } :: ks else some ({ k with ver:=j } :: ks)) else none
   | _,_=>none
def mD (E:Env) (s:St):List ResultVar -> Option (List AV)
 | []=>some []
 | .tmp t :: l=>match get s.sl t,mD E s l with | some a,some r=>some (a :: r) | _,_=>none
 | .cell a t :: l =>
   match get s.sl a,mD E s l with
   | some p,some r=>(match qc s p with | some cs=>(match partOf E.P t cs with | some x=>some (x :: r) | none=>none) | none=>none)
   | _,_=>none
def mF:List AV -> AV
 | [x]=>x
 | l=>.dM l
theorem Ew:∀ (l:List (Nat × Nat)) (j r v i:Nat),idx l j r v = some i -> j <= i /\ l[i - j]? = some (r,v)
 | [],_,_,_,_,h=>by simp [idx] at h
 | (a,b) :: l,j,r,v,i,h=>by
   simp only [idx] at h
   split at h
   · rename_i e;obtain rfl:=Option.some.inj h;obtain ⟨rfl,rfl⟩:=e;simp
   · obtain ⟨h1,h2⟩:=Ew l (j + 1) r v i h
     exact ⟨by omega,by rw [show i - j = (i - (j + 1)) + 1 by omega,List.getElem?_cons_succ];exact h2⟩
theorem mG {l:List (Nat × Nat)}:∀ {cs ds:List AV},wB l cs = some ds -> ds.length = cs.length /\ ∀ (i:Nat) (d:AV),ds[i]? = some d -> ∃ c,cs[i]? = some c /\ ren l c = some d
 | [],ds,h=>by simp only [wB,Option.some.injEq] at h;subst h;simp
 | c :: cs,ds,h=>by
   simp only [wB] at h
   split at h
   · rename_i c' cs' h1 h2
     obtain rfl:=Option.some.inj h
     obtain ⟨a,b⟩:=mG h2
     refine ⟨by simp [a],fun i d hd=>?_⟩
     cases i with
     | zero=>simp at hd;subst hd;exact ⟨c,rfl,h1⟩
     | succ i=>obtain ⟨c'',x,y⟩:=b i d (by simpa using hd);exact ⟨c'',by simpa using x,y⟩
   · cases h
theorem sZ {l:List (Nat × Nat)}:∀ {cs ds:List (List AV)},wC l cs = some ds -> ds.length = cs.length /\ ∀ (i:Nat) (d:List AV),ds[i]? = some d -> ∃ c,cs[i]? = some c /\ wB l c = some d
 | [],ds,h=>by simp only [wC,Option.some.injEq] at h;subst h;simp
 | c :: cs,ds,h=>by
   simp only [wC] at h
   split at h
   · rename_i c' cs' h1 h2
     obtain rfl:=Option.some.inj h
     obtain ⟨a,b⟩:=sZ h2
     refine ⟨by simp [a],fun i d hd=>?_⟩
     cases i with
     | zero=>simp at hd;subst hd;exact ⟨c,rfl,h1⟩
     | succ i=>obtain ⟨c'',x,y⟩:=b i d (by simpa using hd);exact ⟨c'',by simpa using x,y⟩
   · cases h
theorem ab4{G:Prop}(h:G:=by
 simp only [aI.ren,Option.map_eq_some_iff] at hy
 obtain ⟨ds,hd,rfl⟩:=hy
 obtain ⟨a,b⟩:=mG hd
 all_goals(rcases(⟨_⟩:PLift _)with⟨h⟩;exact h)):G:=h
theorem ac5{G:Prop}(h:G:=by
 rename_i a' b' ha hb
 obtain rfl:=Option.some.inj hy
 obtain ⟨a1,a2⟩:=mG ha
 obtain ⟨b1,b2⟩:=mG hb
 refine .clo (by rw [a1];exact hn) (by rw [b1];exact hm) (fun i d v hd hv=>?_) (fun i d v hd hv=>?_)
 all_goals(rcases(⟨_⟩:PLift _)with⟨h⟩;exact h)):G:=h
theorem ad1{G:Prop}(h:G:=by
 obtain ⟨c,hc,hr⟩:=b i d hd
 exact ih i c v hc hv hr):G:=h
theorem aga{G:Prop}(h:G:=by
 refine' ab4
 refine .agg (by rw [a];exact hn) h1 (fun i d v hd hv=>?_)
 refine' ad1):G:=h
theorem agk{G:Prop}(h:G:=by
 refine' ab4
 refine .dM (by rw [a];exact hn) (fun i d v hd hv=>?_)
 refine' ad1):G:=h
theorem cZ.ren {l:List (Nat × Nat)} {x:AV} {v:Value} (h:cZ M x v):∀ {y:AV},aI.ren l x = some y -> cZ M y v:=by
 induction h with
 | v x=>intro y hy;simp only [aI.ren,Option.some.injEq] at hy;subst hy;exact .v x
 | agg hn h1 _ ih =>
   intro y hy
   refine' aga
 | dM hn _ ih =>
   intro y hy
   refine' agk
 | lst u hn hc hz hA hM h _=>intro y hy;simp only [aI.ren,Option.some.injEq] at hy;subst hy;exact .lst u hn hc hz hA hM h
 | fO u hM h _=>intro y hy;simp only [aI.ren,Option.some.injEq] at hy;subst hy;exact .fO u hM h
 | clo hn hm _ _ ih ih' =>
   intro y hy
   simp only [aI.ren] at hy
   split at hy
   · refine' ac5
     · obtain ⟨c,hc,hr⟩:=a2 i d hd;exact ih i c v hc hv hr
     · obtain ⟨c,hc,hr⟩:=b2 i d hd;exact ih' i c v hc hv hr
   · cases hy
theorem Rel.ren {l:List (Nat × Nat)} {J':bJ} (hJ:∀ (j r v:Nat) (L:Loc),l[j]? = some (r,v) -> J v = some L -> J' j = some L) {x:AV} {v:Value} (h:Rel M J x v) :
   ∀ {y:AV},aI.ren l x = some y -> Rel M J' y v:=by
 induction h with
 | pure h=>intro y hy;exact .pure (h.ren hy)
 | agg hn h1 _ ih =>
   intro y hy
   refine' aga
 | dM hn _ ih =>
   intro y hy
   refine' agk
 | clo hn hm _ _ ih ih' =>
   intro y hy
   simp only [aI.ren] at hy
   split at hy
   · refine' ac5
     · obtain ⟨c,hc,hr⟩:=a2 i d hd;exact ih i c v hc hv hr
     · obtain ⟨c,hc,hr⟩:=b2 i d hd;exact ih' i c v hc hv hr
   · cases hy
 | own hL hl hN hA hc =>
   intro y hy
   simp only [aI.ren,Option.map_eq_some_iff] at hy
   obtain ⟨j,hj,rfl⟩:=hy
   obtain ⟨_,h2⟩:=Ew _ _ _ _ _ hj
   exact .own (hJ _ _ _ _ (by simpa using h2) hL) hl hN hA hc
 | ptr hL hN =>
   intro y hy
   simp only [aI.ren,Option.map_eq_some_iff] at hy
   obtain ⟨j,hj,rfl⟩:=hy
   obtain ⟨_,h2⟩:=Ew _ _ _ _ _ hj
   exact .ptr (hJ _ _ _ _ (by simpa using h2) hL) hN
theorem AA {l:List (Nat × Nat)}:∀ {rest:List (Nat × Nat)} {j:Nat} {hs:List aG},handed s l rest j = some hs -> hs.length = rest.length /\ ∀ (i:Nat) (q:aG),hs[i]? = some q ->
   ∃ r v k,rest[i]? = some (r,v) /\ get s.hp r = some k /\ k.ver = v /\ q = { k with ver:=j + i,es:=q.es } /\ (k.box = true -> wC l k.es = some q.es) /\ (k.box = false -> q.es = k.es)
 | [],j,hs,h=>by simp only [handed,Option.some.injEq] at h;subst h;simp
 | (r,v) :: rest,j,hs,h=>by
   simp only [handed] at h
   split at h
   · rename_i k ks hk hks
     obtain ⟨a,b⟩:=AA hks
     split at h
     · rename_i hv
       have step:∀ q0:aG,hs = q0 :: ks -> q0 = { k with ver:=j,es:=q0.es } -> (k.box = true -> wC l k.es = some q0.es) -> (k.box = false -> q0.es = k.es) ->
           hs.length = rest.length + 1 /\ ∀ (i:Nat) (q:aG),hs[i]? = some q ->
           ∃ r' v' k',((r,v) :: rest)[i]? = some (r',v') /\ get s.hp r' = some k' /\ k'.ver = v' /\ q = { k' with ver:=j + i,es:=q.es } /\ (k'.box = true -> wC l k'.es = some q.es) /\ (k'.box = false -> q.es = k'.es):=by
         rintro q0 rfl h1 h2 h3
         refine ⟨by simp [a],fun i q hq=>?_⟩
         cases i with
         | zero=>simp at hq;subst hq;exact ⟨r,v,k,rfl,hk,hv,by simpa using h1,h2,h3⟩
         | succ i =>
           obtain ⟨r',v',k',x1,x2,x3,x4,x5,x6⟩:=b i q (by simpa using hq)
           exact ⟨r',v',k',by simpa using x1,x2,x3,by rw [show j + (i + 1) = j + 1 + i by omega];exact x4,x5,x6⟩
       split at h
       · rename_i hb
         rw [Option.map_eq_some_iff] at h
         obtain ⟨es,he,h⟩:=h
         exact step { k with ver:=j,es:=es } h.symm rfl (fun _=>he) (fun h=>by rw [hb] at h;cases h)
       · rename_i hb
         exact step { k with ver:=j } (Option.some.inj h).symm rfl (fun h=>absurd h hb) (fun _=>rfl)
     · cases h
   · cases h
theorem afy{G:Prop}(h:G:=by
 have:(l[r]?).bind (fun p=>J p.2) = some L:=hL
 rw [x3] at this;rw [x5];simpa using this):G:=h
theorem Inv.hand (inv:Inv E M0 w0 c M J s tm w) {l:List (Nat × Nat)} {hs:List aG} (h:handed s l l 0 = some hs) (hd:(l.map Prod.fst).Nodup) :
   ∃ J',Inv E ⟨M0.m,fun _=>none,M0.x,[]⟩ w0 hs.length M J' ⟨[],eX 0 hs,0⟩ #[] w /\ ∀ x y v,ren l x = some y -> Rel M J x v -> Rel M J' y v:=by
 obtain ⟨hl,hg⟩:=AA h
 have hJ:∀ (j r v:Nat) (L:Loc),l[j]? = some (r,v) -> J v = some L -> (fun j=>(l[j]?).bind fun p=>J p.2) j = some L:=by
   intro j r v L h1 h2
   simp [h1,h2]
 have hget:∀ (r:Nat) (k:aG),get (eX 0 hs) r = some k -> ∃ q r' v' k',hs[r]? = some q /\ k = { q with ver:=r } /\ l[r]? = some (r',v') /\ get s.hp r' = some k' /\ k'.ver = v' /\
     q = { k' with ver:=r,es:=q.es } /\ (k'.box = true -> wC l k'.es = some q.es) /\ (k'.box = false -> q.es = k'.es):=by
   intro r k hk
   rw [uQ,if_pos (Nat.zero_le _),Nat.sub_zero,Option.map_eq_some_iff] at hk
   obtain ⟨q,hq,rfl⟩:=hk
   obtain ⟨r',v',k',x1,x2,x3,x4,x5,x6⟩:=hg r q hq
   exact ⟨q,r',v',k',hq,rfl,x1,x2,x3,by simpa using x4,x5,x6⟩
 have hname:∀ (i j r v v':Nat),l[i]? = some (r,v) -> l[j]? = some (r,v') -> i = j:=by
   intro i j r v v' hi hj
   have hi':(l.map Prod.fst)[i]? = some r:=by rw [List.getElem?_map,hi];rfl
   have hj':(l.map Prod.fst)[j]? = some r:=by rw [List.getElem?_map,hj];rfl
   obtain ⟨a,b⟩:=List.getElem?_eq_some_iff.1 hi'
   obtain ⟨a',b'⟩:=List.getElem?_eq_some_iff.1 hj'
   exact (List.getElem_inj hd).1 (b.trans b'.symm)
 refine ⟨_,⟨inv.below,inv.mem,inv.kH,inv.jV,inv.glob,fun t x h=>by simp [get_nil,au] at h,?_,?_,?_,?_,fun r L h=>(by cases h),inv.far⟩,fun x y v hy hr=>hr.ren hJ hy⟩
 · intro r k hk
   obtain ⟨q,r',v',k',x1,rfl,x3,x4,x5,x6,x7,x8⟩:=hget r k hk
   obtain ⟨L,C,hL,hb,ok⟩:=inv.heap r' k' x4
   refine ⟨L,C,by show (l[r]?).bind _ = _;rw [x3];simpa [<- x5] using hL,hb,?_⟩
   have e1:q.ty = k'.ty:=by rw [x6]
   have e2:q.sz = k'.sz:=by rw [x6]
   have e3:q.fH = k'.fH:=by rw [x6]
   have e4:q.box = k'.box:=by rw [x6]
   have hlen:q.es.length = k'.es.length:=by
     cases hbx:k'.box
     · rw [x8 hbx]
     · exact (sZ (x7 hbx)).1
   refine ⟨fun hn=>by rw [e1];exact ok.blk hn,ok.none,by rw [e2];exact ok.size,by rw [hlen];exact ok.fits,by rw [e3,hlen];exact ok.fH,by rw [e2];exact ok.sz,?_,?_,ok.cap⟩
   · intro i e he
     show e.length = q.sz
     rw [e2]
     cases hbx:k'.box
     · exact ok.len i e (by rw [<- x8 hbx];exact he)
     · obtain ⟨c',hc',hr'⟩:=(sZ (x7 hbx)).2 i e he
       rw [(mG hr').1];exact ok.len i c' hc'
   · intro i e j x he hx
     show ∃ u,C[i * q.sz + j]? = some u /\ _
     rw [e2]
     show ∃ u,_ /\ _ /\ dh M _ q.box x u
     rw [e4]
     cases hbx:k'.box
     · obtain ⟨u,a1,a2,a3⟩:=ok.cell i e j x (by rw [<- x8 hbx];exact he) hx
       refine ⟨u,a1,a2,?_⟩
       unfold dh at a3 ⊢;rw [hbx] at a3;simpa using a3
     · obtain ⟨c',hc',hr'⟩:=(sZ (x7 hbx)).2 i e he
       obtain ⟨y,hy,hry⟩:=(mG hr').2 j x hx
       obtain ⟨u,a1,a2,a3⟩:=ok.cell i c' j y hc' hy
       refine ⟨u,a1,a2,?_⟩
       unfold dh at a3 ⊢;rw [hbx] at a3
       simp only [if_true] at a3 ⊢
       exact a3.ren hJ hry
 · intro r r' k k' L L' hk hk' hL hL' hN hN' hne
   obtain ⟨q,a,v,b,x1,rfl,x3,x4,x5,x6,x7,x8⟩:=hget r k hk
   obtain ⟨q',a',v',b',y1,rfl,y3,y4,y5,y6,y7,y8⟩:=hget r' k' hk'
   have hL1:J b.ver = some L:=by
     refine' afy
   have hL2:J b'.ver = some L':=by
     have:(l[r']?).bind (fun p=>J p.2) = some L':=hL'
     rw [y3] at this;rw [y5];simpa using this
   exact inv.apart a a' b b' L L' x4 y4 hL1 hL2 hN hN' (fun e=>hne (by subst e;exact hname _ _ _ _ _ x3 y3))
 · intro r k L o u hk hL hN hu
   obtain ⟨q,a,v,b,x1,rfl,x3,x4,x5,x6,x7,x8⟩:=hget r k hk
   have hL1:J b.ver = some L:=by
     refine' afy
   have:=inv.owns a b L o u x4 hL1 hN hu
   show o < q.fH * q.sz
   rw [x6];exact this
 · intro r L hL
   have:(l[r]?).bind (fun p=>J p.2) = some L:=hL
   cases h1:l[r]? with
   | none=>rw [h1] at this;simp at this
   | some p=>rw [hl];exact (List.getElem?_eq_some_iff.1 h1).1
end
def params:Nat -> List AV -> List (Nat × AV)
 | _,[]=>[]
 | j,a :: l=>(j,a) :: params (j + 1) l
theorem AB:∀ (l:List AV) (j t:Nat),get (params j l) t = if j <= t then l[t - j]? else none
 | [],j,t=>by simp [params,get_nil,au]
 | a :: l,j,t=>by
   simp only [params,get_nil,au]
   rw [AB l (j + 1) t]
   by_cases h:t = j
   · subst h;simp
   · rw [if_neg h]
     by_cases h1:j <= t
     · rw [if_pos (by omega),if_pos h1,show t - j = (t - (j + 1)) + 1 by omega,List.getElem?_cons_succ]
     · rw [if_neg (by omega),if_neg h1]
def endP (E:Env) (rs:List ResultVar) (s:St) (R:AV -> List aG -> Prop):Prop :=
 match mD E s rs with
 | some xs=>s.nP xs fun ys _=>R (mF ys) []
 | none=>False
def UN (E:Env) (rs:List ResultVar) (s:St) (R:AV -> List aG -> Prop):Prop :=
 match mD E s rs with
 | some xs=>∃ l hs ys,(l.map Prod.fst).Nodup /\ handed s l l 0 = some hs /\ wB l xs = some ys /\ R (mF ys) hs
 | none=>False
section
variable {E:Env} {M0:qV} {w0:World} {c:Nat} {M:Mem} {J:bJ} {s s':St} {tm:Array Value} {w:World}
theorem xZ (inv:Inv E M0 w0 c M J s tm w):∀ {rs:List ResultVar} {xs:List AV},mD E s rs = some xs ->
   ∃ vs:List Value,(rs.mapM fun (r:ResultVar)=>(match r with | .tmp t=>(Pure.pure (tm.getD t undef):Sem Value) | .cell a t=>do loadVar t (<- asAddr (tm.getD a undef)))).run E.P w = .ok vs w /\
     vs.length = xs.length /\ ∀ (i:Nat) (x:AV) (v:Value),xs[i]? = some x -> vs[i]? = some v -> Rel M J x v
 | [],xs,h=>by
   simp only [mD,Option.some.injEq] at h;subst h
   exact ⟨[],by simp,rfl,fun i x v hx=>by simp at hx⟩
 | .tmp t :: l,xs,h=>by
   simp only [mD] at h
   split at h
   · rename_i a r ha hr
     obtain rfl:=Option.some.inj h
     obtain ⟨vs,h1,h2,h3⟩:=xZ inv hr
     obtain ⟨v,hv,hrel⟩:=inv.slot t a ha
     have:tm.getD t undef = v:=by rw [Array.getD_eq_getD_getElem?,hv];rfl
     refine ⟨v :: vs,?_,by simp [h2],fun i x u hx hu=>?_⟩
     · rw [List.mapM_cons];simp only [Sem.run_bind,Sem.run_pure,Result.andThen_ok,this]
       rw [h1];rfl
     · cases i with
       | zero=>simp at hx hu;subst hx;subst hu;exact hrel
       | succ i=>exact h3 i x u (by simpa using hx) (by simpa using hu)
   · cases h
 | .cell a t :: l,xs,h=>by
   simp only [mD] at h
   split at h
   · rename_i p r ha hr
     split at h
     · rename_i cs hcs
       split at h
       · rename_i x hx
         obtain rfl:=Option.some.inj h
         obtain ⟨vs,h1,h2,h3⟩:=xZ inv hr
         obtain ⟨v,hv,hrel⟩:=inv.slot a p ha
         obtain ⟨b,o,rfl,_⟩:=yX inv hrel hcs
         obtain ⟨y,h4,h5⟩:=FY inv hrel hcs hx
         have:tm.getD a undef = .pointer (some ⟨b,o,none⟩):=by rw [Array.getD_eq_getD_getElem?,hv];rfl
         simp only [Instr.loadAt,Instr.sureAddr,Sem.run_bind,Sem.run_pure,Result.andThen_ok] at h4
         refine ⟨y :: vs,?_,by simp [h2],fun i x' u hx' hu=>?_⟩
         · have e:∀ u,u = Value.pointer (some ⟨b,o,none⟩) -> (do loadVar t (<- asAddr u)).run E.P w = .ok y w:=by
             rintro u rfl
             simpa [asAddr] using h4
           rw [List.mapM_cons,Sem.run_bind]
           have:=e _ this
           simp only at this ⊢
           rw [this]
           simp only [Result.andThen_ok,Sem.run_bind]
           rw [h1];rfl
         · cases i with
           | zero=>simp at hx' hu;subst hx';subst hu;exact h5
           | succ i=>exact h3 i x' u (by simpa using hx') (by simpa using hu)
       · cases h
     · cases h
   · cases h
theorem kU (inv:Inv E M0 w0 c M J s tm w) {fn:Func} {xs:List AV} (h:mD E s fn.results.toList = some xs) :
   ∃ vs:List Value,(results fn tm).run E.P w = .ok (if h:vs.length = 1 then vs[0] else .tuple vs.toArray) w /\
     vs.length = xs.length /\ ∀ (i:Nat) (x:AV) (v:Value),xs[i]? = some x -> vs[i]? = some v -> Rel M J x v:=by
 obtain ⟨vs,h1,h2,h3⟩:=xZ inv h
 refine ⟨vs,?_,h2,h3⟩
 unfold results
 rw [Array.mapM_eq_mapM_toList]
 rw [Sem.run_bind,Sem.run_map]
 have e:=congrArg (fun r=>(Result.andThen (Result.andThen r fun a w'=>.ok a.toArray w') fun (a:Array Value) w'=>Sem.run E.P (Pure.pure (if h:a.size = 1 then a[0] else Value.tuple a)) w')) h1
 exact e.trans (by simp)
theorem tq {R:AV -> Value -> Prop} (hv:∀ (xs:List AV) (vs:Array Value),vs.size = xs.length -> (∀ (i:Nat) (x:AV) (v:Value),xs[i]? = some x -> vs[i]? = some v -> R x v) -> R (.dM xs) (.tuple vs))
   {xs:List AV} {vs:List Value} (h2:vs.length = xs.length) (h3:∀ (i:Nat) (x:AV) (v:Value),xs[i]? = some x -> vs[i]? = some v -> R x v) :
   R (mF xs) (if h:vs.length = 1 then vs[0] else .tuple vs.toArray):=by
 have hx:xs.length = 1 ∨ xs.length ≠ 1:=by omega
 rcases hx with hx | hx
 · match xs,vs,h2 with
   | [x],[v],_=>simpa [mF] using h3 0 x v rfl rfl
 · rw [dif_neg (by omega)]
   have:mF xs = .dM xs:=by
     unfold mF;split
     · simp at hx
     · rfl
   rw [this]
   exact hv xs _ (by simpa using h2) (fun i x v hx hv=>h3 i x v hx (by simpa using hv))
theorem agu{G:Prop}(h:G:=by
 simp only [AB,Nat.zero_le,if_true,Nat.sub_zero] at h
 have hlt:t < vs.size:=by rw [hn];exact (List.getElem?_eq_some_iff.1 h).1
 all_goals(rcases(⟨_⟩:PLift _)with⟨h⟩;exact h)):G:=h
theorem CX {E0:Env} (hP:E0.P = E.P) (hG:E0.G = E.G) {args:List AV} {vs:Array Value} {n:Nat} (hm:∀ b o u,M b o = some u -> w.cell? ⟨b,o,none⟩ = some u /\ u.oneCell' = true)
   (hg:∀ g cs,E0.G g = some cs -> cZ M (.fO cs) (.pointer (some ⟨g,0,none⟩))) (hn:vs.size = args.length)
   (hr:∀ (i:Nat) (x:AV) (v:Value),args[i]? = some x -> vs[i]? = some v -> cZ M x v) :
   Inv E ⟨M,fun _=>none,fun _=>none,[]⟩ w 0 M (fun _=>none) ⟨params 0 args,[],0⟩ (vs ++ Array.replicate n undef) w:=by
 refine ⟨Below.refl _ _,hm,fun _ _ _ h=>.inl h,fun _ _ _ h=>h,fun g cs h=>hg g cs (by rw [hG];exact h),fun t x h=>?_,fun r k h=>by simp [get_nil,au] at h,fun r r' k k' L L' h=>by simp [get_nil,au] at h,fun r k L o u h=>by simp [get_nil,au] at h,fun r L h=>by simp at h,fun r L h=>h,fun b o h=>by cases h⟩
 refine' agu
 refine ⟨vs[t],by rw [Array.getElem?_append_left hlt];simp [hlt],.pure (hr t x _ h (by simp [hlt]))⟩
theorem ji {f:FuncId} {fn:Func} {c:Code} {vs:Array Value} {P:Program} (hf:P.funcs[f]? = some fn) (hb:fn.body = some c) (hname:(fn.name == "runtime.NumGoroutine") = false) (w:World) :
   (callFunc f vs).run P w = .ok (.enter f vs) w:=by
 simp [callFunc,hf,hb];simpa using hname
theorem aO.of {E0 E:Env} (hP:E0.P = E.P) (hG:E0.G = E.G) {f:FuncId} {fn:Func} {c:Code} {args:List AV} {R:AV -> List aG -> Prop} (hf:E0.P.funcs[f]? = some fn) (hb:fn.body = some c)
   (hname:(fn.name == "runtime.NumGoroutine") = false) (hnt:args.length <= fn.ntmps) {Q:St -> Prop}
   (hq:∀ (M:Mem) (w0:World) (s:St) (M1:Mem) (J:bJ) (tm:Array Value) (w:World),Q s -> Inv E ⟨M,fun _=>none,fun _=>none,[]⟩ w0 s.ctr M1 J s tm w ->
     ∃ v r hs M' J',(results fn tm).run E.P w = .ok v w /\ R r hs /\ Inv E ⟨M,fun _=>none,fun _=>none,[]⟩ w0 hs.length M' J' ⟨[],eX 0 hs,0⟩ #[] w /\ Rel M' J' r v)
   (h:WP E fn.ntmps c (fun e s=>(e = .normal ∨ e = .ret) /\ Q s) ⟨params 0 args,[],0⟩):aO E0 f args R:=by
 intro M w vs hm hg hn hr
 refine ⟨ji hf hb hname w,?_⟩
 rw [hP] at hf
 rw [hP]
 refine calls_of_wp hf hb ?_
 refine wp_mono (h ⟨M,fun _=>none,fun _=>none,[]⟩ w M _ _ w (CX hP hG hm hg hn hr) (by simp [hn];omega)) ?_
 rintro e a w' ⟨s',M1,J1,⟨he,hQ⟩,inv,hz,hd⟩
 obtain ⟨v,r,hs,M',J',h1,h2,h3,h4⟩:=hq M w s' M1 J1 a.tmps w' hQ inv
 have h3':Inv E0 ⟨M,fun _=>none,fun _=>none,[]⟩ w hs.length M' J' ⟨[],eX 0 hs,0⟩ #[] w':=h3.env hG
 rcases he with rfl | rfl
 · exact ⟨hd,v,h1,v,r,hs,M',J',rfl,h2,h3',h4⟩
 · exact ⟨hd,v,h1,v,r,hs,M',J',rfl,h2,h3',h4⟩
theorem aO.XU {E0:Env} (keep:List Nat) (N:Nat) {f:FuncId} {fn:Func} {c:Code} {args:List AV} {R:AV -> List aG -> Prop} (hf:E0.P.funcs[f]? = some fn) (hb:fn.body = some c)
   (hname:(fn.name == "runtime.NumGoroutine") = false) (hnt:args.length <= fn.ntmps) {rs:List ResultVar} (hrs:fn.results.toList = rs)
   (h:WP { E0 with keep:=keep,N:=N } fn.ntmps c (fun e s=>(e = .normal ∨ e = .ret) /\ endP { E0 with keep:=keep,N:=N } rs s R) ⟨params 0 args,[],0⟩):aO E0 f args R:=by
 subst hrs
 refine aO.of (E0:=E0) (E:={ E0 with keep:=keep,N:=N }) rfl rfl hf hb hname hnt ?_ h
 intro M w0 s M1 J tm w hQ inv
 unfold endP at hQ
 split at hQ
 · rename_i xs hxs
   obtain ⟨vs,h1,h2,h3⟩:=kU inv hxs
   obtain ⟨ys,s',M',hR,_,i',hl,hrel⟩:=Inv.nP xs (vs:=vs) inv h2 h3 hQ
   refine ⟨_,_,[],M',fun _=>none,h1,hR,?_,.pure (tq (R:=cZ M') (fun xs vs a b=>.dM a b) (by rw [h2,hl]) hrel)⟩
   exact ⟨i'.below,i'.mem,i'.kH,i'.jV,i'.glob,fun t x h=>by simp [get_nil,au] at h,fun r k h=>by simp [eX,get_nil,au] at h,fun r r' k k' L L' h=>by simp [eX,get_nil,au] at h,fun r k L o u h=>by simp [eX,get_nil,au] at h,fun r L h=>by simp at h,fun r L h=>h,i'.far⟩
 · exact hQ.elim
theorem aO.pure {E0:Env} (keep:List Nat) (N:Nat) {f:FuncId} {fn:Func} {c:Code} {args:List AV} {R:AV -> List aG -> Prop} (hf:E0.P.funcs[f]? = some fn) (hb:fn.body = some c)
   (hname:(fn.name == "runtime.NumGoroutine") = false) (hnt:args.length <= fn.ntmps) (hok:bQ fn.ntmps c = true) {cc:CC} (hcc:comp c = cc) {rs:List ResultVar} (hrs:fn.results.toList = rs)
   (h:IK { E0 with keep:=keep,N:=N } fn.ntmps cc (fun e s=>(e = .normal ∨ e = .ret) /\ endP { E0 with keep:=keep,N:=N } rs s R) ⟨params 0 args,[],0⟩):aO E0 f args R :=
 aO.XU keep N hf hb hname hnt hrs (jM c hok (by rw [hcc];exact h))
theorem aO.ahA {E0:Env} (keep:List Nat) (N:Nat) {f:FuncId} {fn:Func} {c:Code} {args:List AV} {R:AV -> List aG -> Prop} (hf:E0.P.funcs[f]? = some fn) (hb:fn.body = some c)
   (hname:(fn.name == "runtime.NumGoroutine") = false) (hnt:args.length <= fn.ntmps) {rs:List ResultVar} (hrs:fn.results.toList = rs)
   (h:WP { E0 with keep:=keep,N:=N } fn.ntmps c (fun e s=>(e = .normal ∨ e = .ret) /\ UN { E0 with keep:=keep,N:=N } rs s R) ⟨params 0 args,[],0⟩):aO E0 f args R:=by
 subst hrs
 refine aO.of (E0:=E0) (E:={ E0 with keep:=keep,N:=N }) rfl rfl hf hb hname hnt ?_ h
 intro M w0 s M1 J tm w hQ inv
 unfold UN at hQ
 split at hQ
 · rename_i xs hxs
   obtain ⟨vs,h1,h2,h3⟩:=kU inv hxs
   obtain ⟨l,hs,ys,hd,hh,hy,hR⟩:=hQ
   obtain ⟨J',i',ahB⟩:=inv.hand hh hd
   obtain ⟨a,b⟩:=mG hy
   refine ⟨_,_,hs,M1,J',h1,hR,i',tq (R:=Rel M1 J') (fun xs vs a b=>.dM a b) (by rw [h2,a]) (fun i x v hx hv=>?_)⟩
   obtain ⟨x',hx',hr'⟩:=b i x hx
   exact ahB _ _ _ hr' (h3 i x' v hx' hv)
 · exact hQ.elim
theorem aO.mono {f:FuncId} {args:List AV} {R R':AV -> List aG -> Prop} (h:aO E f args R) (hr:∀ r hs,R r hs -> R' r hs):aO E f args R':=by
 intro M w vs hm hg hn hrel
 obtain ⟨h1,h2⟩:=h M w vs hm hg hn hrel
 refine ⟨h1,h2.mono ?_⟩
 rintro e w' ⟨v,r,hs,M',J',a,b,c,d⟩
 exact ⟨v,r,hs,M',J',a,hr _ _ b,c,d⟩
end
end Go.Proofs.YtadlnaljicikfaaDoor.aI
namespace Go.Proofs.YtadlnaljicikfaaDoor.aI
open Go
def PX (l:List UInt8):List (List AV):=l.map fun c=>[AV.v (.int .u8 c.toNat)]
inductive TK where
 | str
 | int (k:IntKind)
 | bool
 | ptr
 | sl (e:TypeId)
 | other
 deriving Repr
def kindOf (P:Program) (t:TypeId):Option TK :=
 match P.underlying t with
 | some .string=>some .str
 | some (.int k)=>some (.int k)
 | some .bool=>some .bool
 | some (.pointer _)=>some .ptr
 | some (.slice e)=>some (.sl e)
 | some _=>some .other
 | none=>none
structure Tab where
 nK:List (Nat × TK)
 tz:List (Nat × (Bool × Nat))
 zc:List (Nat × List AV)
 sl:List (Nat × (TypeId × Nat × Nat × List AV))
 ar:List (Nat × (Nat × TypeId × Nat))
 ly:List (Nat × (List AV × List (Nat × Nat)))
 fd:List (Nat × List (Nat × TypeId × Nat))
 eq:List Nat
structure jA (P:Program) (T:Tab):Prop where
 nK:∀ t k,get T.nK t = some k -> kindOf P t = some k
 tz:∀ t x,get T.tz t = some x -> iK P t = some x
 zc:∀ t cs,get T.zc t = some cs -> ∃ z n b,ti P t = some (some z,n,b) /\ cellsOf (PW z) = some cs
 sl:∀ t e n b cs,get T.sl t = some (e,n,b,cs) -> ∃ z,sle P t = some (e,some z,n,b) /\ cellsOf (PW z) = some cs /\ z.cells.size = n /\ 0 < n /\ cs.length = n
 ar:∀ t x,get T.ar t = some x -> arr P t = some x
 ly:∀ t x,get T.ly t = some x -> lay P t = some x
 fd:∀ t l,get T.fd t = some l -> ∀ f x,l[f]? = some x -> iY P t f = some x
 eq:∀ t,T.eq.contains t = true -> Es P t
theorem nV {α:Type} {p:Nat -> α -> Prop}:∀ {l:List (Nat × α)},(∀ q ∈ l,p q.1 q.2) -> ∀ t x,get l t = some x -> p t x
 | [],_,t,x,h=>by simp [get_nil] at h
 | (k,y) :: l,ha,t,x,h=>by
   rw [au] at h
   split at h
   · rename_i e;subst e;obtain rfl:=Option.some.inj h;exact ha (t,y) (by simp)
   · exact nV (fun q hq=>ha q (by simp [hq])) t x h
namespace Ev
def Side (p:Prop):Prop:=p
theorem side {p:Prop} (h:Side p):p:=h
theorem Side.of {p:Prop} (h:p):Side p:=h
structure gJ (p Q:Prop):Prop where
 side:p
 rest:Q
theorem sided {p Q:Prop} (k:Q) (h:Side p):gJ p Q:=⟨h,k⟩
@[reducible] def Gq (b:Bool) (A B:Prop):Prop:=Bool.rec (motive:=fun _=>Prop) B A b
theorem br {b:Bool} {A B:Prop} (h:b = true -> A) (k:b = false -> B):Gq b A B:=by
 cases b
 · exact k rfl
 · exact h rfl
theorem AL {p:Prop} [Decidable p] {A B:Prop} (h:p -> A) (k:¬ p -> B):Gq (decide p) A B:=br (fun e=>h (of_decide_eq_true e)) (fun e=>k (of_decide_eq_false e))
theorem Yn {b:Bool} {A B:Prop} (h:Gq b B A):Gq (!b) A B:=by cases b <;> exact h
theorem Qj {b:Bool} {A B:Prop} (h:Gq b A B) (e:b = true):A:=by subst e;exact h
theorem Qk {b:Bool} {A B:Prop} (h:Gq b A B) (e:b = false):B:=by subst e;exact h
def gK (b:Bool) (A B:Prop):Prop:=match b with | true=>A | false=>B
theorem UO {b:Bool} {A B:Prop} (h:b = true -> A) (k:b = false -> B):gK b A B:=by
 cases b
 · exact k rfl
 · exact h rfl
theorem Gs {p:Prop} [Decidable p] {A B:Prop} (h:p -> A) (k:¬ p -> B):gK (decide p) A B:=UO (fun e=>h (of_decide_eq_true e)) (fun e=>k (of_decide_eq_false e))
theorem adB {b:Bool} {A B:Prop} (h:gK b B A):gK (!b) A B:=by cases b <;> exact h
theorem adC {b:Bool} {A B:Prop} (h:gK b A B) (e:b = true):A:=by subst e;exact h
theorem adD {b:Bool} {A B:Prop} (h:gK b A B) (e:b = false):B:=by subst e;exact h
structure chk (b:Bool) (A:Prop):Prop where
 ok:b = true
 rest:A
def zH (o:Option AV) (K:AV -> Prop):Prop:=match o with | some x=>K x | none=>False
def AO (b:Bool) (A:Prop):Prop:=match b with | true=>A | false=>False
theorem jB {b:Bool} {A:Prop} (k:A) (h:b = true):chk b A:=⟨h,k⟩
theorem adE (n:Nat):Nat.beq n n = true:=Nat.beq_refl n
def CO (es:List (List AV)) (i:Nat) (K:List AV -> Prop):Prop:=match es[i]? with | some e=>K e | none=>False
theorem x9 {α:Type} {f:α -> List AV} {l:List α} {i:Nat} {K:List AV -> Prop} (h:Side (i < l.length)) (k:∀ h:i < l.length,K (f l[i])):CO (l.map f) i K:=by
 have h:i < l.length:=h
 unfold CO;rw [List.getElem?_map,List.getElem?_eq_getElem h];exact k h
theorem XV {es:List (List AV)} {i:Nat} {K:List AV -> Prop} (e:List AV) (h:es[i]? = some e) (k:K e):CO es i K:=by unfold CO;rw [h];exact k
def iF (b:ByteArray) (i:Nat):Int:=((b.data.toList.getD i 0).toNat:Int)
theorem Ql {b:ByteArray} {i:Nat} (h:i < b.size):iF b i = ((b[i]'h).toNat:Int):=by
 unfold iF
 have h':i < b.data.toList.length:=by simpa using h
 rw [List.getD_eq_getElem?_getD,List.getElem?_eq_getElem h']
 rfl
theorem Ey (b:ByteArray) (i:Nat):0 <= iF b i /\ iF b i < 256:=by
 unfold iF;have:=(b.data.toList.getD i 0).toNat_lt;omega
@[reducible] def Cn:=List (Nat × AV) -> List (Nat × aG) -> Nat -> Prop
def qW (d:Option Tmp) (x:AV) (sl:List (Nat × AV)) (Q:List (Nat × AV) -> Prop):Prop:=match d with | some t=>Q ((t,x) :: sl) | none=>Q sl
def aZ (E:Env) (sl:List (Nat × AV)):Operand -> Option AV
 | .tmp t=>get sl t
 | .const v=>(match v with | .agg cs=>some (PW (.agg cs)) | x=>some (.v x))
 | .global g=>(E.G g).map .fO
 | .func f=>some (.clo (.func f) [] [])
def wE (E:Env) (sl:List (Nat × AV)):List Operand -> Option (List AV)
 | []=>some []
 | x :: l=>match aZ E sl x with | some a=>(match wE E sl l with | some r=>some (a :: r) | none=>none) | none=>none
def kX (k:aG) (f:Nat -> TypeId -> Nat -> Nat -> Bool -> List (List AV) -> Prop):Prop:=match k with | ⟨a,b,c,d,e,g⟩=>f a b c d e g
theorem bF (k:aG) (f:Nat -> TypeId -> Nat -> Nat -> Bool -> List (List AV) -> Prop):kX k f = f k.sz k.ty k.ver k.fH k.box k.es:=by cases k;rfl
def AP:Nat -> AV -> Bool
 | 0,_=>false
 | n + 1,.agg cs=>cs.any (AP n)
 | n + 1,.dM cs=>cs.any (AP n)
 | n + 1,.clo _ a b=>a.any (AP n) || b.any (AP n)
 | _ + 1,.ptr _ _ _ _=>true
 | _ + 1,_=>false
def CP (f:AV -> (AV -> List (Nat × Nat) -> Prop) -> Prop):List AV -> (List AV -> List (Nat × Nat) -> Prop) -> Prop
 | [],K=>K [] []
 | c :: l,K=>f c fun c' m=>CP f l fun l' m'=>K (c' :: l') (m ++ m')
def oD (hp:List (Nat × aG)):Nat -> AV -> (AV -> List (Nat × Nat) -> Prop) -> Prop
 | 0,_,_=>False
 | n + 1,.agg cs,K=>CP (oD hp n) cs fun l m=>K (.agg l) m
 | n + 1,.dM cs,K=>CP (oD hp n) cs fun l m=>K (.dM l) m
 | n + 1,.clo f a b,K=>CP (oD hp n) a fun l m=>CP (oD hp n) b fun l' m'=>K (.clo f l l') (m ++ m')
 | n + 1,.own r ver off len,K =>
   match get hp r with
   | some k=>kX k fun sz _ v' _ box es=>chk (Nat.beq v' ver && !box) (gJ (off + len <= es.length) (K (.lst sz ((es.drop off).take len)) [(r,off + len)]))
   | none=>False
 | n + 1,.ptr _ _ _ _,K=>False
 | n + 1,x,K=>K x []
def wF (hp:List (Nat × aG)):List (Nat × Nat) -> (List (Nat × aG) -> Prop) -> Prop
 | [],R=>R hp
 | (r,n) :: l,R=>match get hp r with | some k=>kX k (fun sz ty v' fH box es=>wF ((r,⟨sz,ty,v',max fH (min n es.length),box,es⟩) :: hp) l R) | none=>wF hp l R
def lG (sl:List (Nat × AV)) (hp:List (Nat × aG)):List AV -> (List AV -> List (Nat × aG) -> Prop) -> Prop
 | [],K=>K [] hp
 | x :: l,K=>oD hp deep x fun y m=>wF hp m fun hp'=>lG sl hp' l fun l' hp''=>K (y :: l') hp''
def qQ (T:Tab) (t:TypeId) (cs:List AV) (K:AV -> Prop):Prop :=
 match get T.tz t with
 | some (true,n)=>gJ (n <= cs.length) (K (.agg (cs.take n)))
 | some (false,_)=>(match cs with | c :: _=>K c | []=>False)
 | none=>False
def Ez (op:BinOp) (k:IntKind) (a b:Int) (K:Value -> Prop):Prop :=
 match op with
 | .add=>K (.int k (k.wrap (a + b)))
 | .sub=>K (.int k (k.wrap (a - b)))
 | .mul=>K (.int k (k.wrap (a * b)))
 | .quo=>gJ (b ≠ 0) (K (.int k (k.wrap (a.tdiv b))))
 | .rem=>gJ (b ≠ 0) (K (.int k (a.tmod b)))
 | .and=>K (.int k (bitsOf .and k a b))
 | .or=>K (.int k (bitsOf .or k a b))
 | .xor=>K (.int k (bitsOf .xor k a b))
 | .andNot=>K (.int k (bitsOf .andNot k a b))
 | .shl=>gJ (0 <= b) (K (.int k (k.wrap (a * 2 ^ min b.toNat k.bits))))
 | .shr=>gJ (0 <= b) (K (.int k (a.fdiv (2 ^ min b.toNat k.bits))))
 | .eql=>K (.bool (decide (a = b)))
 | .neq=>K (.bool (!decide (a = b)))
 | .lss=>K (.bool (decide (a < b)))
 | .leq=>K (.bool (decide (a <= b)))
 | .gtr=>K (.bool (decide (b < a)))
 | .geq=>K (.bool (decide (b <= a)))
def Qm:IntKind -> IntKind -> Bool:=fun a b=>decide (a = b)
def KD:BinOp -> Bool | .shl | .shr=>true | _=>false
def Gt (T:Tab) (op:BinOp) (t:TypeId) (x y:AV) (K:Value -> Prop):Prop :=
 match x,y with
 | .v (.int k a),.v (.int k' b)=>AO (KD op || Qm k k') (Ez op k a b K)
 | .v (.string a),.v (.string b) =>
   (match op with
   | .add=>gJ (a.size + b.size <= maxLen) (K (.string (a ++ b)))
   | .eql=>K (.bool (decide (a = b)))
   | .neq=>K (.bool (!decide (a = b)))
   | _=>False)
 | .v (.bool a),.v (.bool b) =>
   (match op,get T.nK t with
   | .eql,some .bool=>K (.bool (a == b))
   | .neq,some .bool=>K (.bool (a != b))
   | _,_=>False)
 | .agg [.v (.int .i64 a),.v (.int .i64 b),.v (.string s)],.agg [.v (.int .i64 a'),.v (.int .i64 b'),.v (.string s')] =>
   (match op,T.eq.contains t with
   | .eql,true=>K (.bool (decide (a = a' /\ b = b' /\ s = s')))
   | .neq,true=>K (.bool (!decide (a = a' /\ b = b' /\ s = s')))
   | _,_=>False)
 | .v (.pointer none),.v (.pointer none) =>
   (match op,get T.nK t with
   | .eql,some .ptr=>K (.bool true)
   | .neq,some .ptr=>K (.bool false)
   | _,_=>False)
 | p,.v (.pointer none) =>
   (match op,get T.nK t,vW p with
   | .eql,some .ptr,true=>K (.bool false)
   | .neq,some .ptr,true=>K (.bool true)
   | _,_,_=>False)
 | _,_=>False
def uw (hp:List (Nat × aG)) (x:AV) (K:List (List AV) -> Prop):Prop :=
 match x with
 | .lst _ xs=>K xs
 | .v (.slice none 0 0)=>K []
 | .own r ver off len =>
   (match get hp r with
   | some k=>kX k fun _ _ v' _ box es=>chk (Nat.beq v' ver && !box) (gJ (off + len <= es.length) (K ((es.drop off).take len)))
   | none=>False)
 | _=>False
def bY (xs:List (List AV)) (K:List UInt8 -> Prop):Prop:=match xs.mapM toByte with | some bs=>K bs | none=>False
theorem CY {xs:List (List AV)} {K:List UInt8 -> Prop} (bs:List UInt8) (h:xs.mapM toByte = some bs) (k:K bs):bY xs K:=by unfold bY;rw [h];exact k
def runK (xs:List (List AV)) (K:List Int -> Prop):Prop:=match xs.mapM rF with | some ns=>K ns | none=>False
theorem CZ {xs:List (List AV)} {K:List Int -> Prop} (ns:List Int) (h:xs.mapM rF = some ns) (k:K ns):runK xs K:=by unfold runK;rw [h];exact k
theorem qw {xs:List (List AV)} {K:List UInt8 -> Prop} (h:bY xs K):∃ bs,xs.mapM toByte = some bs /\ K bs:=by
 unfold bY at h;split at h
 · rename_i bs hb;exact ⟨bs,hb,h⟩
 · exact h.elim
theorem qx {xs:List (List AV)} {K:List Int -> Prop} (h:runK xs K):∃ ns,xs.mapM rF = some ns /\ K ns:=by
 unfold runK at h;split at h
 · rename_i bs hb;exact ⟨bs,hb,h⟩
 · exact h.elim
def nM (T:Tab) (src dst:TypeId) (hp:List (Nat × aG)) (x:AV) (K:AV -> Prop):Prop :=
 match get T.nK src,get T.nK dst,x with
 | some _,some (.int k),.v (.int _ n)=>K (.v (.int k (k.wrap n)))
 | some .str,some .str,.v (.string b)=>K (.v (.string b))
 | some .str,some (.sl e),.v (.string b) =>
   (match get T.nK e with
   | some (.int .u8)=>K (.lst 1 (PX b.data.toList))
   | some (.int .i32)=>gJ (b.size <= 70368744177664) (K (.lst 1 (jh b)))
   | _=>False)
 | some (.sl e),some .str,x =>
   (match get T.nK e with
   | some (.int .u8)=>uw hp x fun xs=>bY xs fun bs=>K (.v (.string ⟨bs.toArray⟩))
   | some (.int .i32)=>uw hp x fun xs=>runK xs fun ns=>K (.v (.string (runesBytes ns)))
   | _=>False)
 | _,_,_=>False
def Qn (T:Tab) (src:TypeId) (r v off len:Nat) (hp:List (Nat × aG)) (ct:Nat) (K:AV -> List (Nat × aG) -> Nat -> Prop):Prop :=
 match get T.nK src,get hp r with
 | some (.sl e),some k =>
   (match get T.nK e with
   | some (.int .u8)=>kX k fun sz ty v' fH box es=>chk (!box && Nat.beq v' v) (gJ (0 < len /\ off + len <= es.length) (K (.lst sz ((es.drop off).take len)) (Iz r hp) ct))
   | _=>False)
 | _,_=>False
def uM (places:List (Nat × Nat)) (cells:List AV):List (Nat × AV) -> (List AV -> Prop) -> Prop
 | [],K=>K cells
 | (i,x) :: rest,K =>
   match places[i]?,cellsOf x with
   | some (off,size),some cs=>AO (Nat.beq cs.length size && Nat.ble (off + size) cells.length) (uM places (dN cells off cs) rest K)
   | _,_=>False
def rJ (E:Env) (sl:List (Nat × AV)):List (Nat × Operand) -> Option (List (Nat × AV))
 | []=>some []
 | (i,x) :: l=>match aZ E sl x with | some a=>(match rJ E sl l with | some r=>some ((i,a) :: r) | none=>none) | none=>none
def EC:Nat -> List (Nat × AV) -> Bool
 | _,[]=>true
 | j,(i,_) :: l=>Nat.beq i j && EC (j + 1) l
def Qo (n:Nat):List AV -> Option (List (List AV))
 | []=>some []
 | x :: rest =>
   match cellsOf x with
   | some cs=>(match Nat.beq cs.length n with | true=>(match Qo n rest with | some l=>some (cs :: l) | none=>none) | false=>none)
   | none=>none
def Gu (E:Env) (sl:List (Nat × AV)):Option Operand -> Option (Option Int)
 | none=>some none
 | some x=>match aZ E sl x with | some (.v (.int _ n))=>some (some n) | _=>none
def zI (len:Nat) (lo hi:Option Int) (K:Nat -> Nat -> Prop):Prop :=
 match lo,hi with
 | none,none=>K 0 len
 | some l,none=>gJ (0 <= l /\ l <= len) (K l.toNat len)
 | none,some h=>gJ (0 <= h /\ h <= len) (K 0 h.toNat)
 | some l,some h=>gJ (0 <= l /\ l <= h /\ h <= len) (K l.toNat h.toNat)
def iZ (T:Tab) (t:TypeId) (hp:List (Nat × aG)) (x:AV) (lo hi mx:Option Int) (K:AV -> Prop):Prop :=
 match x with
 | .v (.string b)=>(match get T.nK t,mx with | some .str,none=>zI b.size lo hi fun l h=>K (.v (.string (b.extract l h))) | _,_=>False)
 | .v (.slice none 0 0)=>(match get T.sl t,mx with | some _,none=>zI 0 lo hi fun _ _=>K (.v (.slice none 0 0)) | _,_=>False)
 | .lst sz xs =>
   (match get T.sl t with
   | some (_,sz',_)=>AO (Nat.beq sz sz') (zI xs.length lo hi fun l h=>(match mx with | none=>K (.lst sz ((xs.drop l).take (h - l))) | some m=>gJ (hi.isSome = true /\ (h:Int) <= m /\ m <= xs.length) (K (.lst sz ((xs.drop l).take (h - l))))))
   | none=>False)
 | .own r ver off len =>
   (match get T.sl t,get hp r,mx with
   | some (_,sz',_),some k,none=>kX k fun sz _ v' _ _ _=>chk (Nat.beq v' ver && Nat.beq sz sz') (zI len lo hi fun l h=>K (.own r ver (off + l) (h - l)))
   | _,_,_=>False)
 | _=>False
def IQ (T:Tab) (nm:Nat) (t:TypeId) (hp:List (Nat × aG)) (ct:Nat) (x:AV) (ys:List (List AV)) (K:AV -> List (Nat × aG) -> Nat -> Prop):Prop :=
 match get T.sl t with
 | some (e,n,by',_) =>
   (match x with
   | .v (.slice none 0 0) =>
     (match get hp nm with
     | none=>gJ ((∀ y ∈ ys,y.length = n) /\ ys.length <= maxLen /\ ys.length * by' <= 140737488355328) (K (.own nm ct 0 ys.length) ((nm,⟨n,e,ct,0,false,ys⟩) :: hp) (ct + 8))
     | some _=>False)
   | .own r v off len =>
     (match get hp r with
     | some k=>kX k fun sz ty v' fH box es=>chk (Nat.beq v' v && !box && Nat.beq sz n && Nat.beq ty e) (gJ (off = 0 /\ len = es.length /\ (∀ y ∈ ys,y.length = n) /\ len + ys.length <= maxLen /\ (len + ys.length) * by' <= 140737488355328)
         (K (.own r ct 0 (len + ys.length)) ((r,⟨sz,ty,ct,fH,box,es ++ ys⟩) :: hp) (ct + 8)))
     | none=>False)
   | _=>False)
 | none=>False
structure C9 (E:Env) (f:FuncId) (args:List AV) (hp:List (Nat × aG)) (nm ct:Nat) (K:AV -> List (Nat × aG) -> Nat -> Prop):Prop where
 out:aO E f args fun r hs=>hs.length <= 8 /\ free hp nm hs.length /\ K (shift nm ct r) (St.adds nm ct 0 hs ⟨[],hp,0⟩).hp (ct + hs.length)
structure dK (E:Env) (nm:Nat) (f:FuncId) (args:List AV) (hp:List (Nat × aG)) (ct:Nat) (K:AV -> List (Nat × aG) -> Nat -> Prop):Prop where
 out:∃ N,dn E N f args hp fun r hp'=>∀ c',ct + 8 <= c' -> K r hp' c'
def uN (E:Env) (T:Tab) (hs:List FuncId) (nm:Nat) (cl:Call) (sl:List (Nat × AV)) (hp:List (Nat × aG)) (ct:Nat) (K:AV -> List (Nat × aG) -> Nat -> Prop):Prop :=
 match cl.callee,cl.args.toList,cl.argTypes.toList with
 | .builtin .len,[x],[t] =>
   (match aZ E sl x with
   | some (.v (.string b))=>(match get T.nK t with | some .str=>K (.v (.int .i64 b.size)) hp ct | _=>False)
   | some a=>(match lenOf a,get T.sl t with | some n,some _=>K (.v (.int .i64 n)) hp ct | _,_=>False)
   | none=>False)
 | .builtin .min,[x,y],_ =>
   (match aZ E sl x,aZ E sl y with
   | some (.v (.int k a)),some (.v (.int _ b))=>K (.v (.int k (min a b))) hp ct
   | _,_=>False)
 | .builtin .max,[x,y],_ =>
   (match aZ E sl x,aZ E sl y with
   | some (.v (.int k a)),some (.v (.int _ b))=>K (.v (.int k (max a b))) hp ct
   | _,_=>False)
 | .builtin .append,[x,y],[t,t'] =>
   (match aZ E sl x,aZ E sl y with
   | some a,some (.v (.string b))=>(match get T.nK t' with | some .str=>IQ T nm t hp ct a (PX b.data.toList) K | _=>False)
   | some a,some b=>(match get T.sl t' with | some _=>uw hp b fun ys=>IQ T nm t hp ct a ys K | none=>False)
   | _,_=>False)
 | .builtin .copy,[x,y],[t,t'] =>
   (match aZ E sl x,aZ E sl y,get T.sl t with
   | some (.own r v off len),some b,some (_,n,_,_) =>
     uw hp b fun ys =>
       (match get hp r with
       | some k=>kX k fun sz ty v' fH box es=>chk (Nat.beq v' v && Nat.beq sz n) (gJ (fH <= off /\ off + len <= es.length /\ ys.length = len /\ (∀ y ∈ ys,y.length = n))
           (K (.v (.int .i64 len)) ((r,⟨sz,ty,v',fH,box,es.take off ++ ys ++ es.drop (off + len)⟩) :: hp) ct))
       | none=>False)
   | _,_,_=>False)
 | .builtin .clear,[x],[t] =>
   (match aZ E sl x,get T.sl t with
   | some (.own r v off len),some (_,n,_,cs) =>
     (match get hp r with
     | some k=>kX k fun sz ty v' fH box es=>chk (Nat.beq v' v && Nat.beq sz n) (gJ (fH <= off /\ off + len <= es.length)
         (K (.v (.tuple #[])) ((r,⟨sz,ty,v',fH,box,es.take off ++ List.replicate len cs ++ es.drop (off + len)⟩) :: hp) ct))
     | none=>False)
   | _,_=>False)
 | .value f,args,_ =>
   (match aZ E sl f,wE E sl args with
   | some (.clo (.func g) first caps),some as =>
     (match hs.contains g with
     | true=>dK E.base nm g (first ++ as ++ caps) hp ct K
     | false=>lG sl hp (first ++ as ++ caps) fun ys hp'=>C9 E.base g ys hp' nm ct K)
   | _,_=>False)
 | _,_,_=>False
def cellsE (hp:List (Nat × aG)) (x:AV) (K:List AV -> Prop):Prop :=
 match x with
 | .fO cs=>K cs
 | .ptr r ver i o =>
   (match get hp r with
   | some k=>kX k fun _ _ v' _ _ es=>chk (Nat.beq v' ver) (CO es i fun e=>K (e.drop o))
   | none=>False)
 | _=>False
def yc (T:Tab) (t:TypeId) (p x:AV) (sl:List (Nat × AV)) (hp:List (Nat × aG)) (ct:Nat) (K:List (Nat × aG) -> Prop):Prop :=
 match p,get T.tz t with
 | .ptr r v i o,some (_,n) =>
   (match get hp r with
   | some k =>
     (match k.box with
     | true =>
       (match cellsOf x with
       | some cs=>kX k fun sz ty v' fH box es=>chk (Nat.beq v' v && Nat.beq cs.length n && Nat.ble (o + n) sz) (gJ (fH <= i) (CO es i fun e=>K ((r,⟨sz,ty,v',fH,box,es.set i (dN e o cs)⟩) :: hp)))
       | none=>False)
     | false=>oD hp deep x fun y m=>wF hp m fun hp' =>
       (match get hp' r,cellsOf y with
       | some k,some cs=>kX k fun sz ty v' fH box es=>chk (!box && Nat.beq v' v && Nat.beq cs.length n && Nat.ble (o + n) sz) (gJ (fH <= i) (CO es i fun e=>K ((r,⟨sz,ty,v',fH,box,es.set i (dN e o cs)⟩) :: hp')))
       | _,_=>False))
   | none=>False)
 | _,_=>False
def bP (E:Env) (T:Tab) (hs:List FuncId) (nm:Nat) (op:Op) (sl:List (Nat × AV)) (hp:List (Nat × aG)) (ct:Nat) (K:AV -> List (Nat × aG) -> Nat -> Prop):Prop :=
 match op with
 | .move x | .assign x=>match aZ E sl x with | some a=>K a hp ct | none=>False
 | .store t p x=>match aZ E sl p,aZ E sl x with | some a,some b=>yc T t a b sl hp ct fun hp'=>K (.v (.tuple #[])) hp' ct | _,_=>False
 | .pick c a b =>
   (match aZ E sl c with
   | some (.v (.bool t))=>Gq t (zH (aZ E sl a) fun x=>K x hp ct) (zH (aZ E sl b) fun x=>K x hp ct)
   | _=>False)
 | .alloc t =>
   (match get T.zc t,get hp nm with
   | some cs,none=>K (.ptr nm ct 0 0) ((nm,⟨cs.length,t,ct,0,true,[cs]⟩) :: hp) (ct + 8)
   | _,_=>False)
 | .box t x =>
   (match aZ E sl x,get hp nm with
   | some a,none=>(match cellsOf a with | some cs=>K (.ptr nm ct 0 0) ((nm,⟨cs.length,t,ct,0,true,[cs]⟩) :: hp) (ct + 8) | none=>False)
   | _,_=>False)
 | .build t parts =>
   (match get T.ly t,rJ E sl parts.toList with
   | some (z,places),some l=>uM places z l fun cs=>K (.agg cs) hp ct
   | _,_=>False)
 | .buildSlice t len parts =>
   (match get T.sl t,rJ E sl parts.toList with
   | some (e,n,_,_),some l=>AO (Nat.ble (n * len) 16777216 && Nat.beq l.length len && EC 0 l) (match (l.map Prod.snd).any (AP deep) with
     | true=>(match Qo n (l.map Prod.snd),get hp nm with
       | some es,none=>K (.own nm ct 0 len) ((nm,⟨n,e,ct,0,true,es⟩) :: hp) (ct + 8)
       | _,_=>False)
     | false=>lG sl hp (l.map Prod.snd) fun ys hp'=>match Qo n ys,get hp' nm with
       | some es,none=>K (.own nm ct 0 len) ((nm,⟨n,e,ct,0,false,es⟩) :: hp') (ct + 8)
       | _,_=>False)
   | _,_=>False)
 | .load t p =>
   (match aZ E sl p with
   | some a=>cellsE hp a fun cs=>qQ T t cs fun x=>K x hp ct
   | none=>False)
 | .nilCheck x =>
   (match aZ E sl x with
   | some (.fO cs)=>K (.fO cs) hp ct
   | some (.ptr r v i o)=>K (.ptr r v i o) hp ct
   | _=>False)
 | .binOp op t x y _=>(match aZ E sl x,aZ E sl y with | some a,some b=>Gt T op t a b fun v=>K (.v v) hp ct | _,_=>False)
 | .unOp op _ x =>
   (match op,aZ E sl x with
   | .not,some (.v (.bool b))=>K (.v (.bool (!b))) hp ct
   | .neg,some (.v (.int k n))=>K (.v (.int k (k.wrap (0 - n)))) hp ct
   | _,_=>False)
 | .convert src dst x =>
   (match aZ E sl x with
   | some a=>(match Nat.beq src dst,a with | true,.own r v off len=>Qn T src r v off len hp ct K | _,a=>nM T src dst hp a fun y=>K y hp ct)
   | none=>False)
 | .makeFunc fn first caps=>(match wE E sl first.toList,wE E sl caps.toList with | some a,some b=>K (.clo fn a b) hp ct | _,_=>False)
 | .fieldAddr t x f =>
   (match get T.fd t,aZ E sl x with
   | some l,some (.fO cs)=>(match l[f]? with | some (o,_,n + 1)=>K (.fO (cs.drop o)) hp ct | _=>False)
   | some l,some (.ptr r Et i o')=>(match l[f]? with | some (o,_,n + 1)=>K (.ptr r Et i (o' + o)) hp ct | _=>False)
   | _,_=>False)
 | .field t x f =>
   (match get T.fd t,aZ E sl x with
   | some l,some (.agg cs)=>(match l[f]? with | some (o,t',_)=>qQ T t' (cs.drop o) fun y=>K y hp ct | _=>False)
   | _,_=>False)
 | .indexAddr t x i =>
   (match aZ E sl x,aZ E sl i with
   | some (.lst z xs),some (.v (.int _ n))=>(match get T.sl t with | some (_,sz,_)=>AO (Nat.beq z sz) (gJ (0 <= n /\ n < xs.length) (CO xs n.toNat fun e=>K (.fO e) hp ct)) | none=>False)
   | some (.own r v off len),some (.v (.int _ n)) =>
     (match get T.sl t,get hp r with | some (_,sz,_),some k=>kX k fun sz' _ v' _ _ _=>chk (Nat.beq v' v && Nat.beq sz' sz) (gJ (0 <= n /\ n < len) (K (.ptr r v (off + n.toNat) 0) hp ct)) | _,_=>False)
   | some (.fO cs),some (.v (.int _ n))=>(match get T.ar t with | some (m,_,sz)=>gJ (0 <= n /\ n < m) (K (.fO (cs.drop (n.toNat * sz))) hp ct) | none=>False)
   | some (.ptr r v j o),some (.v (.int _ n))=>(match get T.ar t with | some (m,_,sz)=>gJ (0 <= n /\ n < m) (K (.ptr r v j (o + n.toNat * sz)) hp ct) | none=>False)
   | _,_=>False)
 | .index t x i =>
   (match aZ E sl x,aZ E sl i with
   | some (.v (.string b)),some (.v (.int _ n))=>(match get T.nK t with | some .str=>gJ (0 <= n /\ n < b.size) (K (.v (.int .u8 (iF b n.toNat))) hp ct) | _=>False)
   | some (.agg cs),some (.v (.int _ n)) =>
     (match get T.ar t with
     | some (m,e,sz)=>gJ (0 <= n /\ n < m) (qQ T e (cs.drop (n.toNat * sz)) fun y=>K y hp ct)
     | none=>False)
   | _,_=>False)
 | .extract x i=>(match aZ E sl x with | some (.dM xs)=>(match xs[i]? with | some a=>K a hp ct | none=>False) | _=>False)
 | .slice t x lo hi mx =>
   (match aZ E sl x,Gu E sl lo,Gu E sl hi,Gu E sl mx with
   | some a,some l,some h,some m=>iZ T t hp a l h m fun y=>K y hp ct
   | _,_,_,_=>False)
 | .makeSlice t l cp =>
   (match get T.sl t,aZ E sl l,aZ E sl cp,get hp nm with
   | some (e,n,by',cs),some (.v (.int .i64 a)),some (.v (.int .i64 b)),none =>
     gJ (b = a /\ 0 <= a /\ a <= maxLen /\ a * by' <= 140737488355328) (K (.own nm ct 0 a.toNat) ((nm,⟨n,e,ct,0,false,List.replicate a.toNat cs⟩) :: hp) (ct + 8))
   | _,_,_,_=>False)
 | .call cl=>uN E T hs nm cl sl hp ct K
 | _=>False
def wG (sl:List (Nat × AV)):List Nat -> List (Nat × AV) -> (List (Nat × AV) -> Prop) -> Prop
 | [],acc,Q=>Q acc
 | k :: ks,acc,Q=>match get sl k with | some x=>wG sl ks ((k,x) :: acc) Q | none=>wG sl ks acc Q
def gZ (E:Env) (T:Tab) (hs:List FuncId) (base:Nat):Ins -> List (Nat × AV) -> List (Nat × aG) -> Nat -> (List (Nat × AV) -> List (Nat × aG) -> Nat -> Prop) -> Prop
 | ⟨i,d,op,none⟩,sl,hp,ct,R=>bP E T hs (base + i * 8) op sl hp ct fun x hp' aW=>qW d x sl fun sl'=>R sl' hp' aW
 | ⟨i,d,op,some (t,want)⟩,sl,hp,ct,R =>
   match get sl t with
   | some (.v (.bool b)) =>
     (match want with
     | true=>Gq b (bP E T hs (base + i * 8) op ((t,.v (.bool true)) :: sl) hp ct fun x hp' aW=>qW d x ((t,.v (.bool true)) :: sl) fun sl'=>R sl' hp' aW)
         (qW d (.v (.tuple #[])) ((t,.v (.bool false)) :: sl) fun sl'=>R sl' hp ct)
     | false=>Gq b (qW d (.v (.tuple #[])) ((t,.v (.bool true)) :: sl) fun sl'=>R sl' hp ct)
         (bP E T hs (base + i * 8) op ((t,.v (.bool false)) :: sl) hp ct fun x hp' aW=>qW d x ((t,.v (.bool false)) :: sl) fun sl'=>R sl' hp' aW))
   | some (.v (.tuple _))=>qW d (.v (.tuple #[])) sl fun sl'=>R sl' hp ct
   | _=>False
def rM (E:Env) (T:Tab) (hs:List FuncId) (base:Nat):List Ins -> List (Nat × AV) -> List (Nat × aG) -> Nat -> (St -> Prop) -> Prop
 | [],sl,hp,ct,Q=>wG sl E.keep [] fun sl'=>Q ⟨sl',hp,ct⟩
 | i :: rest,sl,hp,ct,Q=>gZ E T hs base i sl hp ct fun sl' hp' aW=>rM E T hs base rest sl' hp' aW Q
def UQ (E:Env):List (Nat × AV) -> List (Nat × aG) -> Nat -> (St -> Prop) -> Prop:=fun sl hp ct Q=>wG sl E.keep [] fun sl'=>Q ⟨sl',hp,ct⟩
def KE (E:Env) (T:Tab) (hs:List FuncId) (base:Nat) (a:Ins) (r:List (Nat × AV) -> List (Nat × aG) -> Nat -> (St -> Prop) -> Prop):List (Nat × AV) -> List (Nat × aG) -> Nat -> (St -> Prop) -> Prop :=
 fun sl hp ct Q=>gZ E T hs base a sl hp ct fun sl' hp' aW=>r sl' hp' aW Q
theorem ak {E:Env} {T:Tab} {hs:List FuncId} {base:Nat}:rM E T hs base [] = UQ E:=rfl
theorem aj {E:Env} {T:Tab} {hs:List FuncId} {base:Nat} {a:Ins} {l:List Ins}:rM E T hs base (a :: l) = KE E T hs base a (rM E T hs base l):=rfl
end Ev
namespace Ev
theorem eY {b:Bool} {A:Prop} (h:chk b A):b = true /\ A:=⟨h.1,h.2⟩
theorem eH {b:Bool} {A:Prop} (h:AO b A):b = true /\ A:=by cases b;exact h.elim;exact ⟨rfl,h⟩
section
variable {E:Env} {T:Tab} {sl:List (Nat × AV)} {hp:List (Nat × aG)} {ct nm:Nat}
theorem oU (hp:List (Nat × aG)) (ct:Nat) (x:Operand):aZ E sl x = oper E ⟨sl,hp,ct⟩ x:=by
 cases x with
 | tmp t=>rfl
 | const v=>cases v <;> rfl
 | global g=>rfl
 | func f=>rfl
theorem AQ (hp:List (Nat × aG)) (ct:Nat):∀ l,wE E sl l = rG E ⟨sl,hp,ct⟩ l
 | []=>rfl
 | x :: l=>by
   simp only [wE,rG,oU hp ct,AQ hp ct l]
   cases oper E ⟨sl,hp,ct⟩ x <;> cases rG E ⟨sl,hp,ct⟩ l <;> rfl
theorem Dc (hp:List (Nat × aG)) (ct:Nat):∀ l,rJ E sl l = vX E ⟨sl,hp,ct⟩ l
 | []=>rfl
 | (i,x) :: l=>by
   simp only [rJ,vX,oU hp ct,Dc hp ct l]
   cases oper E ⟨sl,hp,ct⟩ x <;> cases vX E ⟨sl,hp,ct⟩ l <;> rfl
theorem mJ {s:St} {n:Nat} {f:AV -> (AV -> List (Nat × Nat) -> Prop) -> Prop} (hf:∀ x K,f x K -> ∃ y,iE s n x = some y /\ K y (reads n x)) :
   ∀ (l:List AV) (K:List AV -> List (Nat × Nat) -> Prop),CP f l K -> ∃ ys,l.mapM (iE s n) = some ys /\ K ys (l.flatMap (reads n))
 | [],K,h=>⟨[],by simp,h⟩
 | c :: l,K,h=>by
   simp only [CP] at h
   obtain ⟨y,hy,h⟩:=hf c _ h
   obtain ⟨ys,hys,h⟩:=mJ hf l _ h
   exact ⟨y :: ys,by simp [List.mapM_cons,hy,hys],by simpa using h⟩
theorem mM {s:St}:∀ (n:Nat) (x:AV) (K:AV -> List (Nat × Nat) -> Prop),oD s.hp n x K -> ∃ y,iE s n x = some y /\ K y (reads n x)
 | 0,x,K,h=>by simp only [oD,bF] at h
 | n + 1,x,K,h=>by
   cases x with
   | v x=>exact ⟨_,rfl,h⟩
   | lst sz xs=>exact ⟨_,rfl,h⟩
   | fO cs=>exact ⟨_,rfl,h⟩
   | ptr r v i o=>exact h.elim
   | agg cs =>
     simp only [oD,bF] at h
     obtain ⟨ys,a,b⟩:=mJ (mM n) cs _ h
     exact ⟨_,by simp [iE,a],b⟩
   | dM cs =>
     simp only [oD,bF] at h
     obtain ⟨ys,a,b⟩:=mJ (mM n) cs _ h
     exact ⟨_,by simp [iE,a],b⟩
   | clo f p q =>
     simp only [oD,bF] at h
     obtain ⟨ys,a,h⟩:=mJ (mM n) p _ h
     obtain ⟨zs,b,h⟩:=mJ (mM n) q _ h
     exact ⟨_,by simp [iE,a,b],h⟩
   | own r ver off len =>
     simp only [oD,bF] at h
     split at h
     · rename_i k hk
       obtain ⟨hb,h⟩:=eY h
       obtain ⟨h1,h2⟩:=h
       rw [Bool.and_eq_true,Nat.beq_eq] at hb
       refine ⟨_,?_,h2⟩
       simp only [iE,hk]
       rw [if_pos ⟨hb.1,h1,by simpa using hb.2⟩]
     · exact h.elim
theorem ED:∀ (m:List (Nat × Nat)) (sl:List (Nat × AV)) (hp:List (Nat × aG)) (ct:Nat) (R:List (Nat × aG) -> Prop),wF hp m R -> R (St.freeze ⟨sl,hp,ct⟩ m).hp /\ (St.freeze ⟨sl,hp,ct⟩ m).sl = sl /\ (St.freeze ⟨sl,hp,ct⟩ m).ctr = ct
 | [],sl,hp,ct,R,h=>⟨h,rfl,rfl⟩
 | (r,n) :: m,sl,hp,ct,R,h=>by
   simp only [wF,bF] at h
   simp only [St.freeze]
   cases hg:get hp r with
   | none=>rw [hg] at h;exact ED m sl hp ct R h
   | some k=>rw [hg] at h;exact ED m sl _ ct R h
theorem qy {x:AV} {K:AV -> List (Nat × aG) -> Prop} (h:oD hp deep x fun y m=>wF hp m fun hp'=>K y hp') {K':AV -> St -> Prop} (hk:∀ y hp',K y hp' -> K' y ⟨sl,hp',ct⟩):St.pure ⟨sl,hp,ct⟩ x K':=by
 obtain ⟨y,hy,h⟩:=mM (s:=⟨sl,hp,ct⟩) deep x _ h
 obtain ⟨a,b,c⟩:=ED _ sl hp ct _ h
 unfold St.pure
 rw [hy]
 show K' y (St.freeze ⟨sl,hp,ct⟩ (reads deep x))
 have:=hk _ _ a
 have e:St.freeze ⟨sl,hp,ct⟩ (reads deep x) = ⟨sl,(St.freeze ⟨sl,hp,ct⟩ (reads deep x)).hp,ct⟩:=by
   revert b c;generalize St.freeze ⟨sl,hp,ct⟩ (reads deep x) = s1;rintro b c;subst b;subst c;rfl
 rw [e];exact this
theorem kY:∀ (l:List AV) {hp:List (Nat × aG)} {K:List AV -> List (Nat × aG) -> Prop},lG sl hp l K -> ∀ {K':List AV -> St -> Prop},(∀ ys hp',K ys hp' -> K' ys ⟨sl,hp',ct⟩) -> St.nP ⟨sl,hp,ct⟩ l K'
 | [],hp,K,h,K',hk=>hk _ _ h
 | x :: l,hp,K,h,K',hk=>by
   simp only [lG] at h
   simp only [St.nP]
   exact qy (K:=fun y hp'=>lG sl hp' l fun l' hp''=>K (y :: l') hp'') h (fun y hp' h'=>kY l h' (fun ys hp'' h''=>hk _ _ h''))
theorem aek{G:Prop}(h:G:=by unfold kindOf at h;split at h <;> simp_all):G:=h
theorem jC {P:Program} {t:TypeId} (h:kindOf P t = some .str):P.underlying t = some .string:=by
 refine' aek
theorem kind_int {P:Program} {t:TypeId} {k:IntKind} (h:kindOf P t = some (.int k)):P.underlying t = some (.int k):=by
 refine' aek
theorem Df {P:Program} {t:TypeId} (h:kindOf P t = some .bool):P.underlying t = some .bool:=by
 refine' aek
theorem wH {P:Program} {t:TypeId} (h:kindOf P t = some .ptr):∃ e,P.underlying t = some (.pointer e):=by
 refine' aek
theorem wI {P:Program} {t e:TypeId} (h:kindOf P t = some (.sl e)):P.underlying t = some (.slice e):=by
 refine' aek
theorem MQ {P:Program} {t:TypeId} {k:TK} (h:kindOf P t = some k):∃ d,P.underlying t = some d:=by
 unfold kindOf at h;split at h <;> first | exact ⟨_,by assumption⟩ | simp_all
variable (hT:jA E.P T)
include hT
theorem nX {t:TypeId} {cs:List AV} {K:AV -> Prop} (h:qQ T t cs K):∃ x,partOf E.P t cs = some x /\ K x:=by
 unfold qQ at h
 split at h
 · rename_i n hn
   refine ⟨_,?_,h.2⟩
   unfold partOf;rw [hT.tz _ _ hn];simp only;rw [if_pos h.1]
 · rename_i n hn
   split at h
   · rename_i c l
     exact ⟨c,by unfold partOf;rw [hT.tz _ _ hn];rfl,h⟩
   · exact h.elim
 · exact h.elim
omit hT in
theorem IU {op:BinOp} {k:IntKind} {a b:Int} {K K':Value -> Prop} (h:Ez op k a b K) (hk:∀ v,K v -> K' v):P5 op k a b K':=by
 cases op <;> simp only [Ez,P5] at h ⊢ <;> first | exact hk _ h | exact ⟨h.1,hk _ h.2⟩ | (have:=hk _ h;simpa using this)
theorem IV {op:BinOp} {t:TypeId} {x y:AV} {K K':Value -> Prop} (h:Gt T op t x y K) (hk':∀ v,K v -> K' v):Cm E.P op t x y K':=by
 unfold Gt at h
 split at h
 · rename_i k a k' b
   obtain ⟨hb,h⟩:=eH h
   refine ⟨?_,IU h hk'⟩
   rw [Bool.or_eq_true] at hb
   rcases hb with hb | hb
   · unfold KD at hb;split at hb <;> simp_all
   · exact .inl (by simpa [Qm] using hb)
 · rename_i a b
   unfold Cm UJ
   split at h
   · exact ⟨h.1,hk' _ h.2⟩
   · exact hk' _ h
   · have:=hk' _ h;simpa using this
   · exact h.elim
 · rename_i a b
   unfold Cm
   split at h
   · rename_i hk;rw [Df (hT.nK _ _ hk)];exact hk' _ h
   · rename_i hk;rw [Df (hT.nK _ _ hk)];exact hk' _ h
   · exact h.elim
 · unfold Cm
   split at h
   · rename_i hk;exact ⟨hT.eq _ hk,hk' _ h⟩
   · rename_i hk;exact ⟨hT.eq _ hk,hk' _ h⟩
   · exact h.elim
 · unfold Cm
   split at h
   · rename_i hk;obtain ⟨e,he⟩:=wH (hT.nK _ _ hk);rw [he];exact hk' _ h
   · rename_i hk;obtain ⟨e,he⟩:=wH (hT.nK _ _ hk);rw [he];exact hk' _ h
   · exact h.elim
 · split at h
   · rename_i hk hp;obtain ⟨e,he⟩:=wH (hT.nK _ _ hk)
     cases x <;> first | (simp [vW] at hp;done) | (simp only [Cm,he];exact ⟨rfl,hk' _ h⟩)
   · rename_i hk hp;obtain ⟨e,he⟩:=wH (hT.nK _ _ hk)
     cases x <;> first | (simp [vW] at hp;done) | (simp only [Cm,he];exact ⟨rfl,hk' _ h⟩)
   · exact h.elim
 · exact h.elim
omit hT in
theorem qA {x:AV} {K:List (List AV) -> Prop} (h:uw hp x K):∃ xs,elems ⟨sl,hp,ct⟩ x = some xs /\ K xs:=by
 unfold uw at h
 try simp only [bF] at h
 split at h
 · exact ⟨_,rfl,h⟩
 · exact ⟨_,rfl,h⟩
 · rename_i r ver off len
   split at h
   · rename_i k hk
     obtain ⟨hb,h1,h2⟩:=eY h
     rw [Bool.and_eq_true,Nat.beq_eq] at hb
     refine ⟨_,?_,h2⟩
     simp only [elems,hk]
     rw [if_pos ⟨hb.1,h1,by simpa using hb.2⟩]
   · exact h.elim
 · exact h.elim
theorem IW {src dst:TypeId} {x:AV} {K K':AV -> Prop} (h:nM T src dst hp x K) (hk':∀ v,K v -> K' v):uF E.P src dst ⟨sl,hp,ct⟩ x K':=by
 unfold nM at h
 split at h
 · rename_i k0 k' k n h1 h2
   obtain ⟨d,hd⟩:=MQ (hT.nK _ _ h1)
   unfold uF;rw [hd,kind_int (hT.nK _ _ h2)];exact hk' _ h
 · rename_i b h1 h2
   unfold uF;rw [jC (hT.nK _ _ h1),jC (hT.nK _ _ h2)];exact hk' _ h
 · rename_i e b h1 h2
   split at h
   · rename_i h3
     unfold uF;rw [jC (hT.nK _ _ h1),wI (hT.nK _ _ h2)];exact .inl ⟨kind_int (hT.nK _ _ h3),hk' _ h⟩
   · rename_i h3
     unfold uF;rw [jC (hT.nK _ _ h1),wI (hT.nK _ _ h2)];exact .inr ⟨kind_int (hT.nK _ _ h3),h.1,hk' _ h.2⟩
   · exact h.elim
 · rename_i e x h1 h2
   split at h
   · rename_i h3
     obtain ⟨xs,hx,h⟩:=qA (sl:=sl) (ct:=ct) h
     obtain ⟨bs,hbs,h⟩:=qw h
     unfold uF;rw [wI (hT.nK _ _ h1),jC (hT.nK _ _ h2)]
     exact .inl ⟨kind_int (hT.nK _ _ h3),xs,bs,hx,hbs,hk' _ h⟩
   · rename_i h3
     obtain ⟨xs,hx,h⟩:=qA (sl:=sl) (ct:=ct) h
     obtain ⟨bs,hbs,h⟩:=qx h
     unfold uF;rw [wI (hT.nK _ _ h1),jC (hT.nK _ _ h2)]
     exact .inr ⟨kind_int (hT.nK _ _ h3),xs,bs,hx,hbs,hk' _ h⟩
   · exact h.elim
 · exact h.elim
omit hT in
theorem yY {places:List (Nat × Nat)}:∀ (l:List (Nat × AV)) {cells:List AV} {K:List AV -> Prop},uM places cells l K -> ∃ cs,qg (places[·]?) cells l = some cs /\ K cs
 | [],cells,K,h=>⟨cells,rfl,h⟩
 | (i,x) :: l,cells,K,h=>by
   simp only [uM] at h
   split at h
   · rename_i off size cs h1 h2
     obtain ⟨hb,h⟩:=eH h
     rw [Bool.and_eq_true,Nat.beq_eq,Nat.ble_eq] at hb
     obtain ⟨r,hr,hk⟩:=yY l h
     refine ⟨r,?_,hk⟩
     simp only [qg,h1,h2]
     rw [if_pos hb];exact hr
   · exact h.elim
omit hT in
theorem wJ:∀ (l:List (Nat × AV)) (j:Nat),EC j l = true -> l.map Prod.fst = (List.range l.length).map (· + j)
 | [],j,_=>rfl
 | (i,x) :: l,j,h=>by
   simp only [EC,Bool.and_eq_true,Nat.beq_eq] at h
   rw [List.map_cons,wJ l (j + 1) h.2,List.length_cons,List.range_succ_eq_map,List.map_cons,List.map_map]
   simp only [h.1,Nat.zero_add,List.cons.injEq,true_and]
   apply List.map_congr_left
   intro a _
   simp only [Function.comp_apply];omega
omit hT in
theorem KF (n:Nat):∀ l,Qo n l = oO n l
 | []=>rfl
 | x :: l=>by
   simp only [Qo,oO,KF n l]
   cases cellsOf x with
   | none=>rfl
   | some cs =>
     simp only
     cases hb:Nat.beq cs.length n with
     | true=>cases oO n l <;> simp [Nat.eq_of_beq_eq_true hb]
     | false=>cases oO n l <;> simp [Nat.ne_of_beq_eq_false hb]
omit hT in
theorem UR (x:Option Operand):Gu E sl x = bnd E ⟨sl,hp,ct⟩ x:=by
 cases x with
 | none=>rfl
 | some x=>simp only [Gu,bnd,oU hp ct];rfl
omit hT in
theorem qB {len:Nat} {lo hi:Option Int} {K:Nat -> Nat -> Prop} (h:zI len lo hi K) {K':Nat -> Nat -> Prop} (hk:∀ a b,K a b -> K' a b):IB len lo hi K':=by
 unfold zI at h
 split at h
 · exact hk _ _ h
 · exact ⟨h.1.1,h.1.2,hk _ _ h.2⟩
 · exact ⟨h.1.1,h.1.2,hk _ _ h.2⟩
 · exact ⟨h.1.1,h.1.2.1,h.1.2.2,hk _ _ h.2⟩
theorem EF {t:TypeId} {x:AV} {lo hi mx:Option Int} {K:AV -> Prop} (h:iZ T t hp x lo hi mx K) {K':AV -> St -> Prop} (hk:∀ a,K a -> K' a ⟨sl,hp,ct⟩):xW E t ⟨sl,hp,ct⟩ x lo hi mx K':=by
 unfold iZ at h
 try simp only [bF] at h
 split at h
 · split at h
   · rename_i h1
     exact ⟨jC (hT.nK _ _ h1),rfl,qB h (fun _ _=>hk _)⟩
   · exact h.elim
 · split at h
   · rename_i q h1
     obtain ⟨e,n,b,cs⟩:=q
     obtain ⟨z,hz,_⟩:=hT.sl _ _ _ _ _ h1
     exact ⟨by rw [hz];rfl,rfl,qB h (fun _ _=>hk _)⟩
   · exact h.elim
 · rename_i sz xs
   split at h
   · rename_i e sz' q h1
     obtain ⟨b,cs⟩:=q
     obtain ⟨z,hz,_⟩:=hT.sl _ _ _ _ _ h1
     obtain ⟨hb,h⟩:=eH h
     unfold xW;simp only [hz]
     refine ⟨Nat.eq_of_beq_eq_true hb,qB h (fun a b h'=>?_)⟩
     split at h'
     · exact ⟨trivial,hk _ h'⟩
     · exact ⟨h'.1,hk _ h'.2⟩
   · exact h.elim
 · rename_i r ver off len
   split at h
   · rename_i e sz' q k h1 h2
     obtain ⟨b,cs⟩:=q
     obtain ⟨z,hz,_⟩:=hT.sl _ _ _ _ _ h1
     obtain ⟨hb,h⟩:=eY h
     rw [Bool.and_eq_true,Nat.beq_eq,Nat.beq_eq] at hb
     unfold xW;simp only [hz,h2]
     exact ⟨hb.1,hb.2,by simp,qB h (fun _ _=>hk _)⟩
   · exact h.elim
 · exact h.elim
theorem AU {t:TypeId} {x:AV} {ys:List (List AV)} {K:AV -> List (Nat × aG) -> Nat -> Prop} (h:IQ T nm t hp ct x ys K) {K':AV -> St -> Prop} (hk:∀ a hp' aW,K a hp' aW -> K' a ⟨sl,hp',aW⟩) :
   IC E nm ct t ⟨sl,hp,ct⟩ x ys K':=by
 unfold IQ at h
 try simp only [bF] at h
 split at h
 · rename_i e n by' cs h1
   obtain ⟨z,hz,_,hzn,hn,_⟩:=hT.sl _ _ _ _ _ h1
   unfold IC;simp only [hz]
   split at h
   · split at h
     · rename_i hg
       obtain ⟨⟨a,b,c⟩,h⟩:=h
       exact ⟨hn,hzn,a,b,c,hg,hk _ _ _ h⟩
     · exact h.elim
   · rename_i r v off len
     split at h
     · rename_i k hg
       obtain ⟨hb,⟨a1,a2,a3,a4,a5⟩,h⟩:=eY h
       simp only [Bool.and_eq_true,Nat.beq_eq,Bool.not_eq_true'] at hb
       obtain ⟨⟨⟨b1,b2⟩,b3⟩,b4⟩:=hb
       refine ⟨hn,hzn,a3,?_⟩
       simp only [hg]
       exact ⟨b1,b2,b3,b4,a1,a2,a4,a5,hk _ _ _ h⟩
     · exact h.elim
   · exact h.elim
 · exact h.elim
omit hT in
theorem wu (nm ct:Nat):∀ (hs:List aG) (j:Nat) (s:St),(St.adds nm ct j hs s).sl = s.sl /\ ∀ sl' aW,(St.adds nm ct j hs ⟨sl',s.hp,aW⟩).hp = (St.adds nm ct j hs s).hp
 | [],j,s=>⟨rfl,fun _ _=>rfl⟩
 | k :: hs,j,s=>by
   simp only [St.adds]
   obtain ⟨a,b⟩:=wu nm ct hs (j + 1) { s with hp:=s.hp ++ [(nm + j,k.shift nm ct j)] }
   exact ⟨a,fun sl' aW=>b sl' aW⟩
theorem Gv {hs:List FuncId} {cl:Call} {K:AV -> List (Nat × aG) -> Nat -> Prop} (h:uN E T hs nm cl sl hp ct K) {K':AV -> St -> Prop} (hk:∀ a hp' aW,K a hp' aW -> K' a ⟨sl,hp',aW⟩) :
   Kz E nm ct cl ⟨sl,hp,ct⟩ K':=by
 unfold uN at h
 simp only [oU hp ct,AQ hp ct] at h
 unfold Kz
 split at h
 · rename_i x t h1 h2 h3
   rw [h1,h2,h3]
   simp only
   split at h
   · rename_i b hb
     split at h
     · rename_i hk'
       rw [hb];exact ⟨jC (hT.nK _ _ hk'),hk _ _ _ h⟩
     · exact h.elim
   · rename_i a hne ha
     split at h
     · rename_i n q hn hq
       rw [ha];simp only [hn]
       obtain ⟨e,m,b,cs⟩:=q
       obtain ⟨z,hz,_⟩:=hT.sl _ _ _ _ _ hq
       refine ⟨?_,hk _ _ _ h⟩
       unfold Yh;split
       · rename_i b;exact (hne b rfl).elim
       · rw [hz];rfl
     · exact h.elim
   · exact h.elim
 · rename_i x y q h1 h2
   rw [h1,h2];simp only
   split at h
   · rename_i a b ha hb;rw [ha,hb];exact hk _ _ _ h
   · exact h.elim
 · rename_i x y q h1 h2
   rw [h1,h2];simp only
   split at h
   · rename_i a b ha hb;rw [ha,hb];exact hk _ _ _ h
   · exact h.elim
 · rename_i x y t t' h1 h2 h3
   rw [h1,h2,h3];simp only
   split at h
   · rename_i a b ha hb
     split at h
     · rename_i hq;rw [ha,hb];exact ⟨jC (hT.nK _ _ hq),AU hT h hk⟩
     · exact h.elim
   · rename_i a b hne ha hb
     split at h
     · rename_i q hq
       obtain ⟨e,m,by',cs⟩:=q
       obtain ⟨z,hz,_⟩:=hT.sl _ _ _ _ _ hq
       rw [ha,hb]
       obtain ⟨ys,hys,h⟩:=qA (sl:=sl) (ct:=ct) h
       split
       · rename_i a' b' e1 e2;cases e2;exact (hne _ rfl).elim
       · rename_i a' b' _ e1 e2
         cases e1;cases e2
         refine ⟨by rw [hz];rfl,?_⟩
         simp only [hys];exact AU hT h hk
       · rename_i hno;exact (hno a b rfl rfl).elim
     · exact h.elim
   · exact h.elim
 · rename_i x y t t' h1 h2 h3
   rw [h1,h2,h3];simp only
   split at h
   · rename_i r v off len b e n by' cs hx hy hq
     obtain ⟨z,hz,_,_,hn,_⟩:=hT.sl _ _ _ _ _ hq
     obtain ⟨ys,hys,h⟩:=qA (sl:=sl) (ct:=ct) h
     split at h
     · rename_i k hg
       rw [bF] at h
       obtain ⟨hb,⟨a1,a2,a3,a4⟩,h⟩:=eY h
       simp only [Bool.and_eq_true,Nat.beq_eq] at hb
       simp only [hx,hy,hz,hys,hg]
       exact ⟨⟨hb.1,hb.2,hn,a1,a2,a3,a4⟩,hk _ _ _ h⟩
     · exact h.elim
   · exact h.elim
 · rename_i x t h1 h2 h3
   rw [h1,h2,h3];simp only
   split at h
   · rename_i r v off len e n by' cs hx hq
     obtain ⟨z,hz,hzc,_,hn,hcn⟩:=hT.sl _ _ _ _ _ hq
     split at h
     · rename_i k hg
       rw [bF] at h
       obtain ⟨hb,⟨a1,a2⟩,h⟩:=eY h
       simp only [Bool.and_eq_true,Nat.beq_eq] at hb
       simp only [hx,hz,hzc,hg]
       exact ⟨⟨hb.1,hb.2,hn,hcn,a1,a2⟩,hk _ _ _ h⟩
     · exact h.elim
   · exact h.elim
 · rename_i h1
   rw [h1]
   simp only
   split at h
   · rename_i g first caps as hf has
     rw [hf,has];simp only
     split at h
     · obtain ⟨N,h⟩:=h.out
       refine .inr ⟨N,?_⟩
       intro M0 w0 c M J w vs i1 i2 i3
       obtain ⟨a,b⟩:=h M0 w0 c M J w vs i1 i2 i3
       refine ⟨a,b.mono ?_⟩
       rintro e w' ⟨v,r,hp',c',M',J',x1,x2,x3,x4⟩
       exact ⟨v,r,hp',c',M',J',x1,fun c' hc'=>hk _ _ _ (x2 c' hc'),x3,x4⟩
     · refine .inl (kY _ h (fun ys hp' h'=>?_))
       have h':=h'.out
       refine h'.mono ?_
       rintro r hs' ⟨a,b,c⟩
       refine ⟨a,b,?_⟩
       obtain ⟨e1,e2⟩:=wu nm ct hs' 0 ⟨sl,hp',ct⟩
       have:=hk _ _ _ c
       have e3:(St.adds nm ct 0 hs' ⟨[],hp',0⟩).hp = (St.adds nm ct 0 hs' ⟨sl,hp',ct⟩).hp:=e2 [] 0
       rw [e3] at this
       show K' _ ⟨(St.adds nm ct 0 hs' ⟨sl,hp',ct⟩).sl,(St.adds nm ct 0 hs' ⟨sl,hp',ct⟩).hp,ct + hs'.length⟩
       rw [e1];exact this
   · exact h.elim
 · exact h.elim
omit hT in
theorem lN {es:List (List AV)} {i:Nat} {K:List AV -> Prop} (h:CO es i K):∃ e,es[i]? = some e /\ K e:=by
 unfold CO at h
 split at h
 · rename_i e he;exact ⟨e,he,h⟩
 · exact h.elim
omit hT in
theorem wK {x:AV} {K:List AV -> Prop} (h:cellsE hp x K):∃ cs,qc ⟨sl,hp,ct⟩ x = some cs /\ K cs:=by
 unfold cellsE at h
 try simp only [bF] at h
 split at h
 · exact ⟨_,rfl,h⟩
 · split at h
   · rename_i k hk
     obtain ⟨hb,h⟩:=eY h
     obtain ⟨e,he,h⟩:=lN h
     refine ⟨_,?_,h⟩
     simp only [qc,hk]
     rw [if_pos (Nat.eq_of_beq_eq_true hb),he];rfl
   · exact h.elim
 · exact h.elim
theorem EG {t:TypeId} {p x:AV} {K:List (Nat × aG) -> Prop} (h:yc T t p x sl hp ct K) {K':St -> Prop} (hk:∀ hp',K hp' -> K' ⟨sl,hp',ct⟩):Au E t p x ⟨sl,hp,ct⟩ K':=by
 unfold yc at h
 try simp only [bF] at h
 split at h
 · rename_i r v i o b n ht
   unfold Au;rw [hT.tz _ _ ht];simp only
   split at h
   · rename_i k hg
     try rw [hg]
     try simp only
     split at h
     · rename_i hbx
       rw [if_pos hbx]
       split at h
       · rename_i cs hcs
         obtain ⟨hb,h1,h⟩:=eY h
         obtain ⟨e,he,h⟩:=lN h
         rw [hcs,he]
         simp only [Bool.and_eq_true,Nat.beq_eq,Nat.ble_eq] at hb
         exact ⟨hb.1.1,hb.1.2,hb.2,h1,hk _ h⟩
       · exact h.elim
     · rename_i hbx
       rw [if_neg (by rw [hbx];decide)]
       refine qy (K:=fun y hp'=>(match get hp' r,cellsOf y with
         | some k,some cs=>chk (!k.box && Nat.beq k.ver v && Nat.beq cs.length n && Nat.ble (o + n) k.sz) (gJ (k.fH <= i) (CO k.es i fun e=>K ((r,⟨k.sz,k.ty,k.ver,k.fH,k.box,k.es.set i (dN e o cs)⟩) :: hp')))
         | _,_=>False)) h (fun y hp' h'=>?_)
       split at h'
       · rename_i k' cs hg' hcs
         obtain ⟨hb,h1,h'⟩:=eY h'
         obtain ⟨e,he,h'⟩:=lN h'
         simp only [hg',hcs,he]
         simp only [Bool.and_eq_true,Nat.beq_eq,Nat.ble_eq,Bool.not_eq_true'] at hb
         exact ⟨hb.1.1.1,hb.1.1.2,hb.1.2,hb.2,h1,hk _ h'⟩
       · exact h'.elim
   · exact h.elim
 · exact h.elim
theorem nY {hs:List FuncId} {op:Op} {K:AV -> List (Nat × aG) -> Nat -> Prop} (h:bP E T hs nm op sl hp ct K) {d:Option Tmp} {K':St -> Prop} (hk:∀ a hp' aW,K a hp' aW -> K' (St.put ⟨sl,hp',aW⟩ d a)) :
   Ym E nm d op ⟨sl,hp,ct⟩ K':=by
 unfold bP at h
 try simp only [bF] at h
 simp only [oU hp ct,AQ hp ct,Dc hp ct,UR (hp:=hp) (ct:=ct),KF] at h
 unfold Ym
 split at h
 · split at h
   · rename_i a ha;simp only [pY,ha];exact hk _ _ _ h
   · exact h.elim
 · split at h
   · rename_i a ha;simp only [pY,ha];exact hk _ _ _ h
   · exact h.elim
 · split at h
   · rename_i a b ha hb;simp only [ha,hb];exact EG hT h (fun hp' h'=>hk _ _ _ h')
   · exact h.elim
 · split at h
   · rename_i t ht
     simp only [pY,ht]
     refine ⟨fun e=>?_,fun e=>?_⟩
     · have:=Qj h e;unfold zH at this;split at this
       · rename_i x hx;rw [hx];exact hk _ _ _ this
       · exact this.elim
     · have:=Qk h e;unfold zH at this;split at this
       · rename_i x hx;rw [hx];exact hk _ _ _ this
       · exact this.elim
   · exact h.elim
 · split at h
   · rename_i cs hc hg
     obtain ⟨z,n,b,h1,h2⟩:=hT.zc _ _ hc
     simp only [pY,h1,h2];exact ⟨hg,hk _ _ _ h⟩
   · exact h.elim
 · split at h
   · rename_i a ha hg
     split at h
     · rename_i cs hc
       simp only [pY,ha,hc];exact ⟨hg,hk _ _ _ h⟩
     · exact h.elim
   · exact h.elim
 · split at h
   · rename_i z places l hl hp'
     obtain ⟨cs,h1,h2⟩:=yY _ h
     simp only [pY,hT.ly _ _ hl,hp',h1];exact hk _ _ _ h2
   · exact h.elim
 · split at h
   · rename_i e n b cs l hl hp'
     obtain ⟨z,hz,_,hzn,hn,_⟩:=hT.sl _ _ _ _ _ hl
     obtain ⟨hb,h⟩:=eH h
     simp only [Bool.and_eq_true,Nat.beq_eq,Nat.ble_eq] at hb
     simp only [pY,hz,hp']
     refine ⟨⟨hb.1.1,hn,?_,hzn⟩,?_⟩
     · rw [wJ _ _ hb.2,hb.1.2];simp
     · split at h
       · split at h
         · rename_i es he hg
           exact .inr ⟨es,he,hg,hk _ _ _ h⟩
         · exact h.elim
       · refine .inl (kY _ h (fun ys hp' h'=>?_))
         split at h'
         · rename_i es he hg
           simp only [he];exact ⟨hg,hk _ _ _ h'⟩
         · exact h'.elim
   · exact h.elim
 · split at h
   · rename_i a ha
     obtain ⟨cs,h1,h⟩:=wK (sl:=sl) (ct:=ct) h
     obtain ⟨x,h2,h⟩:=nX hT h
     simp only [pY,ha,h1,h2];exact hk _ _ _ h
   · exact h.elim
 · split at h
   · rename_i cs ha;simp only [pY,ha];exact ⟨rfl,hk _ _ _ h⟩
   · rename_i r v i o ha;simp only [pY,ha];exact ⟨rfl,hk _ _ _ h⟩
   · exact h.elim
 · split at h
   · rename_i a b ha hb;simp only [pY,ha,hb]
     exact IV hT h (fun v h'=>hk _ _ _ h')
   · exact h.elim
 · split at h
   · rename_i b hb;simp only [pY,hb];exact hk _ _ _ h
   · rename_i k n hb;simp only [pY,hb];exact hk _ _ _ h
   · exact h.elim
 · split at h
   · rename_i a ha
     simp only [pY,ha]
     split at h
     · rename_i r v off len hbq
       refine .inr ?_
       unfold Qn at h
       split at h
       · rename_i e k h1 h2
         split at h
         · rename_i h3
           rw [bF] at h
           obtain ⟨hb,hs,h⟩:=eY h
           rw [Bool.and_eq_true,Nat.beq_eq] at hb
           unfold P6
           simp only [h2]
           exact ⟨Nat.eq_of_beq_eq_true hbq,hs.1,hb.2,by simpa using hb.1,hs.2,⟨e,wI (hT.nK _ _ h1),kind_int (hT.nK _ _ h3)⟩,hk _ _ _ h⟩
         · exact h.elim
       · exact h.elim
     · exact .inl (IW hT h (fun v h'=>hk _ _ _ h'))
   · exact h.elim
 · split at h
   · rename_i a b ha hb;simp only [pY,ha,hb];exact hk _ _ _ h
   · exact h.elim
 · split at h
   · rename_i l cs hl ha
     split at h
     · rename_i o t' n hf
       simp only [pY,hT.fd _ _ hl _ _ hf,ha];exact ⟨Nat.succ_pos _,hk _ _ _ h⟩
     · exact h.elim
   · rename_i l r Et i o' hl ha
     split at h
     · rename_i o t' n hf
       simp only [pY,hT.fd _ _ hl _ _ hf,ha];exact ⟨Nat.succ_pos _,hk _ _ _ h⟩
     · exact h.elim
   · exact h.elim
 · split at h
   · rename_i l cs hl ha
     split at h
     · rename_i o t' n hf
       obtain ⟨x,h2,h⟩:=nX hT h
       simp only [pY,hT.fd _ _ hl _ _ hf,ha,h2];exact hk _ _ _ h
     · exact h.elim
   · exact h.elim
 · split at h
   · rename_i z xs k n ha hi
     split at h
     · rename_i e sz q hl
       obtain ⟨b,cs⟩:=q
       obtain ⟨z',hz,_⟩:=hT.sl _ _ _ _ _ hl
       obtain ⟨hb,⟨h0,h1⟩,h⟩:=eH h
       obtain ⟨e',he,h⟩:=lN h
       simp only [pY,hz,ha,hi]
       refine ⟨Nat.eq_of_beq_eq_true hb,h0,h1,?_⟩
       rw [List.getD_eq_getElem?_getD,he];exact hk _ _ _ h
     · exact h.elim
   · rename_i r v off len k n ha hi
     split at h
     · rename_i e sz q k hl hg
       obtain ⟨b,cs⟩:=q
       obtain ⟨z',hz,_⟩:=hT.sl _ _ _ _ _ hl
       obtain ⟨hb,⟨h0,h1⟩,h⟩:=eY h
       simp only [Bool.and_eq_true,Nat.beq_eq] at hb
       simp only [pY,hz,ha,hi,hg]
       exact ⟨h0,h1,hb,hk _ _ _ h⟩
     · exact h.elim
   · rename_i cs k n ha hi
     split at h
     · rename_i m e sz hl
       obtain ⟨⟨h0,h1⟩,h⟩:=h
       simp only [pY,hT.ar _ _ hl,ha,hi]
       exact ⟨h0,h1,hk _ _ _ h⟩
     · exact h.elim
   · rename_i r v j o k n ha hi
     split at h
     · rename_i m e sz hl
       obtain ⟨⟨h0,h1⟩,h⟩:=h
       simp only [pY,hT.ar _ _ hl,ha,hi]
       exact ⟨h0,h1,hk _ _ _ h⟩
     · exact h.elim
   · exact h.elim
 · split at h
   · rename_i b k n ha hi
     split at h
     · rename_i hl
       obtain ⟨⟨h0,h1⟩,h⟩:=h
       simp only [pY,jC (hT.nK _ _ hl),ha,hi]
       have:n.toNat < b.size:=by omega
       refine ⟨h0,this,?_⟩
       rw [<- Ql this];exact hk _ _ _ h
     · exact h.elim
   · rename_i cs k n ha hi
     split at h
     · rename_i m e sz hl
       obtain ⟨⟨h0,h1⟩,h⟩:=h
       obtain ⟨x,h2,h⟩:=nX hT h
       simp only [pY,hT.ar _ _ hl,ha,hi,h2]
       exact ⟨h0,h1,hk _ _ _ h⟩
     · exact h.elim
   · exact h.elim
 · split at h
   · rename_i xs ha
     split at h
     · rename_i a hx;simp only [pY,ha,hx];exact hk _ _ _ h
     · exact h.elim
   · exact h.elim
 · split at h
   · rename_i a l h' m ha hl hh hm;simp only [pY,ha,hl,hh,hm];exact EF hT h (fun a h''=>hk _ _ _ h'')
   · exact h.elim
 · split at h
   · rename_i e n by' cs a b hl ha hb hg
     obtain ⟨z,hz,hzc,hzn,hn,hcn⟩:=hT.sl _ _ _ _ _ hl
     obtain ⟨⟨a1,a2,a3,a4⟩,h⟩:=h
     simp only [pY,hz,ha,hb,hzc]
     exact ⟨a1,a2,a3,a4,hn,hcn,hg,hk _ _ _ h⟩
   · exact h.elim
 · exact Gv hT h (K':=fun x s'=>K' (s'.put d x)) (fun a hp' aW h'=>hk _ _ _ h')
 · exact h.elim
end
end Ev
namespace Ev
section
variable {E:Env} {T:Tab} {hs:List FuncId} {nt:Nat}
theorem mO (sl:List (Nat × AV)):∀ (ks:List Nat) (acc:List (Nat × AV)) (Q:List (Nat × AV) -> Prop),wG sl ks acc Q = Q (uJ sl ks acc)
 | [],acc,Q=>rfl
 | k :: ks,acc,Q=>by
   simp only [wG,uJ]
   cases get sl k with
   | none=>exact mO sl ks acc Q
   | some x=>exact mO sl ks _ Q
theorem qC {d:Option Tmp} {x:AV} {sl:List (Nat × AV)} {hp:List (Nat × aG)} {ct:Nat} {Q:List (Nat × AV) -> Prop} (h:qW d x sl Q):∃ sl',St.put ⟨sl,hp,ct⟩ d x = ⟨sl',hp,ct⟩ /\ Q sl':=by
 cases d with
 | none=>exact ⟨_,rfl,h⟩
 | some t=>exact ⟨_,rfl,h⟩
variable (hT:jA E.P T)
include hT
theorem mP {base:Nat}:∀ (l:List Ins) {sl:List (Nat × AV)} {hp:List (Nat × aG)} {ct:Nat} {Q Q':St -> Prop},rM E T hs base l sl hp ct Q -> (∀ s,Q s -> Q' s) -> uq E base l ⟨sl,hp,ct⟩ Q'
 | [],sl,hp,ct,Q,Q',h,hq=>by
   simp only [rM,mO] at h
   exact hq _ h
 | ⟨i,d,op,none⟩ :: rest,sl,hp,ct,Q,Q',h,hq=>by
   simp only [rM,gZ] at h
   simp only [uq]
   refine nY hT h (fun x hp' aW h'=>?_)
   obtain ⟨sl',e,h''⟩:=qC (hp:=hp') (ct:=aW) h'
   rw [e];exact mP rest h'' hq
 | ⟨i,d,op,some (t,want)⟩ :: rest,sl,hp,ct,Q,Q',h,hq=>by
   simp only [rM,gZ] at h
   simp only [uq]
   split at h
   · rename_i b hb
     try simp only [hb]
     have go:∀ {sl1:List (Nat × AV)},bP E T hs (base + i * 8) op sl1 hp ct (fun x hp' aW=>qW d x sl1 fun sl'=>rM E T hs base rest sl' hp' aW Q) ->
         Ym E (base + i * 8) d op ⟨sl1,hp,ct⟩ fun s'=>uq E base rest s' Q':=by
       intro sl1 h1
       refine nY hT h1 (fun x hp' aW h'=>?_)
       obtain ⟨sl',e,h''⟩:=qC (hp:=hp') (ct:=aW) h'
       rw [e];exact mP rest h'' hq
     have skip:∀ {sl1:List (Nat × AV)},qW d (.v (.tuple #[])) sl1 (fun sl'=>rM E T hs base rest sl' hp ct Q) -> uq E base rest (St.put ⟨sl1,hp,ct⟩ d (.v undef)) Q':=by
       intro sl1 h1
       obtain ⟨sl',e,h''⟩:=qC (hp:=hp) (ct:=ct) h1
       show uq E base rest (St.put ⟨sl1,hp,ct⟩ d (.v (.tuple #[]))) Q'
       rw [e];exact mP rest h'' hq
     split at h
     · exact ⟨fun e=>go (Qj h e),fun e=>skip (Qk h e)⟩
     · exact ⟨fun e=>go (Qk h e),fun e=>skip (Qj h e)⟩
   · rename_i vs hb
     try simp only [hb]
     obtain ⟨sl',e,h''⟩:=qC (hp:=hp) (ct:=ct) h
     show uq E base rest (St.put ⟨sl,hp,ct⟩ d (.v (.tuple #[]))) Q'
     rw [e];exact mP rest h'' hq
   · exact h.elim
omit hT
def Wp (E:Env) (nt:Nat) (c:CC) (K:Exit -> St -> Prop) (s:St):Prop:=uK E nt c K s
theorem Wp.mono {c:CC} {K K':Exit -> St -> Prop} {s:St} (h:Wp E nt c K s) (hk:∀ e s,K e s -> K' e s):Wp E nt c K' s:=uK.mono h hk
theorem Yo {K:Exit -> St -> Prop} {s:St} (h:K .normal s):Wp E nt .skip K s:=uK.of h
theorem adG {K:Exit -> St -> Prop} {s:St} (h:K .ret s):Wp E nt .ret K s:=uK.of h
theorem Yp {K:Exit -> St -> Prop} {s:St} {i:Nat} (h:K (.exit i) s):Wp E nt (.exit i) K s:=uK.of h
theorem adH {K:Exit -> St -> Prop} {s:St} {a b:CC} (h:Wp E nt a (kM (Wp E nt b K) K) s):Wp E nt (.seq a b) K s:=by
 refine uK.seq (uK.mono h (fun e s' h'=>?_))
 cases e <;> simp only [kM] at h' ⊢
 case normal=>exact ⟨s',Gh.refl,h'⟩
 all_goals exact h'
theorem MR {c:Code} {x:Operand} {d e:CC} (h:comp c = .cond x d e):∃ a b,c = .cond x a b /\ comp a = d /\ comp b = e:=by
 cases c
 case cond y a b=>simp only [comp] at h;injection h with h0 h1 h2;subst h0;exact ⟨a,b,rfl,h1,h2⟩
 case region id ops dr=>cases dr <;> simp only [comp] at h <;> split at h <;> cases h
 all_goals (simp only [comp] at h;cases h)
theorem IX {c:Code} {i:Nat} {d:CC} (h:comp c = .block i d):∃ a,c = .block i a /\ comp a = d:=by
 cases c
 case block j a=>simp only [comp] at h;injection h with h0 h1;subst h0;exact ⟨a,rfl,h1⟩
 case region id ops dr=>cases dr <;> simp only [comp] at h <;> split at h <;> cases h
 all_goals (simp only [comp] at h;cases h)
theorem UU {K:Exit -> St -> Prop} {s:St} {i:Nat} {b:CC} (h:Wp E nt b (mg i K) s):Wp E nt (.block i b) K s:=by
 intro c' e hok
 obtain ⟨a,rfl,rfl⟩:=IX e
 simp only [bQ] at hok
 intro M0 w0 M J tm w inv hs
 refine wp_block (wp_mono (h a rfl hok M0 w0 M J tm w inv hs) ?_)
 rintro e a w' ⟨s',M',J',hk,hi,hz,hd⟩
 cases e <;> simp only [Exit.inBlock]
 case exit i =>
   simp only [mg] at hk
   split
   · rename_i e;rw [if_pos e] at hk;exact ⟨s',M',J',hk,hi,hz,hd⟩
   · rename_i e;rw [if_neg e] at hk;exact ⟨s',M',J',hk,hi,hz,hd⟩
 all_goals exact ⟨s',M',J',hk,hi,hz,hd⟩
theorem Yq {K:Exit -> St -> Prop} {sl:List (Nat × AV)} {hp:List (Nat × aG)} {ct:Nat} {c:Operand} {a b:CC} {t:Bool} (hc:aZ E sl c = some (.v (.bool t)))
   (h:gK t (Wp E nt a K ⟨sl,hp,ct⟩) (Wp E nt b K ⟨sl,hp,ct⟩)):Wp E nt (.cond c a b) K ⟨sl,hp,ct⟩:=by
 intro c' e hok
 obtain ⟨a',b',rfl,rfl,rfl⟩:=MR e
 simp only [bQ,Bool.and_eq_true] at hok
 intro M0 w0 M J tm w inv hs
 rw [oU hp ct] at hc
 have hv:=(inv.oper (ds:=M0.d) hc).bZ
 refine wp_cond_split hv (fun e=>?_) (fun e=>?_)
 · exact adC h e a' rfl hok.1 M0 w0 M J tm w inv hs
 · exact adD h e b' rfl hok.2 M0 w0 M J tm w inv hs
theorem k_reg (hT:jA E.P T) {K:Exit -> St -> Prop} {sl:List (Nat × AV)} {hp:List (Nat × aG)} {ct:Nat} {id:Nat} {l:List Ins} (h:∀ Q:St -> Prop,(∀ s,K .normal s -> Q s) -> rM E T hs (E.N + id * 512) l sl hp ct Q) :
 Wp E nt (.reg id l) K ⟨sl,hp,ct⟩:=uK.of (by simp only [IK];exact mP hT l (h _ (fun _ h=>h)) (fun _ h=>h))
def To (E:Env) (J:St -> Prop) (s:St):Prop:=∃ s2,Gh E s s2 /\ J s2
theorem to {J:St -> Prop} {s:St} (s2:St) (hs:subs s.sl s2.sl) (hh:subs s.hp s2.hp) (hc:s.ctr <= s2.ctr) (hI:J s2):To E J s:=⟨s2,Gh.sub hs hh hc,hI⟩
theorem To.ghost {J:St -> Prop} {s s':St} (hg:Gh E s s') (h:To E J s'):To E J s:=let ⟨s2,a,b⟩:=h;⟨s2,hg.trans a,b⟩
theorem join (J:St -> Prop) {K:Exit -> St -> Prop} {s:St} {a b:CC} (h:Wp E nt a (kM (To E J) K) s) (h':∀ s,J s -> Wp E nt b K s):Wp E nt (.seq a b) K s:=by
 refine uK.seq (uK.mono h (fun e s' h1=>?_))
 cases e <;> simp only [kM] at h1 ⊢
 case normal=>obtain ⟨s2,g,h2⟩:=h1;exact ⟨s2,g,h' _ h2⟩
 all_goals exact h1
theorem Yr {f:St -> Prop} {K:Exit -> St -> Prop} {s:St} (h:f s):kM f K .normal s:=h
theorem adI {f:St -> Prop} {K:Exit -> St -> Prop} {s:St} (h:K .ret s):kM f K .ret s:=h
theorem Yt {f:St -> Prop} {K:Exit -> St -> Prop} {s:St} {i:Nat} (h:K (.exit i) s):kM f K (.exit i) s:=h
theorem Yu {K:Exit -> St -> Prop} {s:St} {i:Nat} (h:K .normal s):mg i K .normal s:=h
theorem adJ {K:Exit -> St -> Prop} {s:St} {i:Nat} (h:K .ret s):mg i K .ret s:=h
theorem Yv {K:Exit -> St -> Prop} {s:St} {i:Nat} (h:K .normal s):mg i K (.exit i) s:=by simp only [mg,if_true];exact h
theorem adK {K:Exit -> St -> Prop} {s:St} {i j:Nat} (hne:Nat.beq j i = false) (h:K (.exit j) s):mg i K (.exit j) s:=by
 have:j ≠ i:=Nat.ne_of_beq_eq_false hne
 simp only [mg,if_neg this];exact h
def Again (E:Env) (I:Nat -> St -> Prop) (n:Nat) (s:St):Prop:=To E (fun s=>∃ m,m < n /\ I m s) s
theorem loop {d:CC} {K:Exit -> St -> Prop} {s:St} (I:Nat -> St -> Prop) (h0:To E (fun s=>∃ n,I n s) s)
   (round:∀ n s1,I n s1 -> Wp E nt d (kM (Again E I n) K) s1):Wp E nt (.loop d) K s:=by
 intro c' e hok
 obtain ⟨c,rfl,rfl⟩:=CW e
 simp only [bQ] at hok
 intro M0 w0 M J tm w inv hs
 obtain ⟨s0,hg,n0,hI⟩:=h0
 obtain ⟨M',J',i0⟩:=hg M0 w0 M J tm w inv
 refine wp_loop_ghost (fun n a w=>∃ s M J,I n s /\ Inv E M0 w0 s.ctr M J s a.tmps w /\ a.tmps.size = nt /\ a.defers = M0.d) n0 ⟨s0,M',J',hI,i0,hs,rfl⟩ ?_
 rintro n ⟨tm',ds'⟩ w' ⟨s1,M1,J1,hI1,i1,hz,hd⟩
 simp only at hd;subst hd
 refine wp_mono (round n s1 hI1 c rfl hok M0 w0 M1 J1 tm' w' i1 hz) ?_
 rintro e a w'' ⟨s2,M2,J2,hk,i2,hz2,hd2⟩
 cases e <;> simp only [Exit.then]
 case normal =>
   obtain ⟨s3,hg3,m,hm,hI3⟩:=hk
   obtain ⟨M3,J3,i3⟩:=hg3 M0 w0 M2 J2 a.tmps w'' i2
   exact ⟨m,hm,s3,M3,J3,hI3,i3,hz2,hd2⟩
 all_goals exact ⟨s2,M2,J2,hk,i2,hz2,hd2⟩
theorem again {I:Nat -> St -> Prop} {n:Nat} {s:St} (m:Nat) (s2:St) (hm:m < n) (hs:subs s.sl s2.sl) (hh:subs s.hp s2.hp) (hc:s.ctr <= s2.ctr) (hI:I m s2):Again E I n s :=
 ⟨s2,Gh.sub hs hh hc,m,hm,hI⟩
theorem eu {l:List (Nat × AV)} {t:Nat} {k:IntKind} {a b:Int} (h:get l t = some (.v (.int k a))) (e:a = b):get l t = some (.v (.int k b)):=by rw [h,e]
theorem ah {α:Type} {l:List (Nat × α)} {t:Nat} {a b:α} (h:get l t = some a) (e:a = b):get l t = some b:=by rw [h,e]
def jW:Nat -> AV -> Bool
 | 0,_=>false
 | n + 1,.agg cs=>cs.all (jW n)
 | n + 1,.dM cs=>cs.all (jW n)
 | n + 1,.clo _ a b=>a.all (jW n) && b.all (jW n)
 | _ + 1,.own _ _ _ _=>false
 | _ + 1,.ptr _ _ _ _=>false
 | _ + 1,_=>true
theorem Dh (nm ct:Nat):∀ cs,shifts nm ct cs = cs.map (shift nm ct)
 | []=>by simp [shifts]
 | c :: cs=>by simp [shifts,Dh nm ct cs]
theorem yZ (nm ct:Nat):∀ (n:Nat) (x:AV),jW n x = true -> shift nm ct x = x
 | 0,x,h=>by simp [jW] at h
 | n + 1,x,h=>by
   have all:∀ cs:List AV,cs.all (jW n) = true -> shifts nm ct cs = cs:=by
     intro cs hc
     rw [Dh]
     rw [List.all_eq_true] at hc
     have:cs.map (shift nm ct) = cs.map id:=List.map_congr_left (fun a ha=>yZ nm ct n a (hc a ha))
     rw [this,List.map_id]
   cases x with
   | v x=>simp [shift]
   | lst s xs=>simp [shift]
   | fO xs=>simp [shift]
   | own r v o l=>simp [jW] at h
   | ptr r v i o=>simp [jW] at h
   | agg cs=>simp only [jW] at h;simp [shift,all cs h]
   | dM cs=>simp only [jW] at h;simp [shift,all cs h]
   | clo f a b=>simp only [jW,Bool.and_eq_true] at h;simp [shift,all a h.1,all b h.2]
theorem aU {f:FuncId} {args args':List AV} {hp:List (Nat × aG)} {nm ct:Nat} {K:AV -> List (Nat × aG) -> Nat -> Prop} {X:AV} (hc:aO E f args' fun r hs=>r = X /\ hs = []) (ha:args = args') (hX:jW 6 X = true) (h:K X hp ct) :
   C9 E f args hp nm ct K:=by
 subst ha
 refine ⟨hc.mono ?_⟩
 rintro r hs ⟨rfl,rfl⟩
 refine ⟨by simp,trivial,?_⟩
 rw [yZ nm ct 6 _ hX];exact h
theorem mQ {f:FuncId} {args args':List AV} {hp:List (Nat × aG)} {nm ct:Nat} {K:AV -> List (Nat × aG) -> Nat -> Prop} {X:AV} {H:List aG} (hc:aO E f args' fun r hs=>r = X /\ hs = H) (ha:args = args') (h8:H.length <= 8) (hf:free hp nm H.length)
   (h:K (shift nm ct X) (St.adds nm ct 0 H ⟨[],hp,0⟩).hp (ct + H.length)):C9 E f args hp nm ct K:=by
 subst ha
 refine ⟨hc.mono ?_⟩
 rintro r hs ⟨rfl,rfl⟩
 exact ⟨h8,hf,h⟩
def Fin (p:Prop):Prop:=p
theorem fin {p:Prop} (h:p):Fin p:=h
def rO (rs:List ResultVar) (s:St) (T:Tab) (R:AV -> List aG -> Prop):Prop :=
  zJ s.sl s.hp rs fun xs=>lG s.sl s.hp xs fun ys _=>Fin (R (mF ys) [])
where
  zJ (sl:List (Nat × AV)) (hp:List (Nat × aG)):List ResultVar -> (List AV -> Prop) -> Prop
  | [],K=>K []
  | .tmp t :: l,K=>(match get sl t with | some a=>zJ sl hp l fun r=>K (a :: r) | none=>False)
  | .cell a t :: l,K=>(match get sl a with | some p=>cellsE hp p fun cs=>qQ T t cs fun x=>zJ sl hp l fun r=>K (x :: r) | none=>False)
theorem kP {E:Env} (hT:jA E.P T) {sl:List (Nat × AV)} {hp:List (Nat × aG)} {ct:Nat}:∀ (l:List ResultVar) {K:List AV -> Prop},rO.zJ T sl hp l K -> ∃ xs,mD E ⟨sl,hp,ct⟩ l = some xs /\ K xs
 | [],K,h=>⟨[],rfl,h⟩
 | .tmp t :: l,K,h=>by
   simp only [rO.zJ] at h
   split at h
   · rename_i a ha
     obtain ⟨r,hr,h⟩:=kP hT (ct:=ct) l h
     exact ⟨_,by simp only [mD,ha,hr],h⟩
   · exact h.elim
 | .cell a t :: l,K,h=>by
   simp only [rO.zJ] at h
   split at h
   · rename_i p hp'
     obtain ⟨cs,hcs,h⟩:=wK (sl:=sl) (ct:=ct) h
     obtain ⟨x,hx,h⟩:=nX hT h
     obtain ⟨r,hr,h⟩:=kP hT (ct:=ct) l h
     exact ⟨_,by simp only [mD,hp',hr,hcs,hx],h⟩
   · exact h.elim
def KG (rs:List ResultVar) (s:St) (T:Tab) (R:AV -> List aG -> Prop) (F:Prop -> Prop):Prop :=
 rO.zJ T s.sl s.hp rs fun xs=>lG s.sl s.hp xs fun ys _=>F (R (mF ys) [])
theorem yg {rs:List ResultVar} {s:St} {T:Tab} {R:AV -> List aG -> Prop} (h:KG rs s T R Fin):rO rs s T R:=h
def MS (T:Tab) (rs:List ResultVar) (R:AV -> List aG -> Prop):Exit -> St -> Prop
 | .normal,s=>rO rs s T R
 | .ret,s=>rO rs s T R
 | _,_=>False
theorem func {E0:Env} {T:Tab} (hT:jA E0.P T) (keep:List Nat) (N:Nat) {f:FuncId} {fn:Func} {c:Code} {args:List AV} {R:AV -> List aG -> Prop} (hf:E0.P.funcs[f]? = some fn) (hb:fn.body = some c)
   (hname:(fn.name == "runtime.NumGoroutine") = false) (hnt:args.length <= fn.ntmps) (hok:bQ fn.ntmps c = true) {cc:CC} (hcc:comp c = cc) {rs:List ResultVar} (hrs:fn.results.toList = rs)
   (h:Wp { E0 with keep:=keep,N:=N } fn.ntmps cc (MS T rs R) ⟨params 0 args,[],0⟩):aO E0 f args R:=by
 refine aO.XU keep N hf hb hname hnt hrs (WP.mono (h c hcc hok) (fun e s h'=>?_))
 have fin:rO rs s T R -> endP { E0 with keep:=keep,N:=N } rs s R:=by
   intro h'
   obtain ⟨xs,h1,h2⟩:=kP (E:={ E0 with keep:=keep,N:=N }) hT (ct:=s.ctr) rs h'
   unfold endP
   have h1':mD { E0 with keep:=keep,N:=N } s rs = some xs:=h1
   rw [h1']
   exact kY (sl:=s.sl) (ct:=s.ctr) _ h2 (fun ys hp' h=>h)
 cases e with
 | normal=>exact ⟨.inl rfl,fin h'⟩
 | ret=>exact ⟨.inr rfl,fin h'⟩
 | _=>exact h'.elim
def ahC (l:List (Nat × Nat)) (rs:List ResultVar) (s:St) (T:Tab) (R:AV -> List aG -> Prop):Prop :=
 rO.zJ T s.sl s.hp rs fun xs=>(match handed s l l 0,wB l xs with | some hs,some ys=>Fin (R (mF ys) hs) | _,_=>False)
def cu (T:Tab) (rs:List ResultVar) (s:St) (R:AV -> List aG -> Prop):Prop:=∃ l:List (Nat × Nat),(l.map Prod.fst).Nodup /\ ahC l rs s T R
def UW (T:Tab) (rs:List ResultVar) (R:AV -> List aG -> Prop):Exit -> St -> Prop
 | .normal,s=>cu T rs s R
 | .ret,s=>cu T rs s R
 | _,_=>False
theorem UY {T:Tab} {rs:List ResultVar} {R:AV -> List aG -> Prop} {s:St} (h:cu T rs s R):UW T rs R .normal s:=h
theorem Yw {T:Tab} {rs:List ResultVar} {R:AV -> List aG -> Prop} {s:St} (h:cu T rs s R):UW T rs R .ret s:=h
theorem IY {T:Tab} {rs:List ResultVar} {R:AV -> List aG -> Prop} {s:St} (l:List (Nat × Nat)) (hl:(l.map Prod.fst).Nodup) (h:∀ F:Prop -> Prop,(∀ p,p -> F p) -> rO.zJ T s.sl s.hp rs fun xs=>(match handed s l l 0,wB l xs with | some hs,some ys=>F (R (mF ys) hs) | _,_=>False)):cu T rs s R :=
 ⟨l,hl,h Fin (fun _ h=>h)⟩
theorem adL {E0:Env} {T:Tab} (hT:jA E0.P T) (keep:List Nat) (N:Nat) {f:FuncId} {fn:Func} {c:Code} {args:List AV} {R:AV -> List aG -> Prop} (hf:E0.P.funcs[f]? = some fn) (hb:fn.body = some c)
   (hname:(fn.name == "runtime.NumGoroutine") = false) (hnt:args.length <= fn.ntmps) (hok:bQ fn.ntmps c = true) {cc:CC} (hcc:comp c = cc) {rs:List ResultVar} (hrs:fn.results.toList = rs)
   (h:Wp { E0 with keep:=keep,N:=N } fn.ntmps cc (UW T rs R) ⟨params 0 args,[],0⟩):aO E0 f args R:=by
 refine aO.ahA keep N hf hb hname hnt hrs (WP.mono (h c hcc hok) (fun e s h'=>?_))
 have fin:cu T rs s R -> UN { E0 with keep:=keep,N:=N } rs s R:=by
   rintro ⟨l,hl,h'⟩
   obtain ⟨xs,h1,h2⟩:=kP (E:={ E0 with keep:=keep,N:=N }) hT (ct:=s.ctr) rs h'
   unfold UN
   have h1':mD { E0 with keep:=keep,N:=N } s rs = some xs:=h1
   rw [h1']
   split at h2
   · rename_i hs' ys a b
     exact ⟨l,hs',ys,hl,a,b,h2⟩
   · exact h2.elim
 cases e with
 | normal=>exact ⟨.inl rfl,fin h'⟩
 | ret=>exact ⟨.inr rfl,fin h'⟩
 | _=>exact h'.elim
theorem wrap64 (n:Int):IntKind.i64.wrap n = (n + 9223372036854775808) % 18446744073709551616 - 9223372036854775808:=by
 have e1:(2:Int) ^ 64 = 18446744073709551616:=by decide
 have e2:(2:Int) ^ (64 - 1) = 9223372036854775808:=by decide
 simp only [IntKind.wrap,IntKind.signed,IntKind.bits,Bool.true_and,decide_eq_true_eq,e1,e2]
 split <;> omega
theorem KH (n:Int):IntKind.u8.wrap n = n % 256:=by
 simp [IntKind.wrap,IntKind.signed,IntKind.bits]
theorem wrap32 (n:Int):IntKind.i32.wrap n = (n + 2147483648) % 4294967296 - 2147483648:=by
 have e1:(2:Int) ^ 32 = 4294967296:=by decide
 have e2:(2:Int) ^ (32 - 1) = 2147483648:=by decide
 simp only [IntKind.wrap,IntKind.signed,IntKind.bits,Bool.true_and,decide_eq_true_eq,e1,e2]
 split <;> omega
theorem Yx {T:Tab} {rs:List ResultVar} {R:AV -> List aG -> Prop} {s:St} (h:∀ F:Prop -> Prop,(∀ p,p -> F p) -> KG rs s T R F):MS T rs R .normal s:=yg (h Fin (fun _ h=>h))
theorem adM {T:Tab} {rs:List ResultVar} {R:AV -> List aG -> Prop} {s:St} (h:∀ F:Prop -> Prop,(∀ p,p -> F p) -> KG rs s T R F):MS T rs R .ret s:=yg (h Fin (fun _ h=>h))
def Qp (P:Program) (t:TypeId):Nat -> List (Nat × TypeId × Nat) -> Prop
 | _,[]=>True
 | j,x :: l=>iY P t j = some x /\ Qp P t (j + 1) l
theorem Di {P:Program} {t:TypeId}:∀ {l:List (Nat × TypeId × Nat)} {j:Nat},Qp P t j l -> ∀ f x,l[f]? = some x -> iY P t (j + f) = some x
 | [],j,_,f,x,h=>by simp at h
 | y :: l,j,ha,f,x,h=>by
   cases f with
   | zero=>simp at h;subst h;exact ha.1
   | succ f=>have:=Di ha.2 f x (by simpa using h);rw [show j + (f + 1) = j + 1 + f by omega];exact this
end
end Ev
theorem least (p:Nat -> Prop):∀ n,p n -> ∃ m,p m /\ ∀ k,p k -> m <= k:=by
 intro n
 induction n using Nat.strongRecOn with
 | _ n ih =>
   intro h
   by_cases c:∃ k,k < n /\ p k
   · obtain ⟨k,hk,hp⟩:=c;exact ih k hk hp
   · exact ⟨n,h,fun k hk=>Nat.le_of_not_lt fun hl=>c ⟨k,hl,hk⟩⟩
open Classical in
noncomputable def leastOf (p:Nat -> Prop):Nat:=if h:∃ m,p m /\ ∀ k,p k -> m <= k then h.choose else 0
theorem leastOf_spec {p:Nat -> Prop} {n:Nat} (h:p n):p (leastOf p) /\ ∀ k,p k -> leastOf p <= k:=by
 have hx:=least p n h
 unfold leastOf
 rw [dif_pos hx]
 exact hx.choose_spec
theorem AX {P:Program} {a:Act} {w:World} {Q:Exit -> Act -> World -> Prop} {c rest:Code} (l:Nat) (J:Nat -> Act -> World -> Prop) (hf:findLabel c l = some rest)
   (first:c.wp P (Exit.jump l (fun a w=>∃ n,J n a w) Q) a w)
   (pass:∀ n a w,J n a w -> rest.wp P (Exit.jump l (fun a' w'=>∃ m,m < n /\ J m a' w') Q) a w):(Code.scope c).wp P Q a w:=by
 refine wp_scope_jumps l (fun a w=>∃ n,J n a w) (fun a w=>leastOf fun n=>J n a w) hf first ?_
 rintro a w ⟨n,hn⟩
 obtain ⟨h1,h2⟩:=leastOf_spec (p:=fun n=>J n a w) hn
 refine wp_mono (pass _ a w h1) ?_
 intro e a' w' h
 cases e
 case goto l' =>
   obtain ⟨e,m,hm,hj⟩:=h
   refine ⟨e,⟨m,hj⟩,?_⟩
   exact Nat.lt_of_le_of_lt ((leastOf_spec (p:=fun n=>J n a' w') hj).2 m hj) hm
 all_goals exact h
def wL:CC -> Nat -> Option CC
 | .seq a b,l=>match wL a l with | some r=>some (.seq r b) | none=>wL b l
 | .label l',l=>if l' == l then some .skip else none
 | _,_=>none
theorem uS:∀ (c:Code) {l:Nat},wL (comp c) l = none -> findLabel c l = none
 | .seq a b,l,h=>by
   simp only [comp,wL] at h
   split at h
   · cases h
   · rename_i ha
     simp only [findLabel,uS a ha,uS b h]
 | .label l',l,h=>by
   simp only [comp,wL] at h
   simp only [findLabel]
   split at h
   · cases h
   · rename_i hh;simp [hh]
 | .skip,l,h | .ret,l,h | .exit _,l,h | .cond _ _ _,l,h | .block _ _,l,h | .loop _,l,h | .region _ _ _,l,h | .rangeFunc _ _ _ _,l,h | .scope _,l,h | .goto _,l,h | .refuse _,l,h=>rfl
theorem uT {nt:Nat}:∀ (c:Code) {l:Nat} {d:CC},wL (comp c) l = some d -> bQ nt c = true -> ∃ rest,findLabel c l = some rest /\ comp rest = d /\ bQ nt rest = true
 | .seq a b,l,d,h,hok=>by
   simp only [bQ,Bool.and_eq_true] at hok
   simp only [comp,wL] at h
   split at h
   · rename_i r ha
     obtain ⟨rest,h1,h2,h3⟩:=uT a ha hok.1
     refine ⟨.seq rest b,by simp only [findLabel,h1],?_,by simp [bQ,h3,hok.2]⟩
     simp only [comp,h2];exact Option.some.inj h
   · rename_i ha
     obtain ⟨rest,h1,h2,h3⟩:=uT b h hok.2
     exact ⟨rest,by simp only [findLabel,uS a ha,h1],h2,h3⟩
 | .label l',l,d,h,hok=>by
   simp only [comp,wL] at h
   split at h
   · rename_i hh
     exact ⟨.skip,by simp [findLabel,hh],by simp only [comp];exact Option.some.inj h,rfl⟩
   · cases h
 | .region _ _ dr,l,d,h,hok=>by cases dr <;> simp only [comp] at h <;> split at h <;> cases h
 | .skip,l,d,h,hok | .ret,l,d,h,hok | .exit _,l,d,h,hok | .cond _ _ _,l,d,h,hok | .block _ _,l,d,h,hok | .loop _,l,d,h,hok | .rangeFunc _ _ _ _,l,d,h,hok | .scope _,l,d,h,hok | .goto _,l,d,h,hok | .refuse _,l,d,h,hok=>by cases h
theorem IZ {c:Code} {d:CC} (h:comp c = .scope d):∃ b,c = .scope b /\ comp b = d:=by
 cases c
 case scope b=>simp only [comp] at h;exact ⟨b,rfl,by injection h⟩
 case region id ops dr=>cases dr <;> simp only [comp] at h <;> split at h <;> cases h
 all_goals (simp only [comp] at h;cases h)
namespace Ev
section
variable {E:Env} {nt:Nat}
theorem UZ {K:Exit -> St -> Prop} {s:St} {l:Nat} (h:K .normal s):Wp E nt (.label l) K s:=uK.of h
theorem Yy {K:Exit -> St -> Prop} {s:St} {l:Nat} (h:K (.goto l) s):Wp E nt (.goto l) K s:=uK.of h
theorem Yz {f:St -> Prop} {K:Exit -> St -> Prop} {s:St} {l:Nat} (h:K (.goto l) s):kM f K (.goto l) s:=h
theorem YA {K:Exit -> St -> Prop} {s:St} {i l:Nat} (h:K (.goto l) s):mg i K (.goto l) s:=h
def Dj (l:Nat) (J:St -> Prop) (K:Exit -> St -> Prop):Exit -> St -> Prop
 | .goto l',s=>l' = l /\ J s
 | e,s=>K e s
theorem YB {l:Nat} {J:St -> Prop} {K:Exit -> St -> Prop} {s:St} (h:J s):Dj l J K (.goto l) s:=⟨rfl,h⟩
theorem YC {l:Nat} {J:St -> Prop} {K:Exit -> St -> Prop} {s:St} (h:K .normal s):Dj l J K .normal s:=h
theorem adN {l:Nat} {J:St -> Prop} {K:Exit -> St -> Prop} {s:St} (h:K .ret s):Dj l J K .ret s:=h
theorem YD {l i:Nat} {J:St -> Prop} {K:Exit -> St -> Prop} {s:St} (h:K (.exit i) s):Dj l J K (.exit i) s:=h
def noK (K:Exit -> St -> Prop):Exit -> St -> Prop
 | .goto _,_=>False
 | e,s=>K e s
theorem YE {K:Exit -> St -> Prop} {s:St} (h:K .normal s):noK K .normal s:=h
theorem adO {K:Exit -> St -> Prop} {s:St} (h:K .ret s):noK K .ret s:=h
theorem YF {i:Nat} {K:Exit -> St -> Prop} {s:St} (h:K (.exit i) s):noK K (.exit i) s:=h
theorem jumps {K:Exit -> St -> Prop} {s:St} {d r:CC} (l:Nat) (I:Nat -> St -> Prop) (hf:wL d l = some r) (first:Wp E nt d (Dj l (To E fun s=>∃ n,I n s) K) s)
   (pass:∀ n s1,I n s1 -> Wp E nt r (Dj l (Again E I n) K) s1):Wp E nt (.scope d) K s:=by
 intro c' e hok
 obtain ⟨c,rfl,rfl⟩:=IZ e
 simp only [bQ] at hok
 obtain ⟨rest,hrest,hcr,ahE⟩:=uT c hf hok
 intro M0 w0 M J tm w inv hs
 refine AX l (fun n a w=>∃ s M J,I n s /\ Inv E M0 w0 s.ctr M J s a.tmps w /\ a.tmps.size = nt /\ a.defers = M0.d) hrest ?_ ?_
 · refine wp_mono (first c rfl hok M0 w0 M J tm w inv hs) ?_
   rintro e a w' ⟨s',M',J',hk,hi,hz,hd⟩
   cases e
   case goto l' =>
     obtain ⟨e,s2,hg,n,hI⟩:=hk
     obtain ⟨M3,J3,i3⟩:=hg M0 w0 M' J' a.tmps w' hi
     exact ⟨e,n,s2,M3,J3,hI,i3,hz,hd⟩
   all_goals exact ⟨s',M',J',hk,hi,hz,hd⟩
 · rintro n ⟨tm',ds'⟩ w' ⟨s1,M1,J1,hI1,i1,hz,hd⟩
   simp only at hd;subst hd
   refine wp_mono (pass n s1 hI1 rest hcr ahE M0 w0 M1 J1 tm' w' i1 hz) ?_
   rintro e a w'' ⟨s2,M2,J2,hk,i2,hz2,hd2⟩
   cases e
   case goto l' =>
     obtain ⟨e,s3,hg3,m,hm,hI3⟩:=hk
     obtain ⟨M3,J3,i3⟩:=hg3 M0 w0 M2 J2 a.tmps w'' i2
     exact ⟨e,m,hm,s3,M3,J3,hI3,i3,hz2,hd2⟩
   all_goals exact ⟨s2,M2,J2,hk,i2,hz2,hd2⟩
end
end Ev
namespace Ev
def jk:Operand -> List Nat
 | .tmp t=>[t]
 | _=>[]
def U0:Option Operand -> List Nat
 | some x=>jk x
 | none=>[]
def uses:Op -> List Nat
 | .move x | .assign x=>jk x
 | .store _ p x=>jk p ++ jk x
 | .pick c a b=>jk c ++ (jk a ++ jk b)
 | .box _ x=>jk x
 | .build _ parts=>parts.toList.flatMap fun p=>jk p.2
 | .buildSlice _ _ parts=>parts.toList.flatMap fun p=>jk p.2
 | .load _ p=>jk p
 | .nilCheck x=>jk x
 | .binOp _ _ x y _=>jk x ++ jk y
 | .unOp _ _ x=>jk x
 | .convert _ _ x=>jk x
 | .makeFunc _ f c=>f.toList.flatMap jk ++ c.toList.flatMap jk
 | .fieldAddr _ x _=>jk x
 | .field _ x _=>jk x
 | .indexAddr _ x i=>jk x ++ jk i
 | .index _ x i=>jk x ++ jk i
 | .extract x _=>jk x
 | .slice _ x lo hi mx=>jk x ++ (U0 lo ++ (U0 hi ++ U0 mx))
 | .makeSlice _ l c=>jk l ++ jk c
 | .call cl=>(match cl.callee with | .value f=>jk f | _=>[]) ++ cl.args.toList.flatMap jk
 | _=>[]
section
variable {E:Env} {T:Tab} {hs:List FuncId} {sl sl':List (Nat × AV)} {hp:List (Nat × aG)} {ct nm:Nat}
theorem aH {x:Operand} (h:∀ t ∈ jk x,get sl t = get sl' t):aZ E sl x = aZ E sl' x:=by
 cases x with
 | tmp t=>exact h t (by simp [jk])
 | _=>rfl
theorem uU {x:Option Operand} (h:∀ t ∈ U0 x,get sl t = get sl' t):Gu E sl x = Gu E sl' x:=by
 cases x with
 | none=>rfl
 | some x=>simp only [Gu,aH (E:=E) h]
theorem nZ:∀ {l:List Operand},(∀ t ∈ l.flatMap jk,get sl t = get sl' t) -> wE E sl l = wE E sl' l
 | [],_=>rfl
 | x :: l,h=>by
   simp only [wE]
   rw [aH (E:=E) (sl':=sl') (fun t ht=>h t (by simp [ht])),nZ (l:=l) (fun t ht=>h t (by rw [List.flatMap_cons];exact List.mem_append_right _ ht))]
theorem qE:∀ {l:List (Nat × Operand)},(∀ t ∈ l.flatMap (fun p=>jk p.2),get sl t = get sl' t) -> rJ E sl l = rJ E sl' l
 | [],_=>rfl
 | (i,x) :: l,h=>by
   simp only [rJ]
   rw [aH (E:=E) (sl':=sl') (fun t ht=>h t (by simp [ht])),qE (l:=l) (fun t ht=>h t (by rw [List.flatMap_cons];exact List.mem_append_right _ ht))]
theorem AY:∀ {l:List AV} {hp:List (Nat × aG)} {K:List AV -> List (Nat × aG) -> Prop},lG sl hp l K = lG sl' hp l K
 | [],hp,K=>rfl
 | x :: l,hp,K=>by
   simp only [lG]
   have:∀ (y:AV) (hp':List (Nat × aG)),lG sl hp' l (fun l' hp''=>K (y :: l') hp'') = lG sl' hp' l (fun l' hp''=>K (y :: l') hp''):=fun y hp'=>AY
   simp only [this]
theorem ag2{G:Prop}(h:G:=by rename_i x y t t' a1 a2 a3;rw [o x (by rw [a2];simp),o y (by rw [a2];simp)]):G:=h
theorem og {op:Op} {K:AV -> List (Nat × aG) -> Nat -> Prop} (h:∀ t ∈ uses op,get sl t = get sl' t):bP E T hs nm op sl hp ct K = bP E T hs nm op sl' hp ct K:=by
 have L:∀ {a b:List Nat},(∀ t ∈ a ++ b,get sl t = get sl' t) -> ∀ t ∈ a,get sl t = get sl' t:=fun h t ht=>h t (List.mem_append_left _ ht)
 have R:∀ {a b:List Nat},(∀ t ∈ a ++ b,get sl t = get sl' t) -> ∀ t ∈ b,get sl t = get sl' t:=fun h t ht=>h t (List.mem_append_right _ ht)
 cases op <;> simp only [uses] at h <;> simp only [bP]
 case move x=>rw [aH h]
 case assign x=>rw [aH h]
 case store t p x=>rw [aH (L h),aH (R h)];rfl
 case pick c a b=>rw [aH (L h),aH (L (R h)),aH (R (R h))]
 case box t x=>rw [aH h]
 case build t parts=>rw [qE h]
 case buildSlice t len parts=>rw [qE h];simp only [AY (sl:=sl) (sl':=sl')]
 case load t p=>rw [aH h]
 case nilCheck x=>rw [aH h]
 case binOp op t x y t'=>rw [aH (L h),aH (R h)]
 case unOp op t x=>rw [aH h]
 case convert a b x=>rw [aH h]
 case makeFunc fn f c=>rw [nZ (L h),nZ (R h)]
 case fieldAddr t x f=>rw [aH h]
 case field t x f=>rw [aH h]
 case indexAddr t x i=>rw [aH (L h),aH (R h)]
 case index t x i=>rw [aH (L h),aH (R h)]
 case extract x i=>rw [aH h]
 case slice t x lo hi mx=>rw [aH (L h),uU (L (R h)),uU (L (R (R h))),uU (R (R (R h)))]
 case makeSlice t l c=>rw [aH (L h),aH (R h)]
 case call cl =>
   have h2:=R h
   have h1:=L h
   have o:∀ x ∈ cl.args.toList,aZ E sl x = aZ E sl' x:=fun x hx=>aH (fun t ht=>h2 t (List.mem_flatMap.2 ⟨x,hx,ht⟩))
   unfold uN
   split
   · rename_i x t a1 a2 a3;rw [o x (by rw [a2];simp)]
   · rename_i q x y a1 a2;rw [o x (by rw [a2];simp),o y (by rw [a2];simp)]
   · rename_i q x y a1 a2;rw [o x (by rw [a2];simp),o y (by rw [a2];simp)]
   · refine' ag2
   · refine' ag2
   · rename_i x t a1 a2 a3;rw [o x (by rw [a2];simp)]
   · rename_i a1;simp only [a1] at h1;rw [aH h1,nZ h2];simp only [AY (sl:=sl) (sl':=sl')]
   · rfl
def Ext (hp hp':List (Nat × aG)):Prop:=∀ r k,get hp r = some k -> ∃ k',get hp' r = some k' /\ k'.es = k.es /\ k'.ver = k.ver /\ k'.sz = k.sz /\ k'.box = k.box /\ k'.ty = k.ty
theorem Ext.refl (hp:List (Nat × aG)):Ext hp hp:=fun r k h=>⟨k,h,rfl,rfl,rfl,rfl,rfl⟩
theorem Ext.trans {a b c:List (Nat × aG)} (h:Ext a b) (h':Ext b c):Ext a c:=fun r k hk=>by
 obtain ⟨k1,g1,e1,e2,e3,e4,e5⟩:=h r k hk
 obtain ⟨k2,g2,f1,f2,f3,f4,f5⟩:=h' r k1 g1
 exact ⟨k2,g2,f1.trans e1,f2.trans e2,f3.trans e3,f4.trans e4,f5.trans e5⟩
theorem Ext.cons {n:Nat} {k:aG} (h:get hp n = none):Ext hp ((n,k) :: hp):=fun r k' hk=>by
 refine ⟨k',?_,rfl,rfl,rfl,rfl,rfl⟩
 rw [au,if_neg (fun e=>by subst e;rw [h] at hk;cases hk)];exact hk
theorem Ext.fH {r:Nat} {k:aG} (h:get hp r = some k) (m:Nat):Ext hp ((r,{ k with fH:=m }) :: hp):=fun r' k' hk=>by
 rw [au]
 by_cases e:r' = r
 · subst e
   rw [h] at hk;obtain rfl:=Option.some.inj hk
   exact ⟨_,if_pos rfl,rfl,rfl,rfl,rfl,rfl⟩
 · exact ⟨k',by rw [if_neg e];exact hk,rfl,rfl,rfl,rfl,rfl⟩
theorem zZ {α:Type} {l l':List (Nat × α)} {t:Nat} {x:α} (h:get l t = some x):get (l ++ l') t = some x:=by
 induction l with
 | nil=>simp [get_nil] at h
 | cons q l ih =>
   obtain ⟨k,y⟩:=q
   rw [List.cons_append,au];rw [au] at h
   split
   · rename_i e;rw [if_pos e] at h;exact h
   · rename_i e;rw [if_neg e] at h;exact ih h
theorem Ext.app (l:List (Nat × aG)):Ext hp (hp ++ l):=fun r k hk=>⟨k,zZ hk,rfl,rfl,rfl,rfl,rfl⟩
theorem Ext.adds (nm ct:Nat):∀ (l:List aG) (j:Nat) (s:St),Ext s.hp (St.adds nm ct j l s).hp
 | [],j,s=>Ext.refl _
 | k :: l,j,s=>by
   simp only [St.adds]
   exact (Ext.app _).trans (Ext.adds nm ct l (j + 1) { s with hp:=s.hp ++ [(nm + j,k.shift nm ct j)] })
theorem mV {b:Bool} {A:Prop} (k:A) (h:b = true):AO b A:=by subst h;exact k
theorem tu:∀ {l:List (Nat × Nat)} {hp:List (Nat × aG)} {R R':List (Nat × aG) -> Prop},wF hp l R -> (∀ hp',Ext hp hp' -> R hp' -> R' hp') -> wF hp l R'
 | [],hp,R,R',h,hk=>hk _ (Ext.refl _) h
 | (r,n) :: l,hp,R,R',h,hk=>by
   simp only [wF,bF] at h ⊢
   split at h
   · rename_i k hg
     try simp only [hg]
     exact tu h (fun hp' he=>hk hp' ((Ext.fH hg _).trans he))
   · rename_i hg
     try simp only [hg]
     exact tu h hk
theorem oV {f:AV -> (AV -> List (Nat × Nat) -> Prop) -> Prop} (hf:∀ x K K',f x K -> (∀ y m,K y m -> K' y m) -> f x K'):∀ {l:List AV} {K K':List AV -> List (Nat × Nat) -> Prop},CP f l K -> (∀ y m,K y m -> K' y m) -> CP f l K'
 | [],K,K',h,hk=>hk _ _ h
 | c :: l,K,K',h,hk=>by
   simp only [CP] at h ⊢
   exact hf _ _ _ h (fun y m h'=>oV hf h' (fun y' m'=>hk _ _))
theorem lQ:∀ (n:Nat) (x:AV) (K K':AV -> List (Nat × Nat) -> Prop),oD hp n x K -> (∀ y m,K y m -> K' y m) -> oD hp n x K'
 | 0,x,K,K',h,hk=>by simp only [oD,bF] at h
 | n + 1,x,K,K',h,hk=>by
   cases x <;> simp only [oD,bF] at h ⊢
   case agg cs=>exact oV (lQ n) h (fun y m=>hk _ _)
   case dM cs=>exact oV (lQ n) h (fun y m=>hk _ _)
   case clo f a b=>exact oV (lQ n) h (fun y m h'=>oV (lQ n) h' (fun y m=>hk _ _))
   case own r ver off len =>
     split at h
     · rename_i k hg
       obtain ⟨hb,h1,h2⟩:=eY h
       exact jB (⟨h1,hk _ _ h2⟩) hb
     · exact h.elim
   all_goals exact hk _ _ h
theorem uV:∀ {l:List AV} {hp:List (Nat × aG)} {K K':List AV -> List (Nat × aG) -> Prop},lG sl hp l K -> (∀ y hp',Ext hp hp' -> K y hp' -> K' y hp') -> lG sl hp l K'
 | [],hp,K,K',h,hk=>hk _ _ (Ext.refl _) h
 | x :: l,hp,K,K',h,hk=>by
   simp only [lG] at h ⊢
   exact lQ _ _ _ _ h (fun y m h'=>tu h' (fun hp' he h''=>uV h'' (fun y' hp'' he'=>hk _ _ (he.trans he'))))
theorem uX {t:TypeId} {cs:List AV} {K K':AV -> Prop} (h:qQ T t cs K) (hk:∀ x,K x -> K' x):qQ T t cs K':=by
 unfold qQ at h ⊢
 split at h <;> rename_i hn <;> (try simp only [hn])
 · exact ⟨h.1,hk _ h.2⟩
 · split at h
   · exact hk _ h
   · exact h.elim
 · exact h
theorem MV {op:BinOp} {k:IntKind} {a b:Int} {K K':Value -> Prop} (h:Ez op k a b K) (hk:∀ v,K v -> K' v):Ez op k a b K':=by
 cases op <;> simp only [Ez] at h ⊢ <;> first | exact hk _ h | exact ⟨h.1,hk _ h.2⟩
theorem ae4{G:Prop}(h:G:=by split at h <;> first | exact hk _ h | exact h.elim):G:=h
theorem MW {op:BinOp} {t:TypeId} {x y:AV} {K K':Value -> Prop} (h:Gt T op t x y K) (hk:∀ v,K v -> K' v):Gt T op t x y K':=by
 unfold Gt at h ⊢
 split at h
 · obtain ⟨hb,h⟩:=eH h
   exact mV (MV h hk) hb
 · split at h
   · exact ⟨h.1,hk _ h.2⟩
   · exact hk _ h
   · exact hk _ h
   · exact h.elim
 · refine' ae4
 · refine' ae4
 · refine' ae4
 · refine' ae4
 · exact h.elim
theorem tC {x:AV} {K K':List (List AV) -> Prop} (h:uw hp x K) (hk:∀ x,K x -> K' x):uw hp x K':=by
 unfold uw at h ⊢
 try simp only [bF] at h ⊢
 split at h
 · exact hk _ h
 · exact hk _ h
 · split at h
   · obtain ⟨hb,h1,h2⟩:=eY h
     exact jB (⟨h1,hk _ h2⟩) hb
   · exact h.elim
 · exact h.elim
theorem MX {a b:TypeId} {x:AV} {K K':AV -> Prop} (h:nM T a b hp x K) (hk:∀ x,K x -> K' x):nM T a b hp x K':=by
 unfold nM at h ⊢
 split at h
 · exact hk _ h
 · exact hk _ h
 · split at h
   · exact hk _ h
   · exact ⟨h.1,hk _ h.2⟩
   · exact h.elim
 · split at h
   · exact tC h (fun xs h'=>by obtain ⟨bs,hb,h'⟩:=qw h';exact CY bs hb (hk _ h'))
   · exact tC h (fun xs h'=>by obtain ⟨bs,hb,h'⟩:=qx h';exact CZ bs hb (hk _ h'))
   · exact h.elim
 · exact h.elim
theorem AZ {places:List (Nat × Nat)}:∀ {l:List (Nat × AV)} {cells:List AV} {K K':List AV -> Prop},uM places cells l K -> (∀ x,K x -> K' x) -> uM places cells l K'
 | [],cells,K,K',h,hk=>hk _ h
 | (i,x) :: l,cells,K,K',h,hk=>by
   simp only [uM] at h ⊢
   split at h
   · obtain ⟨hb,h⟩:=eH h
     exact mV (AZ h hk) hb
   · exact h.elim
theorem tH {len:Nat} {lo hi:Option Int} {K K':Nat -> Nat -> Prop} (h:zI len lo hi K) (hk:∀ a b,K a b -> K' a b):zI len lo hi K':=by
 unfold zI at h ⊢
 split at h <;> first | exact hk _ _ h | exact ⟨h.1,hk _ _ h.2⟩
theorem Gw {t:TypeId} {x:AV} {lo hi mx:Option Int} {K K':AV -> Prop} (h:iZ T t hp x lo hi mx K) (hk:∀ x,K x -> K' x):iZ T t hp x lo hi mx K':=by
 unfold iZ at h ⊢
 try simp only [bF] at h ⊢
 split at h
 · split at h
   · exact tH h (fun _ _=>hk _)
   · exact h.elim
 · split at h
   · exact tH h (fun _ _=>hk _)
   · exact h.elim
 · split at h
   · obtain ⟨hb,h⟩:=eH h
     refine mV ?_ hb
     refine tH h (fun a b h'=>?_)
     split at h'
     · exact hk _ h'
     · exact ⟨h'.1,hk _ h'.2⟩
   · exact h.elim
 · split at h
   · obtain ⟨hb,h⟩:=eY h
     exact jB (tH h (fun _ _=>hk _)) hb
   · exact h.elim
 · exact h.elim
theorem Dk {t:TypeId} {x:AV} {ys:List (List AV)} {K K':AV -> List (Nat × aG) -> Nat -> Prop} (h:IQ T nm t hp ct x ys K) (hk:∀ x a b,K x a b -> K' x a b):IQ T nm t hp ct x ys K':=by
 unfold IQ at h ⊢
 try simp only [bF] at h ⊢
 split at h
 · split at h
   · split at h
     · exact ⟨h.1,hk _ _ _ h.2⟩
     · exact h.elim
   · split at h
     · obtain ⟨hb,h1,h2⟩:=eY h
       exact jB (⟨h1,hk _ _ _ h2⟩) hb
     · exact h.elim
   · exact h.elim
 · exact h.elim
theorem wM {es:List (List AV)} {i:Nat} {K K':List AV -> Prop} (h:CO es i K) (hk:∀ x,K x -> K' x):CO es i K':=by
 unfold CO at h ⊢
 split at h
 · exact hk _ h
 · exact h.elim
theorem Gx {x:AV} {K K':List AV -> Prop} (h:cellsE hp x K) (hk:∀ x,K x -> K' x):cellsE hp x K':=by
 unfold cellsE at h ⊢
 try simp only [bF] at h ⊢
 split at h
 · exact hk _ h
 · split at h
   · obtain ⟨hb,h⟩:=eY h
     exact jB (wM h (fun e=>hk _)) hb
   · exact h.elim
 · exact h.elim
theorem Gy {t:TypeId} {p x:AV} {K K':List (Nat × aG) -> Prop} (h:yc T t p x sl hp ct K) (hk:∀ x,K x -> K' x):yc T t p x sl hp ct K':=by
 unfold yc at h ⊢
 try simp only [bF] at h ⊢
 split at h
 · split at h
   · split at h
     · split at h
       · obtain ⟨hb,h1,h⟩:=eY h
         exact jB (⟨h1,wM h (fun e=>hk _)⟩) hb
       · exact h.elim
     · refine lQ _ _ _ _ h (fun y m h'=>tu h' (fun hp' he h''=>?_))
       split at h''
       · obtain ⟨hb,h1,h2⟩:=eY h''
         exact jB (⟨h1,wM h2 (fun e=>hk _)⟩) hb
       · exact h''.elim
   · exact h.elim
 · exact h.elim
def qX (hs:List FuncId):Op -> Bool
 | .store _ _ _=>true
 | .convert a b _=>Nat.beq a b
 | .call cl=>(match cl.callee with | .builtin .append | .builtin .copy | .builtin .clear=>true | .value (.func g)=>hs.contains g | .value _=>!hs.isEmpty | _=>false)
 | _=>false
theorem YG{G:Prop}(h:G:=by split at h <;> first | exact same h | exact h.elim):G:=h
theorem uY {op:Op} {K K':AV -> List (Nat × aG) -> Nat -> Prop} (h:bP E T hs nm op sl hp ct K) (hk:∀ x hp' aW,(qX hs op = false -> Ext hp hp') -> K x hp' aW -> K' x hp' aW):bP E T hs nm op sl hp ct K':=by
 have same:∀ {x aW},K x hp aW -> K' x hp aW:=fun h=>hk _ _ _ (fun _=>Ext.refl _) h
 have new:∀ {x aW k},get hp nm = none -> K x ((nm,k) :: hp) aW -> K' x ((nm,k) :: hp) aW:=fun hn h=>hk _ _ _ (fun _=>Ext.cons hn) h
 cases op <;> simp only [bP] at h ⊢
 case move x=>split at h <;> first | exact same h | exact h.elim
 case assign x=>split at h <;> first | exact same h | exact h.elim
 case store t p x =>
   split at h
   · exact Gy h (fun hp' h'=>hk _ _ _ (fun e=>by simp [qX] at e) h')
   · exact h.elim
 case pick c a b =>
   split at h
   · rename_i t ht
     cases t
     · have h':zH (aZ E sl b) fun x=>K x hp ct:=h
       show zH (aZ E sl b) fun x=>K' x hp ct
       unfold zH at h' ⊢
       split at h' <;> first | exact same h' | exact h'.elim
     · have h':zH (aZ E sl a) fun x=>K x hp ct:=h
       show zH (aZ E sl a) fun x=>K' x hp ct
       unfold zH at h' ⊢
       split at h' <;> first | exact same h' | exact h'.elim
   · exact h.elim
 case alloc t=>split at h;(rename_i hc hg;exact new hg h);exact h.elim
 case box t x =>
   split at h
   · rename_i hc hg
     split at h
     · exact new hg h
     · exact h.elim
   · exact h.elim
 case build t parts =>
   split at h
   · exact AZ h (fun cs=>same)
   · exact h.elim
 case buildSlice t len parts =>
   split at h
   · obtain ⟨hb,h⟩:=eH h
     refine mV ?_ hb
     split at h
     · split at h
       · rename_i hg;exact hk _ _ _ (fun _=>Ext.cons hg) h
       · exact h.elim
     · refine uV h (fun y hp' he h'=>?_)
       split at h'
       · rename_i hg;exact hk _ _ _ (fun _=>he.trans (Ext.cons hg)) h'
       · exact h'.elim
   · exact h.elim
 case load t p =>
   split at h
   · exact Gx h (fun cs h'=>uX h' (fun x=>same))
   · exact h.elim
 case nilCheck x=>split at h <;> first | exact same h | exact h.elim
 case binOp op t x y t'=>split at h;exact MW h (fun v=>same);exact h.elim
 case unOp op t x=>split at h <;> first | exact same h | exact h.elim
 case convert a b x =>
   split at h
   · split at h
     · rename_i r v off len hbq _
       unfold Qn at h ⊢
       split at h
       · split at h
         · rw [bF] at h ⊢
           obtain ⟨hb,h1,h2⟩:=eY h
           exact jB (⟨h1,hk _ _ _ (fun e=>by simp only [qX] at e;rw [hbq] at e;cases e) h2⟩) hb
         · exact h.elim
       · exact h.elim
     · exact MX h (fun v=>same)
   · exact h.elim
 case makeFunc fn f c=>split at h <;> first | exact same h | exact h.elim
 case fieldAddr t x f =>
   split at h
   · refine' YG
   · refine' YG
   · exact h.elim
 case field t x f =>
   split at h
   · split at h <;> first | exact uX h (fun v=>same) | exact h.elim
   · exact h.elim
 case indexAddr t x i =>
   split at h
   · split at h
     · obtain ⟨hb,h1,h2⟩:=eH h
       exact mV (⟨h1,wM h2 (fun e=>same)⟩) hb
     · exact h.elim
   · split at h
     · obtain ⟨hb,h1,h2⟩:=eY h
       exact jB (⟨h1,same h2⟩) hb
     · exact h.elim
   · split at h <;> first | exact ⟨h.1,same h.2⟩ | exact h.elim
   · split at h <;> first | exact ⟨h.1,same h.2⟩ | exact h.elim
   · exact h.elim
 case index t x i =>
   split at h
   · split at h <;> first | exact ⟨h.1,same h.2⟩ | exact h.elim
   · split at h <;> first | exact ⟨h.1,uX h.2 (fun v=>same)⟩ | exact h.elim
   · exact h.elim
 case extract x i =>
   split at h
   · refine' YG
   · exact h.elim
 case slice t x lo hi mx=>split at h;exact Gw h (fun v=>same);exact h.elim
 case makeSlice t l c=>split at h;(rename_i hg;exact ⟨h.1,new hg h.2⟩);exact h.elim
 case call cl =>
   unfold uN at h ⊢
   split at h
   · split at h
     · refine' YG
     · refine' YG
     · exact h.elim
   · refine' YG
   · refine' YG
   · rename_i a1 a2 a3
     have mu:∀ {hp':List (Nat × aG)},qX hs (.call cl) = false -> Ext hp hp':=fun e=>by simp [qX,a1] at e
     split at h
     · split at h
       · exact Dk h (fun x a b=>hk _ _ _ mu)
       · exact h.elim
     · split at h
       · exact tC h (fun ys h'=>Dk h' (fun x a b=>hk _ _ _ mu))
       · exact h.elim
     · exact h.elim
   · rename_i x y t t' a1 a2 a3
     have mu:∀ {hp':List (Nat × aG)},qX hs (.call cl) = false -> Ext hp hp':=fun e=>by simp [qX,a1] at e
     split at h
     · refine tC h (fun ys h'=>?_)
       split at h'
       · rw [bF] at h' ⊢
         obtain ⟨hb,h1,h2⟩:=eY h'
         exact jB (⟨h1,hk _ _ _ mu h2⟩) hb
       · exact h'.elim
     · exact h.elim
   · rename_i x t a1 a2 a3
     have mu:∀ {hp':List (Nat × aG)},qX hs (.call cl) = false -> Ext hp hp':=fun e=>by simp [qX,a1] at e
     split at h
     · split at h
       · rw [bF] at h ⊢
         obtain ⟨hb,h1,h2⟩:=eY h
         exact jB (⟨h1,hk _ _ _ mu h2⟩) hb
       · exact h.elim
     · exact h.elim
   · rename_i f a1
     split at h
     · rename_i g first caps as hf has
       split at h
       · rename_i hc
         have mu:∀ {hp':List (Nat × aG)},qX hs (.call cl) = false -> Ext hp hp':=fun e=>by
           exfalso
           simp only [qX,a1] at e
           cases f with
           | func g' =>
             simp only [aZ,Option.some.injEq,AV.clo.injEq,Fn.func.injEq] at hf
             simp only [hf.1] at e;rw [hc] at e;cases e
           | _=>cases hs <;> simp_all
         obtain ⟨N,h⟩:=h.out
         refine ⟨N,?_⟩
         intro M0 w0 c M J w vs i1 i2 i3
         obtain ⟨a,b⟩:=h M0 w0 c M J w vs i1 i2 i3
         refine ⟨a,b.mono ?_⟩
         rintro e w' ⟨v,r,hp',c',M',J',x1,x2,x3,x4⟩
         exact ⟨v,r,hp',c',M',J',x1,fun c' hc'=>hk _ _ _ mu (x2 c' hc'),x3,x4⟩
       · refine uV h (fun ys hp' he h'=>?_)
         have h':=h'.out
         refine ⟨?_⟩
         refine h'.mono ?_
         rintro r hs' ⟨a,b,c⟩
         exact ⟨a,b,hk _ _ _ (fun _=>he.trans (Ext.adds nm ct hs' 0 ⟨[],hp',0⟩)) c⟩
     · exact h.elim
   · exact h.elim
end
end Ev
end Go.Proofs.YtadlnaljicikfaaDoor.aI
namespace Go.Proofs.YtadlnaljicikfaaDoor.aI
open Go Go.RowKit
namespace Ev
def ig (a b:List (Nat × AV)):Prop:=∀ t,get a t = get b t
theorem ig.refl (a:List (Nat × AV)):ig a a:=fun _=>rfl
theorem ig.symm {a b:List (Nat × AV)} (h:ig a b):ig b a:=fun t=>(h t).symm
theorem ig.trans {a b c:List (Nat × AV)} (h:ig a b) (h':ig b c):ig a c:=fun t=>(h t).trans (h' t)
theorem ig.cons {a b:List (Nat × AV)} (h:ig a b) (d:Nat) (x:AV):ig ((d,x) :: a) ((d,x) :: b):=fun t=>by
 rw [au,au];split
 · rfl
 · exact h t
theorem ig.app {a b:List (Nat × AV)} (h:ig a b):∀ u:List (Nat × AV),ig (u ++ a) (u ++ b)
 | []=>h
 | (d,x) :: u=>(ig.app h u).cons d x
theorem ig.over {a:List (Nat × AV)} {t:Nat} {x:AV} (h:get a t = some x):ig ((t,x) :: a) a:=fun t'=>by
 rw [au];split
 · rename_i e;subst e;exact h.symm
 · rfl
theorem A8 {a:List (Nat × AV)} {d:Nat} {x:AV}:∀ {u:List (Nat × AV)},(∀ p ∈ u,p.1 ≠ d) -> ig (u ++ (d,x) :: a) ((d,x) :: (u ++ a))
 | [],_,t=>rfl
 | (k,y) :: u,h,t=>by
   have ih:=A8 (a:=a) (d:=d) (x:=x) (u:=u) (fun p hp=>h p (by simp [hp])) t
   have hne:k ≠ d:=h (k,y) (by simp)
   rw [List.cons_append,au,ih,au,au,List.cons_append,au]
   by_cases e:t = k
   · subst e;rw [if_pos rfl,if_neg hne,if_pos rfl]
   · rw [if_neg e,if_neg e]
theorem EH {a b:List (Nat × AV)} (h:ig a b):∀ (ks:List Nat) (acc:List (Nat × AV)),uJ a ks acc = uJ b ks acc
 | [],acc=>rfl
 | k :: ks,acc=>by
   simp only [uJ,h k]
   split
   · exact EH h ks _
   · exact EH h ks _
theorem EI {a:List (Nat × AV)} {t:Nat}:∀ {u:List (Nat × AV)},(∀ p ∈ u,p.1 = t -> get a t = some p.2) -> get (u ++ a) t = get a t
 | [],_=>rfl
 | (k,y) :: u,h=>by
   rw [List.cons_append,au]
   split
   · rename_i e;exact (h (k,y) (by simp) e.symm).symm
   · exact EI (fun p hp=>h p (by simp [hp]))
def Qq (cl:Call):Bool:=match cl.callee with | .builtin .len=>true | _=>false
theorem U1 {cl:Call} (h:Qq cl = true):cl.callee = .builtin .len:=by
 unfold Qq at h;split at h
 · assumption
 · cases h
def oG:Op -> Bool
 | .move _ | .assign _ | .nilCheck _ | .load _ _ | .fieldAddr _ _ _ | .field _ _ _ | .indexAddr _ _ _ | .extract _ _=>true
 | .call cl=>Qq cl
 | .convert a b _=>!Nat.beq a b
 | _=>false
def jw:Op -> Bool
 | .load _ _ | .indexAddr _ _ _ | .convert _ _ _=>true
 | _=>false
section
variable {E:Env} {T:Tab} {hs:List FuncId} {sl sl':List (Nat × AV)} {hp hp':List (Nat × aG)} {ct nm base:Nat}
theorem Dl {es:List (List AV)} {i:Nat} {K:List AV -> Prop} (h:CO es i K):∃ e,K e /\ ∀ K':List AV -> Prop,K' e -> CO es i K':=by
 obtain ⟨e,he,hk⟩:=lN h
 exact ⟨e,hk,fun K' h'=>XV e he h'⟩
theorem EJ {a:AV} {K:List AV -> Prop} (h:cellsE hp a K):∃ cs,K cs /\ ∀ (hp':List (Nat × aG)) (K':List AV -> Prop),Ext hp hp' -> K' cs -> cellsE hp' a K':=by
 unfold cellsE at h
 try simp only [bF] at h
 split at h
 · rename_i cs;exact ⟨cs,h,fun hp' K' _ h'=>h'⟩
 · rename_i r ver i o
   split at h
   · rename_i k hk
     obtain ⟨hb,h⟩:=eY h
     obtain ⟨e,he,hk'⟩:=lN h
     refine ⟨_,hk',fun hp' K' ext h'=>?_⟩
     obtain ⟨k',g,e1,e2,e3,e4,e5⟩:=ext r k hk
     simp only [cellsE,g]
     exact jB (XV e (by rw [e1];exact he) h') (by rw [e2];exact hb)
   · exact h.elim
 · exact h.elim
theorem rP {t:TypeId} {cs:List AV} {K:AV -> Prop} (h:qQ T t cs K):∃ x,K x /\ ∀ K':AV -> Prop,K' x -> qQ T t cs K':=by
 unfold qQ at h ⊢
 split at h
 · exact ⟨_,h.2,fun K' h'=>⟨h.1,h'⟩⟩
 · split at h
   · exact ⟨_,h,fun K' h'=>h'⟩
   · exact h.elim
 · exact h.elim
theorem Ba {a:AV} {K:List (List AV) -> Prop} (h:uw hp a K):∃ xs,K xs /\ ∀ (hp':List (Nat × aG)) (K':List (List AV) -> Prop),Ext hp hp' -> K' xs -> uw hp' a K':=by
 unfold uw at h
 try simp only [bF] at h
 split at h
 · rename_i xs;exact ⟨_,h,fun hp' K' _ h'=>h'⟩
 · exact ⟨_,h,fun hp' K' _ h'=>h'⟩
 · rename_i r ver off len
   split at h
   · rename_i k hk
     obtain ⟨hb,h1,h⟩:=eY h
     refine ⟨_,h,fun hp' K' ext h'=>?_⟩
     obtain ⟨k',g,e1,e2,e3,e4,e5⟩:=ext r k hk
     simp only [uw,g,bF]
     exact jB ⟨by rw [e1];exact h1,by rw [e1];exact h'⟩ (by rw [e2,e4];exact hb)
   · exact h.elim
 · exact h.elim
theorem agq{G:Prop}(h:G:=by rename_i h1 h2;exact ⟨_,h,fun hp' K' _ h'=>by simp only [nM,h1,h2];exact h'⟩):G:=h
theorem I4 {src dst:TypeId} {a:AV} {K:AV -> Prop} (h:nM T src dst hp a K):∃ x,K x /\ ∀ (hp':List (Nat × aG)) (K':AV -> Prop),Ext hp hp' -> K' x -> nM T src dst hp' a K':=by
 unfold nM at h
 split at h
 · refine' agq
 · refine' agq
 · rename_i h1 h2
   split at h
   · rename_i h3;exact ⟨_,h,fun hp' K' _ h'=>by simp only [nM,h1,h2,h3];exact h'⟩
   · rename_i h3;exact ⟨_,h.2,fun hp' K' _ h'=>by simp only [nM,h1,h2,h3];exact ⟨h.1,h'⟩⟩
   · exact h.elim
 · rename_i h1 h2
   split at h
   · rename_i h3
     obtain ⟨xs,h4,h5⟩:=Ba h
     obtain ⟨bs,hb,h6⟩:=qw h4
     exact ⟨_,h6,fun hp' K' ext h'=>by simp only [nM,h1,h2,h3];exact h5 hp' _ ext (CY bs hb h')⟩
   · rename_i h3
     obtain ⟨xs,h4,h5⟩:=Ba h
     obtain ⟨bs,hb,h6⟩:=qx h4
     exact ⟨_,h6,fun hp' K' ext h'=>by simp only [nM,h1,h2,h3];exact h5 hp' _ ext (CZ bs hb h')⟩
   · exact h.elim
 · exact h.elim
theorem uZ {op:Op} {R:AV -> List (Nat × aG) -> Nat -> Prop} (hs':oG op = true) (h:bP E T hs nm op sl hp ct R) :
   ∃ x,R x hp ct /\ ∀ (sl':List (Nat × AV)) (hp':List (Nat × aG)) (aW:Nat) (R':AV -> List (Nat × aG) -> Nat -> Prop),(∀ t ∈ uses op,get sl' t = get sl t) -> (jw op = true -> Ext hp hp') -> R' x hp' aW -> bP E T hs nm op sl' hp' aW R':=by
 cases op <;> simp only [oG,Bool.false_eq_true] at hs' <;> simp only [bP] at h
 case move x =>
   split at h
   · rename_i a ha
     refine ⟨a,h,fun sl' hp' aW R' hu _ h'=>?_⟩
     simp only [bP,aH (E:=E) (x:=x) hu,ha];exact h'
   · exact h.elim
 case assign x =>
   split at h
   · rename_i a ha
     refine ⟨a,h,fun sl' hp' aW R' hu _ h'=>?_⟩
     simp only [bP,aH (E:=E) (x:=x) hu,ha];exact h'
   · exact h.elim
 case nilCheck x =>
   split at h
   · rename_i cs hc
     refine ⟨_,h,fun sl' hp' aW R' hu _ h'=>?_⟩
     simp only [bP,aH (E:=E) (x:=x) hu,hc];exact h'
   · rename_i r v i o hc
     refine ⟨_,h,fun sl' hp' aW R' hu _ h'=>?_⟩
     simp only [bP,aH (E:=E) (x:=x) hu,hc];exact h'
   · exact h.elim
 case convert a b x =>
   have hne:Nat.beq a b = false:=by simpa using hs'
   split at h
   · rename_i y hy
     split at h
     · rename_i e;rw [hne] at e;cases e
     · obtain ⟨z,h1,h2⟩:=I4 h
       refine ⟨z,h1,fun sl' hp' aW R' hu he h'=>?_⟩
       simp only [bP,aH (E:=E) (x:=x) hu,hy,hne]
       exact h2 hp' _ (he rfl) h'
   · exact h.elim
 case call cl =>
   have hce:=U1 hs'
   unfold uN at h
   split at h
   · rename_i x t h1 h2 h3
     have cx:∀ sl',(∀ t ∈ uses (Op.call cl),get sl' t = get sl t) -> aZ E sl' x = aZ E sl x:=fun sl' hu=>aH (fun t ht=>hu t (by simp only [uses];refine List.mem_append_right _ ?_;rw [h2];simp;exact ht))
     split at h
     · rename_i b ha
       split at h
       · rename_i hk
         refine ⟨_,h,fun sl' hp' aW R' hu _ h'=>?_⟩
         simp only [bP,uN,hce,h2,h3,cx sl' hu,ha,hk];exact h'
       · exact h.elim
     · rename_i a hns ha
       split at h
       · rename_i n q hn hq
         refine ⟨_,h,fun sl' hp' aW R' hu _ h'=>?_⟩
         simp only [bP,uN,hce,h2,h3,cx sl' hu,ha,hn,hq]
         exact h'
       · exact h.elim
     · exact h.elim
   all_goals first | (rename_i h1 _ _;rw [hce] at h1;cases h1;done) | (rename_i h1 _;rw [hce] at h1;cases h1;done) | (rename_i h1;rw [hce] at h1;cases h1;done) | exact h.elim
 case load t p =>
   split at h
   · rename_i a ha
     obtain ⟨cs,h1,h2⟩:=EJ h
     obtain ⟨x,h3,h4⟩:=rP h1
     refine ⟨x,h3,fun sl' hp' aW R' hu he h'=>?_⟩
     simp only [bP,aH (E:=E) (x:=p) hu,ha]
     exact h2 hp' _ (he rfl) (h4 _ h')
   · exact h.elim
 case fieldAddr t x f =>
   split at h
   · rename_i l cs hl ha
     split at h
     · rename_i o t' n hf
       refine ⟨_,h,fun sl' hp' aW R' hu _ h'=>?_⟩
       simp only [bP,aH (E:=E) (x:=x) hu,hl,ha,hf];exact h'
     · exact h.elim
   · rename_i l r v i o' hl ha
     split at h
     · rename_i o t' n hf
       refine ⟨_,h,fun sl' hp' aW R' hu _ h'=>?_⟩
       simp only [bP,aH (E:=E) (x:=x) hu,hl,ha,hf];exact h'
     · exact h.elim
   · exact h.elim
 case field t x f =>
   split at h
   · rename_i l cs hl ha
     split at h
     · rename_i o t' n hf
       obtain ⟨y,h3,h4⟩:=rP h
       refine ⟨y,h3,fun sl' hp' aW R' hu _ h'=>?_⟩
       simp only [bP,aH (E:=E) (x:=x) hu,hl,ha,hf];exact h4 _ h'
     · exact h.elim
   · exact h.elim
 case indexAddr t x i =>
   have cx:∀ sl',(∀ t ∈ uses (Op.indexAddr t x i),get sl' t = get sl t) -> aZ E sl' x = aZ E sl x:=fun sl' hu=>aH (fun t ht=>hu t (by simp only [uses];exact List.mem_append_left _ ht))
   have ci:∀ sl',(∀ t ∈ uses (Op.indexAddr t x i),get sl' t = get sl t) -> aZ E sl' i = aZ E sl i:=fun sl' hu=>aH (fun t ht=>hu t (by simp only [uses];exact List.mem_append_right _ ht))
   split at h
   · rename_i z xs k n ha hi
     split at h
     · rename_i e sz q hl
       obtain ⟨hb,h1,h2⟩:=eH h
       obtain ⟨e',h3,h4⟩:=Dl h2
       refine ⟨_,h3,fun sl' hp' aW R' hu _ h'=>?_⟩
       simp only [bP,cx sl' hu,ci sl' hu,ha,hi,hl]
       exact mV ⟨h1,h4 _ h'⟩ hb
     · exact h.elim
   · rename_i r v off len k n ha hi
     split at h
     · rename_i e sz q k' hl hg
       obtain ⟨hb,h1,h2⟩:=eY h
       refine ⟨_,h2,fun sl' hp' aW R' hu he h'=>?_⟩
       obtain ⟨k2,g,e1,e2,e3,e4,e5⟩:=he rfl r k' hg
       simp only [bP,cx sl' hu,ci sl' hu,ha,hi,hl,g]
       exact jB ⟨h1,h'⟩ (by rw [e2,e3];exact hb)
     · exact h.elim
   · rename_i cs k n ha hi
     split at h
     · rename_i m e sz hl
       refine ⟨_,h.2,fun sl' hp' aW R' hu _ h'=>?_⟩
       simp only [bP,cx sl' hu,ci sl' hu,ha,hi,hl]
       exact ⟨h.1,h'⟩
     · exact h.elim
   · rename_i r v j o k n ha hi
     split at h
     · rename_i m e sz hl
       refine ⟨_,h.2,fun sl' hp' aW R' hu _ h'=>?_⟩
       simp only [bP,cx sl' hu,ci sl' hu,ha,hi,hl]
       exact ⟨h.1,h'⟩
     · exact h.elim
   · exact h.elim
 case extract x i =>
   split at h
   · rename_i xs ha
     split at h
     · rename_i a hx
       refine ⟨a,h,fun sl' hp' aW R' hu _ h'=>?_⟩
       simp only [bP,aH (E:=E) (x:=x) hu,ha,hx];exact h'
     · exact h.elim
   · exact h.elim
def YH (a:Ins):List Nat:=match a.g with | some (t,_)=>[t] | none=>[]
def gV (a:Ins):List Nat:=YH a ++ uses a.op
theorem iM {a:Ins} {R R':List (Nat × AV) -> List (Nat × aG) -> Nat -> Prop} (h:gZ E T hs base a sl hp ct R) (hu:∀ t ∈ gV a,get sl t = get sl' t)
   (hk:∀ (u:List (Nat × AV)) hp' aW,(∀ p ∈ u,some p.1 = a.dst ∨ (p.1 ∈ YH a /\ get sl p.1 = some p.2)) -> (qX hs a.op = false -> Ext hp hp') -> R (u ++ sl) hp' aW -> R' (u ++ sl') hp' aW):gZ E T hs base a sl' hp ct R':=by
 obtain ⟨i,d,op,g⟩:=a
 have put:∀ {x:AV} {u:List (Nat × AV)} {hp':List (Nat × aG)} {aW:Nat},(∀ p ∈ u,some p.1 = d ∨ (p.1 ∈ YH ⟨i,d,op,g⟩ /\ get sl p.1 = some p.2)) -> (qX hs op = false -> Ext hp hp') -> (qW d x (u ++ sl) fun s=>R s hp' aW) -> qW d x (u ++ sl') fun s=>R' s hp' aW:=by
   intro x u hp' aW hu he h
   cases d with
   | none=>exact hk u _ _ hu he h
   | some d=>exact hk ((d,x) :: u) _ _ (by intro p hp;rcases List.mem_cons.1 hp with rfl | hp;exact .inl rfl;exact hu p hp) he h
 have un:∀ t ∈ uses op,get sl t = get sl' t:=fun t ht=>hu t (by simp only [gV];exact List.mem_append_right _ ht)
 cases g with
 | none =>
   simp only [gZ] at h ⊢
   rw [og (sl':=sl') un] at h
   exact uY h (fun x hp' aW he h'=>put (u:=[]) (by simp) he h')
 | some g =>
   obtain ⟨t,want⟩:=g
   have hg:get sl t = get sl' t:=hu t (by simp [gV,YH])
   have mem:∀ b:AV,get sl t = some b -> ∀ p ∈ ([(t,b)]:List (Nat × AV)),some p.1 = d ∨ (p.1 ∈ YH ⟨i,d,op,some (t,want)⟩ /\ get sl p.1 = some p.2):=by intro b hb p hp;simp at hp;subst hp;exact .inr ⟨by simp [YH],hb⟩
   have un':∀ b:AV,∀ t' ∈ uses op,get ((t,b) :: sl) t' = get ((t,b) :: sl') t':=fun b t' ht'=>by rw [au,au];split;rfl;exact un t' ht'
   simp only [gZ,<- hg] at h ⊢
   split at h
   · rename_i b hb
     split at h
     · cases b
       · exact put (u:=[(t,.v (.bool false))]) (mem _ hb) (fun _=>Ext.refl _) h
       · have h:bP E T hs (base + i * 8) op ((t,.v (.bool true)) :: sl) hp ct fun x hp' aW=>qW d x ((t,.v (.bool true)) :: sl) fun sl'=>R sl' hp' aW:=h
         rw [og (un' _)] at h
         exact uY h (fun x hp' aW he h'=>put (u:=[(t,.v (.bool true))]) (mem _ hb) he h')
     · cases b
       · have h:bP E T hs (base + i * 8) op ((t,.v (.bool false)) :: sl) hp ct fun x hp' aW=>qW d x ((t,.v (.bool false)) :: sl) fun sl'=>R sl' hp' aW:=h
         rw [og (un' _)] at h
         exact uY h (fun x hp' aW he h'=>put (u:=[(t,.v (.bool false))]) (mem _ hb) he h')
       · exact put (u:=[(t,.v (.bool true))]) (mem _ hb) (fun _=>Ext.refl _) h
   · exact put (u:=[]) (by simp) (fun _=>Ext.refl _) h
   · exact h.elim
def wO (E:Env) (T:Tab) (hs:List FuncId) (base:Nat) (a:Ins) (d:Nat) (x:AV) (sl:List (Nat × AV)) (hp:List (Nat × aG)):Prop :=
 ∀ (ct:Nat) (R:List (Nat × AV) -> List (Nat × aG) -> Nat -> Prop),(∀ sl1,ig sl1 ((d,x) :: sl) -> R sl1 hp ct) -> gZ E T hs base a sl hp ct R
theorem aat{G:Prop}(h:G:=by
 obtain ⟨t,want⟩:=g
 have gu:∀ {sl':List (Nat × AV)},(∀ t' ∈ gV ⟨i,some d,op,some (t,want)⟩,get sl' t' = get sl t') -> get sl' t = get sl t:=fun hu=>hu t (by simp [gV,YH])
 have un:∀ {sl':List (Nat × AV)} {b:AV},(∀ t' ∈ gV ⟨i,some d,op,some (t,want)⟩,get sl' t' = get sl t') -> ∀ t' ∈ uses op,get ((t,b) :: sl') t' = get ((t,b) :: sl) t':=fun hu t' ht'=>by
   rw [au,au];split;rfl;exact hu t' (by simp only [gV];exact List.mem_append_right _ ht')
 simp only [gZ] at h
 split at h
 all_goals(rcases(⟨_⟩:PLift _)with⟨h⟩;exact h)):G:=h
theorem abk{G:Prop}(h:G:=by
 refine ⟨x,_,(ig.over hb).cons _ _,h1,fun sl' hp' hu he aW R' h'=>?_⟩
 have hb':get sl' t = some (.v (.bool b)):=by rw [gu hu];exact hb
 have:=h2 ((t,.v (.bool b)) :: sl') hp' aW (fun x hp' aW=>R' ((d,x) :: (t,.v (.bool b)) :: sl') hp' aW) (un hu) he (h' _ ((ig.over hb').cons _ _))
 simp only [gZ,hb']
 all_goals(rcases(⟨_⟩:PLift _)with⟨h⟩;exact h)):G:=h
theorem acr{G:Prop}(h:G:=by
 rename_i vs hb
 refine ⟨_,_,ig.refl _,h,fun sl' hp' hu he aW R' h'=>?_⟩
 have hb':get sl' t = some (.v (.tuple vs)):=by rw [gu hu];exact hb
 simp only [gZ,hb']
 exact h' _ (ig.refl _)):G:=h
theorem ade{G:Prop}(h:G:=by
 refine ⟨x,_,ig.refl _,h1,fun sl' hp' hu he aW R' h'=>?_⟩
 simp only [gZ]
 exact h2 sl' hp' aW _ (fun t ht=>hu t (by simp only [gV];exact List.mem_append_right _ ht)) he (h' _ (ig.refl _))):G:=h
theorem ads{G:Prop}(h:G:=by
 refine ⟨_,_,(ig.over hb).cons _ _,h,fun sl' hp' hu he aW R' h'=>?_⟩
 have hb':get sl' t = some (.v (.bool b)):=by rw [gu hu];exact hb
 have:=h' _ ((ig.over hb').cons _ _)
 simp only [gZ,hb']
 all_goals(rcases(⟨_⟩:PLift _)with⟨h⟩;exact h)):G:=h
theorem yh {a:Ins} {d:Nat} {R:List (Nat × AV) -> List (Nat × aG) -> Nat -> Prop} (hd:a.dst = some d) (hs':oG a.op = true) (h:gZ E T hs base a sl hp ct R) :
   ∃ x sl1,ig sl1 ((d,x) :: sl) /\ R sl1 hp ct /\ ∀ (sl':List (Nat × AV)) (hp':List (Nat × aG)),(∀ t ∈ gV a,get sl' t = get sl t) -> (jw a.op = true -> Ext hp hp') -> wO E T hs base a d x sl' hp':=by
 obtain ⟨i,d0,op,g⟩:=a
 simp only at hd hs';subst hd
 cases g with
 | none =>
   simp only [gZ] at h
   obtain ⟨x,h1,h2⟩:=uZ hs' h
   refine' ade
 | some g =>
   refine' aat
   · rename_i b hb
     have skip:∀ c,b = c -> (R ((d,.v (.tuple #[])) :: (t,.v (.bool c)) :: sl) hp ct) -> (want = !c) -> ∃ x sl1,ig sl1 ((d,x) :: sl) /\ R sl1 hp ct /\ ∀ (sl':List (Nat × AV)) (hp':List (Nat × aG)),(∀ t' ∈ gV ⟨i,some d,op,some (t,want)⟩,get sl' t' = get sl t') -> (jw op = true -> Ext hp hp') -> wO E T hs base ⟨i,some d,op,some (t,want)⟩ d x sl' hp':=by
       rintro c rfl h hw
       refine' ads
       cases b <;> subst hw <;> exact this
     have go:∀ c,b = c -> (bP E T hs (base + i * 8) op ((t,.v (.bool c)) :: sl) hp ct fun x hp' aW=>R ((d,x) :: (t,.v (.bool c)) :: sl) hp' aW) -> (want = c) -> ∃ x sl1,ig sl1 ((d,x) :: sl) /\ R sl1 hp ct /\ ∀ (sl':List (Nat × AV)) (hp':List (Nat × aG)),(∀ t' ∈ gV ⟨i,some d,op,some (t,want)⟩,get sl' t' = get sl t') -> (jw op = true -> Ext hp hp') -> wO E T hs base ⟨i,some d,op,some (t,want)⟩ d x sl' hp':=by
       rintro c rfl h hw
       obtain ⟨x,h1,h2⟩:=uZ hs' h
       refine' abk
       cases b <;> subst hw <;> exact this
     split at h
     · cases b
       · exact skip false rfl h rfl
       · exact go true rfl h rfl
     · cases b
       · exact go false rfl h rfl
       · exact skip true rfl h rfl
   · refine' acr
   · exact h.elim
def qF (deps:List (List Nat)) (L:List Nat) (i:Nat):Bool:=!L.contains i && (match deps[i]? with | some ds=>ds.all fun j=>L.contains j | none=>false)
def AnyS (E:Env) (T:Tab) (hs:List FuncId) (base:Nat) (l:List Ins) (deps:List (List Nat)):Nat -> List Nat -> List (Nat × AV) -> List (Nat × aG) -> Nat -> (St -> Prop) -> Prop
 | 0,L,sl,hp,ct,Q=>(∀ i,i < deps.length -> L.contains i = true) /\ Q ⟨Gp sl E.keep,hp,ct⟩
 | n + 1,L,sl,hp,ct,Q=>(∃ i,qF deps L i = true) /\ ∀ i a,qF deps L i = true -> l[i]? = some a -> gZ E T hs base a sl hp ct fun sl' hp' aW=>AnyS E T hs base l deps n (i :: L) sl' hp' aW Q
variable {l:List Ins} {deps:List (List Nat)} {Q:St -> Prop}
theorem Dn {L L':List Nat} (h:∀ j,L.contains j = L'.contains j) (i:Nat):qF deps L i = qF deps L' i:=by
 unfold qF;rw [h i];cases deps[i]? with
 | none=>rfl
 | some ds=>simp only [h]
theorem fJ:∀ (n:Nat) {L L':List Nat} {sl sl':List (Nat × AV)} {hp:List (Nat × aG)} {ct:Nat},(∀ j,L.contains j = L'.contains j) -> ig sl sl' -> AnyS E T hs base l deps n L sl hp ct Q -> AnyS E T hs base l deps n L' sl' hp ct Q
 | 0,L,L',sl,sl',hp,ct,hL,hsl,h=>by
   refine ⟨fun i hi=>by rw [<- hL];exact h.1 i hi,?_⟩
   have:Gp sl' E.keep = Gp sl E.keep:=EH hsl.symm _ _
   rw [this];exact h.2
 | n + 1,L,L',sl,sl',hp,ct,hL,hsl,h=>by
   obtain ⟨⟨i,hi⟩,h⟩:=h
   refine ⟨⟨i,by rw [<- Dn hL];exact hi⟩,fun i a hi ha=>?_⟩
   rw [<- Dn hL] at hi
   refine iM (h i a hi ha) (fun t _=>hsl t) (fun u hp' aW _ _ h'=>?_)
   refine fJ n (fun j=>?_) (hsl.app u) h'
   rw [List.contains_cons,List.contains_cons,hL]
def indep (a b:Ins):Bool :=
 (match a.dst with | some d=>!(gV b).contains d && (b.dst != some d) | none=>false) && (match b.dst with | some d=>!(gV a).contains d | none=>true)
def adP (hs:List FuncId) (l:List Ins) (deps:List (List Nat)) (L:List Nat) (i:Nat) (a:Ins):Prop :=
 ∀ j b,j ≠ i -> L.contains j = false -> l[j]? = some b -> (∀ ds,deps[j]? = some ds -> ds.contains i = false) -> indep a b = true /\ (jw a.op = true -> qX hs b.op = false)
theorem Dp {i d:Nat} {a:Ins} {x:AV} (hi:l[i]? = some a) (hd:a.dst = some d):∀ (n:Nat) {L:List Nat} {sl:List (Nat × AV)} {hp:List (Nat × aG)} {ct:Nat},adP hs l deps L i a -> qF deps L i = true ->
   (∀ (sl':List (Nat × AV)) (hp':List (Nat × aG)),(∀ t ∈ gV a,get sl' t = get sl t) -> (jw a.op = true -> Ext hp hp') -> wO E T hs base a d x sl' hp') ->
   AnyS E T hs base l deps n (i :: L) ((d,x) :: sl) hp ct Q -> AnyS E T hs base l deps (n + 1) L sl hp ct Q
 | n,L,sl,hp,ct,hf,hr,hst,h=>by
   refine ⟨⟨i,hr⟩,fun j b hj hb=>?_⟩
   by_cases e:j = i
   · subst e
     rw [hi] at hb;obtain rfl:=Option.some.inj hb
     refine hst sl hp (fun _ _=>rfl) (fun _=>Ext.refl _) ct _ (fun sl1 h1=>?_)
     exact fJ n (fun _=>rfl) h1.symm h
   · have I5:L.contains j = false:=by unfold qF at hj;rw [Bool.and_eq_true] at hj;simpa using hj.1
     have hnd:∀ ds,deps[j]? = some ds -> ds.contains i = false:=by
       intro ds hds
       unfold qF at hj hr
       rw [Bool.and_eq_true] at hj hr
       rw [hds] at hj
       cases hc:ds.contains i with
       | false=>rfl
       | true =>
         have:=List.all_eq_true.1 hj.2 i (by simpa using hc)
         have h2:=hr.1
         rw [this] at h2;simp at h2
     obtain ⟨hin,hmu⟩:=hf j b e I5 hb hnd
     have ⟨p1,p2,p3⟩:(∀ t ∈ gV b,t ≠ d) /\ (b.dst ≠ some d) /\ (∀ d',b.dst = some d' -> d' ∉ gV a):=by
       simp only [indep,hd,Bool.and_eq_true,Bool.not_eq_true',bne_iff_ne,ne_eq] at hin
       refine ⟨fun t ht e=>?_,hin.1.2,fun d' hd' hm=>?_⟩
       · subst e;have:=hin.1.1;simp only [List.contains_eq_mem,decide_eq_false_iff_not] at this;exact this ht
       · have:=hin.2;rw [hd'] at this;simp only [Bool.not_eq_true',List.contains_eq_mem,decide_eq_false_iff_not] at this;exact this hm
     cases n with
     | zero =>
       exfalso
       have hlt:j < deps.length:=by
         unfold qF at hj;rw [Bool.and_eq_true] at hj
         cases hg:deps[j]? with
         | none=>rw [hg] at hj;simp at hj
         | some ds=>exact (List.getElem?_eq_some_iff.1 hg).1
       have:=h.1 j hlt
       rw [List.contains_cons,I5] at this
       simp at this;exact e this
     | succ n =>
       obtain ⟨_,h⟩:=h
       have hj':qF deps (i :: L) j = true:=by
         unfold qF at hj ⊢
         rw [Bool.and_eq_true] at hj ⊢
         refine ⟨by rw [List.contains_cons,I5];simp [e],?_⟩
         cases hg:deps[j]? with
         | none=>rw [hg] at hj;exact hj.2
         | some ds =>
           rw [hg] at hj
           simp only [List.all_eq_true] at hj ⊢
           intro k hk;rw [List.contains_cons,hj.2 k hk];simp
       refine iM (h j b hj' hb) (fun t ht=>by rw [au,if_neg (p1 t ht)]) (fun u hp' aW hu he h'=>?_)
       have hsw:ig (u ++ (d,x) :: sl) ((d,x) :: (u ++ sl)):=A8 (fun p hp e=>by
         rcases hu p hp with h1 | h1
         · rw [e] at h1;exact p2 h1.symm
         · exact p1 p.1 (by simp only [gV];exact List.mem_append_left _ h1.1) e)
       have h2:AnyS E T hs base l deps n (i :: j :: L) ((d,x) :: (u ++ sl)) hp' aW Q:=fJ n (fun k=>by simp only [List.contains_cons];cases (k == j) <;> cases (k == i) <;> rfl) hsw h'
       refine Dp hi hd n (fun k c hk YI hc hcd=>hf k c hk (by rw [List.contains_cons] at YI;simp at YI;simpa using YI.2) hc hcd) ?_ ?_ h2
       · unfold qF at hr ⊢
         rw [Bool.and_eq_true] at hr ⊢
         refine ⟨by rw [List.contains_cons];have:=hr.1;simp at this ⊢;exact ⟨fun e'=>e e'.symm,this⟩,?_⟩
         cases hg:deps[i]? with
         | none=>rw [hg] at hr;exact hr.2
         | some ds =>
           rw [hg] at hr
           simp only [List.all_eq_true] at hr ⊢
           intro k hk;rw [List.contains_cons,hr.2 k hk];simp
       · intro sl2 hp2 hu2 he2
         refine hst sl2 hp2 (fun t ht=>?_) (fun hl=>(he (hmu hl)).trans (he2 hl))
         rw [hu2 t ht]
         refine EI (fun p hp e'=>?_)
         rcases hu p hp with h1 | h1
         · exact absurd ht (by rw [<- e'];exact p3 p.1 h1.symm)
         · have h2:=h1.2
           rw [au,if_neg (p1 p.1 (by simp only [gV];exact List.mem_append_left _ h1.1)),e'] at h2
           exact h2
 termination_by n=>n
end
end Ev
namespace Ev
def KI (deps:List (List Nat)) (L:List Nat) (i:Nat):Bool:=(List.range deps.length).all fun j=>j == i || !qF deps L j
def adQ (hs:List FuncId) (l:List Ins) (deps:List (List Nat)) (L:List Nat) (i:Nat) (a:Ins):Bool :=
 (List.range l.length).all fun j=>j == i || L.contains j || (match l[j]? with
   | some b=>(match deps[j]? with | some ds=>ds.contains i | none=>false) || (indep a b && (!jw a.op || !qX hs b.op))
   | none=>true)
def yj (hs:List FuncId) (l:List Ins) (deps:List (List Nat)):List Nat -> List Nat -> Bool
 | [],L=>(List.range deps.length).all fun j=>L.contains j
 | i :: rest,L=>qF deps L i && (KI deps L i || (match l[i]? with | some a=>oG a.op && a.dst.isSome && adQ hs l deps L i a | none=>false)) && yj hs l deps rest (i :: L)
def pick (l:List Ins):List Nat -> Option (List Ins)
 | []=>some []
 | i :: r=>match l[i]?,pick l r with | some a,some q=>some (a :: q) | _,_=>none
section
variable {E:Env} {T:Tab} {hs:List FuncId} {base nt:Nat} {l:List Ins} {deps:List (List Nat)} {Q:St -> Prop}
theorem rQ {L:List Nat} {j:Nat} (h:qF deps L j = true):j < deps.length:=by
 unfold qF at h;rw [Bool.and_eq_true] at h
 cases hg:deps[j]? with
 | none=>rw [hg] at h;simp at h
 | some ds=>exact (List.getElem?_eq_some_iff.1 hg).1
theorem Qr:∀ (plan:List Nat) {L:List Nat} {pl:List Ins} {sl:List (Nat × AV)} {hp:List (Nat × aG)} {ct:Nat},yj hs l deps plan L = true -> pick l plan = some pl ->
   rM E T hs base pl sl hp ct Q -> AnyS E T hs base l deps plan.length L sl hp ct Q
 | [],L,pl,sl,hp,ct,hp',hl,h=>by
   simp only [pick,Option.some.injEq] at hl;subst hl
   simp only [rM,mO] at h
   simp only [yj,List.all_eq_true,List.mem_range] at hp'
   exact ⟨hp',h⟩
 | i :: rest,L,pl,sl,hp,ct,hpl,hl,h=>by
   simp only [pick] at hl
   split at hl
   · rename_i a q ha hq
     obtain rfl:=Option.some.inj hl
     simp only [rM] at h
     simp only [yj,Bool.and_eq_true,Bool.or_eq_true] at hpl
     obtain ⟨⟨hr,hc⟩,hrest⟩:=hpl
     rcases hc with hc | hc
     · refine ⟨⟨i,hr⟩,fun j b hj hb=>?_⟩
       have:j = i:=by
         have:=List.all_eq_true.1 hc j (by rw [List.mem_range];exact rQ hj)
         rw [hj] at this;simpa using this
       subst this
       rw [ha] at hb;obtain rfl:=Option.some.inj hb
       exact iM h (fun _ _=>rfl) (fun u hp' aW _ _ h'=>Qr rest hrest hq h')
     · rw [ha] at hc
       simp only [Bool.and_eq_true] at hc
       obtain ⟨⟨hs',hd⟩,hf⟩:=hc
       obtain ⟨d,hd⟩:=Option.isSome_iff_exists.1 hd
       obtain ⟨x,sl1,e1,h1,hst⟩:=yh hd hs' h
       have h2:=fJ rest.length (fun _=>rfl) e1 (Qr rest hrest hq h1)
       refine Dp ha hd rest.length (fun j b hj I5 hb hcd=>?_) hr hst h2
       have:=List.all_eq_true.1 hf j (by rw [List.mem_range];exact (List.getElem?_eq_some_iff.1 hb).1)
       rw [hb,I5] at this
       simp only [Bool.or_eq_true,beq_iff_eq,hj,Bool.false_eq_true,false_or,or_false,Bool.and_eq_true,Bool.not_eq_true'] at this
       rcases this with this | this
       · split at this
         · rename_i ds hds;rw [hcd ds hds] at this;cases this
         · cases this
       · refine ⟨this.1,fun hl=>?_⟩
         rcases this.2 with h3 | h3
         · rw [hl] at h3;cases h3
         · exact h3
   · cases hl
section
variable {M0:qV} {w0:World} {M:Mem} {J:bJ} {tm:Array Value} {w:World} {ops:Array Oper}
theorem aea{G:Prop}(h:G:=by
 have:Region.wanted o (yielded ops tm) = false:=by simp [Region.wanted,hg,hy]
 rw [if_neg (by rw [this];simp)];exact skip h hself):G:=h
theorem aex{G:Prop}(h:G:=by
 have:Region.wanted o (yielded ops tm) = true:=by simp [Region.wanted,hg,hy]
 rw [if_pos this];exact .inl (go h hself)):G:=h
theorem U2 (hT:jA E.P T) {i:Nat} {o:Oper} {a:Ins} (ho:ops[i]? = some o) (ha:insOf ops (i,o) = some a) (hok:wz tm.size ops = true) {sl:List (Nat × AV)} {hp:List (Nat × aG)} {ct:Nat} {R:List (Nat × AV) -> List (Nat × aG) -> Nat -> Prop}
   (h:gZ E T hs base a sl hp ct R) (inv:Inv E M0 w0 ct M J ⟨sl,hp,ct⟩ tm w) {Qx:Exit -> Act -> World -> Prop} {K:Act -> World -> Prop}
   (hk:∀ a w' M' J' sl' hp' aW,R sl' hp' aW -> Inv E M0 w0 aW M' J' ⟨sl',hp',aW⟩ a.tmps w' -> a.tmps.size = tm.size -> a.defers = M0.d -> K a w'):wpOp E.P ops Qx i K ⟨tm,M0.d⟩ w:=by
 have hd:∀ t,o.dst = some t -> t < tm.size:=by
   intro t ht
   unfold wz at hok
   rw [List.all_eq_true] at hok
   have:=hok o (by rw [Array.mem_toList_iff];exact Array.mem_of_getElem? ho)
   rw [ht] at this;simpa using this
 unfold wpOp
 rw [ho];simp only
 have go:∀ {sl1:List (Nat × AV)} {J1:bJ} {M1:Mem},bP E T hs (base + i * 8) o.op sl1 hp ct (fun x hp' aW=>qW o.dst x sl1 fun sl'=>R sl' hp' aW) -> Inv E M0 w0 ct M1 J1 ⟨sl1,hp,ct⟩ tm w -> Oper.wp E.P o ⟨tm,M0.d⟩ w K Qx:=by
   intro sl1 J1 M1 h1 i1
   have h2:opS E (base + i * 8) o ⟨sl1,hp,ct⟩ (fun s'=>R s'.sl s'.hp s'.ctr):=nY hT h1 (fun x hp' aW h'=>by
     obtain ⟨sl',e,h''⟩:=qC (hp:=hp') (ct:=aW) h'
     rw [e];exact h'')
   exact IL i1 h2 hd (fun a w' M' J' s' hr hi hsz hdf=>hk a w' M' J' s'.sl s'.hp s'.ctr hr hi hsz hdf)
 have skip:∀ {sl1:List (Nat × AV)} {J1:bJ} {M1:Mem},(qW o.dst (.v (.tuple #[])) sl1 fun sl'=>R sl' hp ct) -> Inv E M0 w0 ct M1 J1 ⟨sl1,hp,ct⟩ tm w -> K ((⟨tm,M0.d⟩:Act).put o.dst undef) w:=by
   intro sl1 J1 M1 h1 i1
   obtain ⟨sl',e,h2⟩:=qC (hp:=hp) (ct:=ct) h1
   have i2:=Inv.put i1 (d:=o.dst) (x:=.v undef) (v:=undef) (.pure (.v _)) hd (ds:=M0.d)
   have e':St.put ⟨sl1,hp,ct⟩ o.dst (.v undef) = ⟨sl',hp,ct⟩:=e
   rw [e'] at i2
   exact hk _ _ _ _ sl' hp ct h2 i2 (oQ ⟨tm,M0.d⟩ o.dst undef) (put_defers ⟨tm,M0.d⟩ o.dst undef)
 simp only [insOf] at ha
 split at ha
 · rename_i hg
   obtain rfl:=Option.some.inj ha
   have:Region.wanted o (yielded ops tm) = true:=by simp [Region.wanted,hg]
   rw [if_pos this]
   exact .inl (go h inv)
 · rename_i j want hg
   rw [Option.map_eq_some_iff] at ha
   obtain ⟨t,ht,rfl⟩:=ha
   simp only [gZ] at h
   split at h
   · rename_i b hb
     obtain ⟨v,hv,hr⟩:=inv.slot t _ hb
     obtain rfl:=hr.bZ
     have hy:yielded ops tm j = some b:=by simp [yielded,ht,hv]
     have hself:Inv E M0 w0 ct M J ⟨(t,.v (.bool b)) :: sl,hp,ct⟩ tm w:=by
       refine { inv with slot:=fun t' x' hx'=>?_ }
       rw [au] at hx'
       split at hx'
       · rename_i e;subst e
         obtain rfl:=Option.some.inj hx'
         exact ⟨_,hv,hr⟩
       · exact inv.slot t' x' hx'
     cases want <;> cases b
     · refine' aex
     · refine' aea
     · refine' aea
     · refine' aex
   · rename_i vs hb
     obtain ⟨v,hv,hr⟩:=inv.slot t _ hb
     obtain rfl:=hr.bZ
     have hy:yielded ops tm j = none:=by simp [yielded,ht,hv]
     have:Region.wanted o (yielded ops tm) = false:=by simp [Region.wanted,hg,hy]
     rw [if_neg (by rw [this];simp)];exact skip h inv
   · exact h.elim
theorem Gz:∀ {ps:List (Nat × Oper)} {l:List Ins},insL ops ps = some l -> ∀ (i:Nat) (p:Nat × Oper),ps[i]? = some p -> ∃ a,l[i]? = some a /\ insOf ops p = some a
 | [],l,h,i,p,hp=>by simp at hp
 | q :: ps,l,h,i,p,hp=>by
   simp only [insL] at h
   split at h
   · rename_i a r ha hr
     obtain rfl:=Option.some.inj h
     cases i with
     | zero=>simp at hp;subst hp;exact ⟨a,rfl,ha⟩
     | succ i=>simpa using Gz hr i p (by simpa using hp)
   · cases h
theorem aa5{G:Prop}(h:G:=by
 have hlt:i < ops.size:=(Array.getElem?_eq_some_iff.1 ho).1
 rw [ho];simp only [Option.map_some,Bool.and_eq_true,Bool.not_eq_true']
 refine ⟨by rw [<- gd i true hlt];exact h0,?_⟩
 rw [List.all_eq_true]
 intro k hk
 simp only [direct,List.mem_map,List.mem_filter,Array.mem_toList_iff] at hk
 obtain ⟨e,⟨he,hb⟩,rfl⟩:=hk
 have:=hall e he hb
 rcases Nat.lt_or_ge e.on ops.size with h' | h'
 all_goals(rcases(⟨_⟩:PLift _)with⟨h⟩;exact h)):G:=h
theorem abg{G:Prop}(h:G:=by
 have hlt:i < ops.size:=(Array.getElem?_eq_some_iff.1 ho).1
 rw [ho] at h
 simp only [Option.map_some,Bool.not_eq_true',List.all_eq_true] at h
 refine ⟨by rw [gd i true hlt];exact h.1,o,rfl,fun e he hb=>?_⟩
 have:=h.2 e.on (by simp only [direct,List.mem_map,List.mem_filter,Array.mem_toList_iff];exact ⟨e,⟨he,hb⟩,rfl⟩)
 rcases Nat.lt_or_ge e.on ops.size with h' | h'
 all_goals(rcases(⟨_⟩:PLift _)with⟨h⟩;exact h)):G:=h
theorem abq{G:Prop}(h:G:=by
 have hlt:i < ops.size:=by rw [<- hlen];exact rQ hi
 have ho:ops[i]? = some ops[i]:=Array.getElem?_eq_getElem hlt
 obtain ⟨a,ha,hin⟩:=Gz hl i (i,ops[i]) (by simp [numbered,hlt])
 refine U2 hT ho hin hok (h i a hi ha) inv (fun a' w' M' J' sl' hp' aW hr hinv hs' hdf=>?_)
 obtain ⟨tm',ds'⟩:=a'
 simp only at hs' hdf hinv
 subst hdf
 all_goals(rcases(⟨_⟩:PLift _)with⟨h⟩;exact h)):G:=h
theorem ab1{G:Prop}(h:G:=by
 rw [mem_ready]
 have gd:∀ k d,k < ops.size -> listed.getD k d = L.contains k:=by
   intro k d hk
   rw [<- hL k hk]
   rw [Array.getD_eq_getD_getElem?,Array.getD_eq_getD_getElem?,Array.getElem?_eq_getElem (by omega)];rfl
 unfold qF
 rw [Bc,List.getElem?_map,Array.getElem?_toList]
 constructor
 all_goals(rcases(⟨_⟩:PLift _)with⟨h⟩;exact h)):G:=h
theorem af9{G:Prop}(h:G:=by
 have hlt:=rQ hi
 have:=h.1 i hlt
 unfold qF at hi;rw [this] at hi;simp at hi):G:=h
theorem agw{G:Prop}(h:G:=by rw [Array.getD_eq_getD_getElem?,Array.getElem?_eq_none (by omega)] at this;cases this):G:=h
theorem U3 (hT:jA E.P T) (hl:insL ops (numbered ops) = some l) (Bc:deps = ops.toList.map direct) {K:Exit -> St -> Prop} (hK:∀ s,Q s -> K .normal s) :
   ∀ (n:Nat) {L:List Nat} {listed:Array Bool} {sl:List (Nat × AV)} {hp:List (Nat × aG)} {ct:Nat} {M:Mem} {J:bJ} {tm:Array Value} {w:World},wz tm.size ops = true -> tm.size = nt -> AnyS E T hs base l deps n L sl hp ct Q -> Inv E M0 w0 ct M J ⟨sl,hp,ct⟩ tm w ->
     listed.size = ops.size -> (∀ i,i < ops.size -> listed.getD i true = L.contains i) -> (∀ i,L.contains i = true -> i < ops.size) -> wpAny E.P .any ops (Post E M0 w0 nt K) n listed ⟨tm,M0.d⟩ w:=by
 have hlen:deps.length = ops.size:=by rw [Bc];simp
 have key:∀ {L:List Nat} {listed:Array Bool},listed.size = ops.size -> (∀ i,i < ops.size -> listed.getD i true = L.contains i) -> (∀ i,L.contains i = true -> i < ops.size) -> ∀ i,i ∈ Region.ready .any ops listed ↔ (qF deps L i = true):=by
   intro L listed hsz hL hLb i
   refine' ab1
   · rintro ⟨h0,o,ho,hall⟩
     refine' aa5
     · rw [gd _ _ h'] at this;exact this
     · refine' agw
   · intro h
     rw [Bool.and_eq_true] at h
     cases ho:ops[i]? with
     | none=>rw [ho] at h;simp at h
     | some o =>
       refine' abg
       · rw [gd _ _ h'];exact this
       · have:=hLb _ this;omega
 intro n
 induction n with
 | zero =>
   intro L listed sl hp ct M J tm w hok hnt h inv hsz hL hLb
   refine ⟨?_,_,M,J,hK _ h.2,inv.only E.keep,hnt,rfl⟩
   apply List.eq_nil_iff_forall_not_mem.2
   intro i hi
   rw [key hsz hL hLb] at hi
   refine' af9
 | succ n ih =>
   intro L listed sl hp ct M J tm w hok hnt h inv hsz hL hLb
   obtain ⟨⟨i0,hi0⟩,h⟩:=h
   refine ⟨fun he=>?_,fun i hi=>?_⟩
   · have:=(key hsz hL hLb i0).2 hi0
     rw [he] at this;cases this
   · rw [key hsz hL hLb] at hi
     refine' abq
     refine ih (by rw [hs'];exact hok) (by rw [hs',hnt]) hr hinv (by simp [hsz]) (fun k hk=>?_) (fun k hk=>?_)
     rotate_left
     · rw [List.contains_cons,Bool.or_eq_true] at hk
       rcases hk with hk | hk
       · have:k = i:=by simpa using hk
         omega
       · exact hLb k hk
     rw [List.contains_cons]
     by_cases e:k = i
     · subst e;simp [hsz,hlt]
     · rw [getD_set_ne true (Ne.symm e),hL k hk];simp [e]
end
theorem Inv.drew {M0:qV} {w0:World} {c:Nat} {M:Mem} {J:bJ} {s:St} {tm:Array Value} {w:World} (inv:Inv E M0 w0 c M J s tm w):Inv E M0 w0 c M J s tm { w with drawn:=w.drawn + 1 } :=
 { below:=inv.below.drew,mem:=inv.mem,kH:=inv.kH,jV:=inv.jV,glob:=inv.glob,slot:=inv.slot,
   heap:=fun r k h=>let ⟨L,C,a,b,ok⟩:=inv.heap r k h;⟨L,C,a,b,⟨ok.blk,ok.none,ok.size,ok.fits,ok.fH,ok.sz,ok.len,ok.cell,ok.cap⟩⟩,
   apart:=inv.apart,owns:=inv.owns,vers:=inv.vers,jF:=inv.jF,far:=inv.far }
theorem MZ {c:Code} {id:Nat} {l:List Ins} {deps:List (List Nat)} (h:comp c = .draw id l deps):∃ ops,c = .region id ops true /\ insL ops (numbered ops) = some l /\ deps = ops.toList.map direct:=by
 cases c
 case region id' ops dr =>
   cases dr <;> simp only [comp] at h <;> split at h
   · cases h
   · cases h
   · rename_i l' hl'
     injection h with h0 h1 h2
     subst h0;subst h1
     exact ⟨ops,rfl,hl',h2.symm⟩
   · cases h
 all_goals (simp only [comp] at h;cases h)
theorem abh{G:Prop}(h:G:=by
 rw [hn] at h1
 exact U3 hT hl Bc (fun _ h=>h) ops.size (by rw [hnt];exact hok) hnt h1 (Inv.drew inv) (by simp) (fun i hi=>by simp [hi]) (fun i hi=>by simp at hi)):G:=h
theorem ac1{G:Prop}(h:G:=by
 obtain ⟨ops,rfl,hl,Bc⟩:=MZ e
 simp only [bQ] at hok
 refine wp_region_any hm ?_
 all_goals(rcases(⟨_⟩:PLift _)with⟨h⟩;exact h)):G:=h
theorem YJ (hT:jA E.P T) (hm:E.P.follows .mixedOrders = true) (plan:List Nat) {K:Exit -> St -> Prop} {sl:List (Nat × AV)} {hp:List (Nat × aG)} {ct:Nat} {id:Nat} {pl:List Ins}
   (mW:yj hs l deps plan [] = true) (hlen:plan.length = deps.length) (hpick:pick l plan = some pl) (h:∀ Q:St -> Prop,(∀ s,K .normal s -> Q s) -> rM E T hs (E.N + id * 512) pl sl hp ct Q) :
   Wp E nt (.draw id l deps) K ⟨sl,hp,ct⟩:=by
 intro c' e hok M0 w0 M J tm w inv hnt
 refine' ac1
 have h1:=Qr plan mW hpick (h (K .normal) (fun _ h=>h))
 have hn:plan.length = ops.size:=by rw [hlen,Bc];simp
 refine' abh
end
end Ev
end Go.Proofs.YtadlnaljicikfaaDoor.aI
namespace Go.Proofs.YtadlnaljicikfaaDoor.aI
open Go
theorem Dq {P:Program} {t ti ts:TypeId} {f0 f1 f2:Field} (hf:P.underlying t = some (.struct #[f0,f1,f2])) (hn:f0.name ≠ "_" /\ f1.name ≠ "_" /\ f2.name ≠ "_") (ho:f0.offset = 0 /\ f1.offset = 1 /\ f2.offset = 2)
   (ht:f0.type = ti /\ f1.type = ti /\ f2.type = ts) (hi:P.underlying ti = some (.int .i64)) (hs':P.underlying ts = some .string) (hki:P.plainKey ti = true) (hks:P.plainKey ts = true) (hs:P.stoodInHeld t = false) (hg:P.eqGuardType P.depth t = false):Es P t:=by
 intro a b a' b' x x' w
 refine ⟨?_,hg⟩
 obtain ⟨t0,t1,t2⟩:=ht
 obtain ⟨o0,o1,o2⟩:=ho
 have hF:P.fieldsOf t = #[f0,f1,f2]:=by unfold Program.fieldsOf;rw [hf]
 have p0:∀ (u v y:Value) w,(part ti #[u,v,y] 0).run P w = .ok u w:=fun u v y w=>run_part_plain w hki rfl
 have p1:∀ (u v y:Value) w,(part ti #[u,v,y] 1).run P w = .ok v w:=fun u v y w=>run_part_plain w hki rfl
 have p2:∀ (u v y:Value) w,(part ts #[u,v,y] 2).run P w = .ok y w:=fun u v y w=>run_part_plain w hks rfl
 show (Op.equalIn (9999 + 1) _ _ _).run _ _ = _
 rw [run_equalIn_struct _ _ _ _ _ (by rw [hF];exact hf) hs,hF]
 have e1:∀ (a b:Int) w,(Op.equalIn 9999 ti (.int .i64 a) (.int .i64 b)).run P w = .ok (a == b) w:=fun a b w=>run_equalIn_int w 9998 _ _ _ _ _ hi
 have e2:∀ (a b:ByteArray) w,(Op.equalIn 9999 ts (.string a) (.string b)).run P w = .ok (decide (a = b)) w:=fun a b w=>by
   have h:(Op.equalIn (9998 + 1) ts (.string a) (.string b)).run P w = .ok (a.toList == b.toList) w:=run_equalIn_string w 9998 _ _ _ hs'
   rw [h]
   by_cases e:a = b
   · subst e;simp
   · have:¬ a.toList = b.toList:=by
       intro h
       rw [ByteArray.toList_eq,ByteArray.toList_eq] at h
       exact e (by cases a;cases b;simp only [ByteArray.mk.injEq];exact Array.toList_inj.1 h)
     simp [e,this]
 simp only [Op.eqFields,hn.1,hn.2.1,hn.2.2,ne_eq,not_false_eq_true,if_true,t0,t1,t2,o0,o1,o2,Sem.run_bind,p0,p1,p2,Result.andThen_ok,e1,e2]
 by_cases ha:a = a' <;> by_cases hb:b = b' <;> by_cases hx:x = x' <;> simp [ha,hb,hx,p1,p2,e1,e2]
@[simp] theorem agS (l:List UInt8):(PX l).length = l.length:=by simp [PX]
theorem agx{G:Prop}(h:G:=by
 obtain ⟨s,_,rfl⟩:=List.mem_map.1 hy
 rfl):G:=h
theorem KJ (l:List UInt8):∀ y ∈ PX l,y.length = 1:=by
 intro y hy
 refine' agx
theorem EK:∀ l:List UInt8,(PX l).mapM toByte = some l
 | []=>rfl
 | n :: l=>by
   have:=EK l
   simp only [PX] at this ⊢
   simp only [List.map_cons,List.mapM_cons,this,toByte]
   simp
theorem U4 (l:List UInt8) (n o:Nat):List.take n (List.drop o (PX l)) = PX ((l.drop o).take n):=by simp [PX,List.map_take,List.map_drop]
def bK (l:List Int):List (List AV):=l.map fun n=>[AV.v (.int .i32 n)]
theorem Bd:∀ l:List Int,(bK l).mapM rF = some l
 | []=>rfl
 | n :: l=>by
   have:=Bd l
   simp only [bK] at this ⊢
   simp only [List.map_cons,List.mapM_cons,this,rF]
   simp
theorem Bf (l:List Int) (n o:Nat):List.take n (List.drop o (bK l)) = bK ((l.drop o).take n):=by simp [bK,List.map_take,List.map_drop]
namespace Ev
theorem U5 {i n b:Nat} {es:List (List AV)} {e:List AV} (hi:i = es.length) (he:e.length = n) (hb:i <= 1000000000) (hbb:b <= 1000) :
   Side (0 = 0 /\ i = es.length /\ (∀ y ∈ List.take 1 (List.drop 0 [e]),y.length = n) /\ i + (List.take 1 (List.drop 0 [e])).length <= maxLen /\ (i + (List.take 1 (List.drop 0 [e])).length) * b <= 140737488355328):=by
 have hm:2000000003 <= maxLen:=by decide
 have h1:(List.take 1 (List.drop 0 [e])).length = 1:=rfl
 rw [h1]
 refine Side.of ⟨rfl,hi,?_,by omega,?_⟩
 · intro y hy;simp at hy;subst hy;exact he
 · have:(i + 1) * b <= 1000000001 * 1000:=Nat.mul_le_mul (by omega) hbb
   omega
theorem int_eq {k:IntKind} {a b:Int} (h:a = b):AV.v (Value.int k a) = AV.v (Value.int k b):=by rw [h]
theorem qG {a b:Bool} (h:a = b):AV.v (Value.bool a) = AV.v (Value.bool b):=by rw [h]
theorem Qs {r v o a b:Nat} (h:a = b):AV.own r v o a = AV.own r v o b:=by rw [h]
theorem aB {sz:Nat} {a b:List (List AV)} (h:a = b):AV.lst sz a = AV.lst sz b:=by rw [h]
theorem Qu {sz:Nat} {ty:TypeId} {ver fH:Nat} {box:Bool} {a b:List (List AV)} (h:a = b):aG.mk sz ty ver fH box a = aG.mk sz ty ver fH box b:=by rw [h]
theorem jG {i n b:Nat} {es ys:List (List AV)} (hi:i = es.length) (he:∀ y ∈ ys,y.length = n) (hb:i + ys.length <= 2000000000) (hbb:b <= 1000) :
   Side (0 = 0 /\ i = es.length /\ (∀ y ∈ ys,y.length = n) /\ i + ys.length <= maxLen /\ (i + ys.length) * b <= 140737488355328):=by
 have hm:2000000003 <= maxLen:=by decide
 refine Side.of ⟨rfl,hi,he,by omega,?_⟩
 have:(i + ys.length) * b <= 2000000000 * 1000:=Nat.mul_le_mul (by omega) hbb
 omega
theorem Aa {n b:Nat} {ys:List (List AV)} (he:∀ y ∈ ys,y.length = n) (hb:ys.length <= 2000000000) (hbb:b <= 1000) :
   Side ((∀ y ∈ ys,y.length = n) /\ ys.length <= maxLen /\ ys.length * b <= 140737488355328):=by
 have hm:2000000003 <= maxLen:=by decide
 refine Side.of ⟨he,by omega,?_⟩
 have:ys.length * b <= 2000000000 * 1000:=Nat.mul_le_mul (by omega) hbb
 omega
theorem Qv {n b:Nat} {e:List AV} (he:e.length = n) (hbb:b <= 1000):Side ((∀ y ∈ List.take 1 (List.drop 0 [e]),y.length = n) /\ (List.take 1 (List.drop 0 [e])).length <= maxLen /\ (List.take 1 (List.drop 0 [e])).length * b <= 140737488355328):=by
 refine Aa ?_ (by simp) hbb
 intro y hy;simp at hy;subst hy;exact he
theorem Bg {n:Nat} {es X:List (List AV)} (hn:n = es.length) (h:es = X):List.take n (List.drop 0 es) = X:=by
 subst h;subst hn;rw [List.drop_zero,List.take_length]
theorem KL {α:Type} {f:α -> List AV} {l:List α} {i:Nat} {K:List AV -> Prop} (h:Side (i < l.length)) (k:∀ h:i < l.length,K (f l[i])):CO (l.map f) (i:Int).toNat K:=x9 (i:=(i:Int).toNat) h k
theorem KN {α:Type} {f:α -> List AV} {l:List α} {i:Nat} {K:List AV -> Prop} (h:Side (i < l.length)) (k:∀ h:i < l.length,K (f l[i])):CO (l.map f) (0 + (i:Int).toNat) K:=by
 have h':Side (0 + (i:Int).toNat < l.length):=by have:i < l.length:=h;exact Side.of (by omega)
 refine x9 h' (fun h2=>?_)
 have e0:0 + (i:Int).toNat = i:=by simp
 have e:l[0 + (i:Int).toNat]'h2 = l[i]'h:=getElem_congr rfl e0 _
 rw [e];exact k h
theorem U6 {a b:AV} {l m:List AV} (h:a = b) (h':l = m):a :: l = b :: m:=by rw [h,h']
theorem U7 {l:List UInt8} {n o:Nat} {K:List UInt8 -> Prop} (k:K ((l.drop o).take n)):bY (List.take n (List.drop o (PX l))) K:=by
 rw [U4];exact CY _ (EK _) k
theorem U8 {l:List UInt8} {K:List UInt8 -> Prop} (k:K l):bY (PX l) K:=CY _ (EK _) k
theorem U9 {l:List Int} {n o:Nat} {K:List Int -> Prop} (k:K ((l.drop o).take n)):runK (List.take n (List.drop o (bK l))) K:=by
 rw [Bf];exact CZ _ (Bd _) k
theorem KO {l:List Int} {K:List Int -> Prop} (k:K l):runK (bK l) K:=CZ _ (Bd _) k
theorem Va:2000000003 <= maxLen:=by decide
theorem aF {p:Prop} [Decidable p] {A B:Prop} (h:p) (k:A):Ev.Gq (decide p) A B:=Ev.AL (fun _=>k) (fun h'=>absurd h h')
theorem aK {p:Prop} [Decidable p] {A B:Prop} (h:¬ p) (k:B):Ev.Gq (decide p) A B:=Ev.AL (fun h'=>absurd h' h) (fun _=>k)
theorem aJ {p:Prop} [Decidable p] {A B:Prop} (h:p) (k:A):Ev.gK (decide p) A B:=Ev.Gs (fun _=>k) (fun h'=>absurd h h')
theorem aP {p:Prop} [Decidable p] {A B:Prop} (h:¬ p) (k:B):Ev.gK (decide p) A B:=Ev.Gs (fun h'=>absurd h' h) (fun _=>k)
end Ev
def Le (a b:AV):Prop:=∀ (M:Mem) (v:Value),cZ M a v -> cZ M b v
def uy (a b:AV):Prop:=∀ (M:Mem) (J:bJ) (v:Value),Rel M J a v -> Rel M J b v
theorem Le.refl (a:AV):Le a a:=fun _ _ h=>h
theorem uy.refl (a:AV):uy a a:=fun _ _ _ h=>h
theorem cZ.EL (M:Mem) (sz:Nat):cZ M (.lst sz []) (.slice none 0 0) :=
 .lst (fun _ _=>undef) rfl (Nat.le_refl _) (fun i e h=>by simp at h) (fun h=>absurd rfl h) (fun b o i e j c h=>by cases h) (fun i e j c h=>by simp at h)
theorem Le.nil (sz:Nat):Le (.v (.slice none 0 0)) (.lst sz []):=fun M v h=>by cases h;exact cZ.EL M sz
theorem uy.nil (sz:Nat):uy (.v (.slice none 0 0)) (.lst sz []):=fun M J v h=>by
 have:=h.bZ
 subst this
 exact .pure (cZ.EL M sz)
theorem uy.dM {cs cs':List AV} (hn:cs.length = cs'.length) (h:∀ (i:Nat) (c c':AV),cs[i]? = some c -> cs'[i]? = some c' -> uy c c'):uy (.dM cs) (.dM cs'):=by
 intro M J v hr
 have get:∀ (i:Nat) (c':AV),cs'[i]? = some c' -> ∃ c,cs[i]? = some c:=fun i c' hc'=>by
   have:=(List.getElem?_eq_some_iff.1 hc').1
   exact ⟨cs[i]'(by omega),List.getElem?_eq_getElem (by omega)⟩
 cases hr with
 | pure hp =>
   cases hp with
   | dM h1 h2 =>
     refine .dM (by omega) (fun i c v hc hv=>?_)
     obtain ⟨c0,hc0⟩:=get i c hc
     exact h i c0 c hc0 hc M J v (.pure (h2 i c0 v hc0 hv))
 | dM h1 h2 =>
   refine .dM (by omega) (fun i c v hc hv=>?_)
   obtain ⟨c0,hc0⟩:=get i c hc
   exact h i c0 c hc0 hc M J v (h2 i c0 v hc0 hv)
theorem uy.adR {a a' b b':AV} (h:uy a a') (h':uy b b'):uy (.dM [a,b]) (.dM [a',b']) :=
 uy.dM rfl (fun i c c' hc hc'=>by
   rcases i with _ | _ | i
   · simp at hc hc';subst hc;subst hc';exact h
   · simp at hc hc';subst hc;subst hc';exact h'
   · simp at hc)
theorem aO.args {E:Env} {f:FuncId} {args args':List AV} {R:AV -> List aG -> Prop} (h:aO E f args' R) (hn:args.length = args'.length)
   (hle:∀ (i:Nat) (x x':AV),args[i]? = some x -> args'[i]? = some x' -> Le x x'):aO E f args R:=by
 intro M w vs hm hg hs hr
 refine h M w vs hm hg (by omega) (fun i x' v hx' hv=>?_)
 have hlt:=(List.getElem?_eq_some_iff.1 hx').1
 have hx:args[i]? = some (args[i]'(by omega)):=List.getElem?_eq_getElem (by omega)
 exact hle i _ _ hx hx' M v (hr i _ v hx hv)
theorem aO.res {E:Env} {f:FuncId} {args:List AV} {R R':AV -> List aG -> Prop} (h:aO E f args R) (hr:∀ r hs,R r hs -> ∃ r',R' r' hs /\ uy r r'):aO E f args R':=by
 intro M w vs hm hg hn hrel
 obtain ⟨h1,h2⟩:=h M w vs hm hg hn hrel
 refine ⟨h1,h2.mono ?_⟩
 rintro e w' ⟨v,r,hs,M',J',a,b,c,d⟩
 obtain ⟨r',b',l⟩:=hr _ _ b
 exact ⟨v,r',hs,M',J',a,b',c,l _ _ _ d⟩
theorem aO.Qw {E:Env} {f:FuncId} {args:List AV} {X Y:AV} {H:List aG} (h:aO E f args fun r hs=>r = X /\ hs = H) (hl:uy X Y):aO E f args fun r hs=>r = Y /\ hs = H :=
 h.res (fun r hs ⟨a,b⟩=>⟨Y,⟨rfl,b⟩,by rw [a];exact hl⟩)
end Go.Proofs.YtadlnaljicikfaaDoor.aI
