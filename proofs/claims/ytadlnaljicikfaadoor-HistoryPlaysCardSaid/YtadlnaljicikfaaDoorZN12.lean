/- A part of the proof: a calculus over values, and contracts of functions. No condition. -/
import Derived.Test.YtadlnaljicikfaaDoorZHistoryPlays11
set_option linter.unusedVariables false
set_option linter.unusedSimpArgs false
namespace Go.Proofs.YtadlnaljicikfaaDoor.aI
open Go
set_option maxRecDepth 100000
attribute [local irreducible] Ev.iH Ev.iR Ev.bY Ev.runK Ev.cu Ev.gK Ev.Side Ev.Wp Ev.Again Ev.To Ev.Fin
open Go.Lib Go.RowKit
theorem acC:∀ c,Tryd.f28.body = some c -> comp c = (.seq (.reg 0 [I.n 0 2 (.box 27 (.tmp 0)),I.n 1 3 (.box 27 (.tmp 1)),I.n 2 4 (I.sb false)]) (.seq (.seq (.reg 1 [I.n 0 6 (I.fa 27 2 0),I.n 1 7 (I.ld 9 6),I.n 2 8 (I.fa 27 3 0),I.n 3 9 (I.ld 9 8),I.n 4 10 (I.bo .neq 9 7 9 9),I.n 5 11 (I.mv 10),I.w 6 12 (I.fa 27 2 2) 11 false,I.w 7 13 (I.ld 22 12) 11 false,I.w 8 14 (I.ln 13 22) 11 false,I.w 9 15 (I.fa 27 3 2) 11 false,I.w 10 16 (I.ld 22 15) 11 false,I.w 11 17 (I.ln 16 22) 11 false,I.w 12 18 (I.bo .neq 3 14 17 3) 11 false,I.n 13 19 (I.pb 11 true 18),I.n 14 20 (I.mv 19),I.w 15 21 (I.fa 27 2 1) 20 false,I.w 16 22 (I.ld 25 21) 20 false,I.w 17 23 (I.fa 27 3 1) 20 false,I.w 18 24 (I.ld 25 23) 20 false,I.w 19 25 (I.c2 76 22 24 25 25) 20 false,I.w 20 26 (.unOp .not 4 (.tmp 25)) 20 false,I.n 21 27 (I.pb 20 true 26)]) (.cond (.tmp 27) (.seq (.reg 2 [I.n 0 4 (I.sb false)]) .ret) .skip)) (.seq (.seq (.reg 3 [I.n 0 5 (I.si 0)]) (.block 0 (.loop (.seq (.seq (.reg 4 [I.n 0 28 (I.mv 5),I.n 1 29 (I.fa 27 2 2),I.n 2 30 (I.ld 22 29),I.n 3 31 (I.ln 30 22),I.n 4 32 (I.bo .lss 3 28 31 3)]) (.cond (.tmp 32) .skip (.exit 0))) (.seq (.block 1 (.seq (.draw 6 [I.n 0 35 (I.fa 27 2 2),I.n 1 36 (I.ld 22 35),I.n 2 37 (I.mv 5),I.n 3 38 (I.ia 22 36 37),I.n 4 39 (I.ld 23 38),I.n 5 40 (I.fa 27 3 2),I.n 6 41 (I.ld 22 40),I.n 7 42 (I.mv 5),I.n 8 43 (I.ia 22 41 42),I.n 9 44 (I.ld 23 43),I.n 10 45 (I.c2 34 39 44 23 23),I.n 11 46 (.unOp .not 4 (.tmp 45))] [[],[0],[],[1,2],[3],[],[5],[],[6,7],[8],[4,9],[10]]) (.cond (.tmp 46) (.seq (.reg 7 [I.n 0 4 (I.sb false)]) .ret) .skip))) (.reg 5 [I.n 0 33 (I.mv 5),I.n 1 34 (I.bc .add 3 33 1 3),I.n 2 5 (I.sa 34)])))))) (.seq (.reg 8 [I.n 0 4 (I.sb true)]) .ret)))):=by
 intro c h
 have:c = Tryd.f28.body.get rfl:=by rw [<- Option.some_inj,<- h];rfl
 rw [this];rfl
def Us (c d:Lg):Bool:=decide (c.base = d.base /\ c.revs = d.revs /\ c.dP = d.dP)
theorem Il (c:Lg):Us c c = true:=decide_eq_true ⟨rfl,rfl,rfl⟩
set_option maxHeartbeats 1000000 in
theorem Io (c d:Lg) (hc:LgS c):aO env 28 [lgA c,lgA d] (fun r hs=>r = .v (.bool (Us c d)) /\ hs = []):=by
  have hR:=FQ c.revs d.revs (by have:=hc.2.1;omega)
  have h1:=bW c.dP
  have h2:=bW d.dP
  have hcl:=hc.2.2.1
  refine Ev.fn [0,1,2,3,4,5,27,32,46] 0 [.tmp 4] Tryd.func28 (acC _ rfl) ?_
  repeat' (first | refine' Ev.zP | refine' Ev.zS | refine' Ev.zK | ((with_reducible refine Ev.ca0 ?_);(first | refine Ev.ca (hR) ?_);conv=>whnf) | ((with_reducible refine Ev.dG ?_);(first | refine Ev.dr 6 [] [0,1,2,3,4,5,6,7,8,9,10,11] ?_);intro Q hQ;(simp only [Ev.aj,Ev.ak]);conv=>whnf) | refine' Ev.zT | fail)
  · rename_i e1 e2 e3
    have hlen:c.dP.length = d.dP.length:=by omega
    refine Ev.loop (fun k s=>∃ i ct:Nat,s = ⟨[(2,.ptr 0 0 0 0),(3,.ptr 8 8 0 0),(4,.v (.bool false)),(5,.v (.int .i64 i))],[(8,⟨3,27,8,0,true,[[.v (.string d.base),.lst 1 (ints d.revs),.lst 1 (aX d.dP)]]⟩),(0,⟨3,27,0,0,true,[[.v (.string c.base),.lst 1 (ints c.revs),.lst 1 (aX c.dP)]]⟩)],ct⟩ /\ k + i = c.dP.length /\ c.dP.take i = d.dP.take i) ?_ ?_
    · refine Ev.zB ⟨c.dP.length,0,?_,rfl,?_⟩
      exact ⟨by omega,rfl⟩
    rintro k s1 ⟨i,ct,rfl,hk,hf⟩
    by_cases hi:i < c.dP.length
    · have hi2:(i:Int) < ((aX c.dP).length:Int):=by omega
      have hid:i < d.dP.length:=by omega
      have hic:=hi
      have hS:=yH c.dP[i] d.dP[i] (by have:=(hc.2.2.2 _ (List.getElem_mem hi)).1;omega)
      repeat' (first | refine' Ev.zP | (((with_reducible refine Ev.aF hi2 ?_);conv=>whnf)) | (with_reducible refine Ev.aJ hi2 ?_) | refine' Ev.zS | refine' Ev.zK | ((with_reducible refine Ev.ca0 ?_);(first | refine Ev.ca (hS) ?_);conv=>whnf) | ((with_reducible refine Ev.dG ?_);(first | refine Ev.dr 6 [] [0,1,2,3,4,5,6,7,8,9,10,11] ?_);intro Q hQ;(simp only [Ev.aj,Ev.ak]);conv=>whnf) | refine' Ev.zT | fail)
      · rename_i heq
        refine Ev.zA (k - 1) ⟨i + 1,?_,rfl,?_⟩
        exact ⟨by omega,by rw [List.take_succ_eq_append_getElem hic,List.take_succ_eq_append_getElem hid,hf,heq]⟩
      · rename_i hne
        exact ⟨Ev.qG (decide_eq_false (fun h=>hne (by simp only [h.2.2]))).symm,rfl⟩
    · have hi2:¬ (i:Int) < ((aX c.dP).length:Int):=by omega
      repeat' (first | refine' Ev.zP | (((with_reducible refine Ev.aK hi2 ?_);conv=>whnf)) | (with_reducible refine Ev.aP hi2 ?_) | refine' Ev.zS | refine' Ev.zK | ((with_reducible refine Ev.dG ?_);(first | refine Ev.dr 6 [] [0,1,2,3,4,5,6,7,8,9,10,11] ?_);intro Q hQ;(simp only [Ev.aj,Ev.ak]);conv=>whnf) | refine' Ev.zT | fail)
      rw [List.take_of_length_le (by omega),List.take_of_length_le (by omega)] at hf
      exact ⟨Ev.qG (decide_eq_true ⟨e1,e3,hf⟩).symm,rfl⟩
  · rename_i e1 e2 e3
    exact ⟨Ev.qG (decide_eq_false (fun h=>e3 h.2.1)).symm,rfl⟩
  · rename_i e1 e2
    exact ⟨Ev.qG (decide_eq_false (fun h=>e2 (by rw [h1,h2,h.2.2]))).symm,rfl⟩
  · rename_i e1
    exact ⟨Ev.qG (decide_eq_false (fun h=>e1 h.1)).symm,rfl⟩
theorem af8{G:Prop}(h:G:=by
 rw [List.cons_append,List.cons_append,List.cons_append,List.nil_append,au,au,au,au,au,get_nil] at h
 split at h
 all_goals(rcases(⟨_⟩:PLift _)with⟨h⟩;exact h)):G:=h
theorem agE {nm ct:Nat} {hp:List (Nat × aG)} {K:AV -> List (Nat × aG) -> Nat -> Prop} (B L S X Y:Nat) (F:List (Nat × aG)) {vb vl fl vs fs:Nat} {Ls:List (List Sp)} {Ns:List Int} {t:ByteArray} (hne:L ≠ B /\ S ≠ B /\ S ≠ L) (hx:∀ x ∈ Ls,x.length <= 100000000) (hL:Ls.length <= 1000000)
   (hs:subs hp (iD B L S vb vl fl vs fs Ls Ns t)) (hF:subs hp F) (hB:get F B = none /\ get F L = none /\ get F S = none /\ get F X = none /\ get F Y = none)
   (hk:∀ v1 v2 c',ct + 8 <= c' -> K (.agg [.v (.string t),.own X v1 0 (Ls.length + 1),.own Y v2 0 Ls.length]) ((iD B L S vb vl fl vs fs Ls Ns t ++ [(X,⟨1,3,v1,0,false,ints (iw Ls.length)⟩),(Y,⟨1,23,v2,0,false,aX Ls⟩)]) ++ F) c') :
   Ev.dK env nm 26 [.ptr B vb 0 0] hp ct K:=by
 have hc:=iQ (R':=fun x h=>∃ v1 v2:Nat,x = .agg [.v (.string t),.own 66080 v1 0 (Ls.length + 1),.own 9100 v2 0 Ls.length] /\ h = iD 7000 7001 7002 vb vl fl vs fs Ls Ns t ++ [(66080,⟨1,3,v1,0,false,ints (iw Ls.length)⟩),(9100,⟨1,23,v2,0,false,aX Ls⟩)])
   (PG vb vl fl vs fs Ls Ns t hx hL) (fun x h ⟨v1,v2,a,b⟩=>⟨_,⟨v1,v2,a,rfl⟩,b⟩)
 refine oz (Ug B L S) (fun r=>if r = 66080 then X else if r = 9100 then Y else abV B L S r) F hc (by simp [jK,vV]) (Uh hne.1 hne.2.1 hne.2.2) hs hF ?_ ?_
 · intro q h
   rcases Mc h with rfl | rfl | rfl
   · exact hB.1
   · exact hB.2.1
   · exact hB.2.2.1
 · rintro r h1 ⟨v1,v2,rfl,rfl⟩
   refine ⟨?_,hk v1 v2⟩
   intro q h
   have h:get (iD B L S vb vl fl vs fs Ls Ns t ++ [(X,(⟨1,3,v1,0,false,ints (iw Ls.length)⟩:aG)),(Y,⟨1,23,v2,0,false,aX Ls⟩)]) q ≠ none:=h
   refine' af8
   · rename_i e;rw [e];exact hB.1
   · split at h
     · rename_i e;rw [e];exact hB.2.1
     · split at h
       · rename_i e;rw [e];exact hB.2.2.1
       · split at h
         · rename_i e;rw [e];exact hB.2.2.2.1
         · split at h
           · rename_i e;rw [e];exact hB.2.2.2.2
           · exact absurd rfl h
theorem FH.Ut {c:Lg} {n0:Int} (hH:FH c n0) {i:Nat} (hi:i <= c.dP.length):Kr c.base c.dP i = .dM [.v (.string (Ph c i)),.v (.int .i64 0)] /\ (Ph c i).size <= 14000 /\ validD (Ph c i).data.toList = true /\ bG (Ph c i).data.toList = pq n0 (c.dP.take i) /\ lC (c.dP.take i) c.base = (0,Ph c i):=by
 have hb:=hH.bs
 have ht:=hH.tot
 have htk:=D8 c.dP i
 obtain ⟨u,u1,u2,u3,u4⟩:=Ef (c.dP.take i) n0 c.base hH.val hH.cnt (nH hH.seg i).1 (fun x hx=>by have:=hH.each x (List.mem_of_mem_take hx);omega) (by omega)
 have e:Ph c i = u:=by unfold Ph;rw [u1]
 rw [e]
 refine ⟨?_,by omega,u2,u3,u1⟩
 unfold Kr allA O8
 rw [if_pos ⟨by omega,by omega⟩,Int.toNat_natCast,if_neg (by rw [hH.val];simp),u1]
theorem FH.KO {c:Lg} {n0:Int} (hH:FH c n0) {r k:Nat} (hr:r <= k) (hk:k <= c.dP.length) :
   ∃ A,Cb c.dP (Iq n0 c.dP) r k = .dM [.lst 3 (aT A),.v (.int .i64 0)] /\ lV A (Ph c r) = 0 /\ oL A (Ph c r) = Ph c k /\ A.length <= 261 /\ bT A <= 10000:=by
 obtain ⟨a1,a2,a3,a4,a5⟩:=hH.Ut (i:=r) (by omega)
 obtain ⟨b1,b2,b3,b4,b5⟩:=hH.Ut (i:=k) hk
 have hm:=hH.ends r (by omega)
 obtain ⟨k1,k2,k3⟩:=yT hm
 obtain ⟨k4,k5⟩:=uj (pq n0 (c.dP.take r))
 obtain ⟨e1,e2⟩:=Ik a3 a4 hm
 have hs:=(nH (nH hH.seg r).2 (k - r)).1
 have l1:=(lZ (c.dP.drop r) (k - r))
 have l2:=jU c.dP r
 have l3:=uo c.dP r
 have l4:=hH.lens
 have l5:lK c.dP <= 10000:=hH.tot
 obtain ⟨f1,f2,f3,f4,f5,f6⟩:=Ce ((c.dP.drop r).take (k - r)) (dH (pq n0 (c.dP.take r))) (Ph c r) e1 (by rw [k2];exact hs) (by omega) (by omega) (by omega)
 rw [e2] at f3
 have hsp:c.dP.take k = c.dP.take r ++ (c.dP.drop r).take (k - r):=by
   have:=List.take_add (l:=c.dP) (i:=r) (j:=k - r)
   rw [show r + (k - r) = k by omega] at this
   exact this
 have hall:=BQ (c.dP.take r) ((c.dP.drop r).take (k - r)) c.base (by rw [a5])
 rw [<- hsp,a5,b5,f3] at hall
 have hT:Ph c k = oL (dR (dH (pq n0 (c.dP.take r))) ((c.dP.drop r).take (k - r))).1 (Ph c r):=congrArg Prod.snd hall
 refine ⟨(dR (dH (pq n0 (c.dP.take r))) ((c.dP.drop r).take (k - r))).1,?_,f2,hT.symm,by omega,by omega⟩
 unfold Cb pW
 rw [if_pos ⟨by omega,by omega,by omega⟩,Int.toNat_natCast,Int.toNat_natCast,Ag _ _ _ (by omega),f1,if_pos rfl]
theorem comp27:∀ c,Tryd.f27.body = some c -> comp c = (.seq (.reg 0 [I.n 0 2 I.sn]) (.seq (.reg 1 [I.n 0 6 (.buildSlice 23 0 #[]),I.n 1 3 (I.sa 6)]) (.seq (.seq (.reg 2 [I.n 0 4 (I.si 0)]) (.block 0 (.loop (.seq (.seq (.reg 3 [I.n 0 7 (I.mv 4),I.n 1 8 (I.mv 0),I.n 2 9 (I.ln 8 23),I.n 3 10 (I.bo .lss 3 7 9 3),I.n 4 11 (I.mv 10),I.w 5 12 (I.mv 4) 11 true,I.w 6 13 (I.bc .lss 3 12 20 3) 11 true,I.n 7 14 (I.pc 11 13 false)]) (.cond (.tmp 14) .skip (.exit 0))) (.seq (.block 1 (.seq (.reg 5 [I.n 0 17 (I.mv 0),I.n 1 18 (I.mv 4),I.n 2 19 (I.ia 23 17 18),I.n 3 20 (I.ld 35 19),I.n 4 5 (.alloc 35),I.u 5 (I.st 35 5 20)]) (.seq (.reg 6 [I.n 0 21 (I.fa 35 5 2),I.n 1 22 (I.ld 9 21),I.n 2 23 (I.fa 35 5 2),I.n 3 24 (I.ld 9 23),I.n 4 25 (I.ln 24 9),I.n 5 26 (.call { callee:=.builtin .min,args:=#[.tmp 25,.const (Value.int .i64 60)],argTypes:=#[3,3] }),I.n 6 27 (.slice 9 (.tmp 22) none (some (.tmp 26)) none),I.n 7 28 (I.fa 35 5 2),I.u 8 (I.st 9 28 27)]) (.reg 7 [I.n 0 29 (I.mv 3),I.n 1 30 (I.ld 35 5),I.n 2 31 (I.b1 23 30),I.n 3 32 (I.ap 29 31 23 23),I.n 4 3 (I.sa 32)])))) (.reg 4 [I.n 0 15 (I.mv 4),I.n 1 16 (I.bc .add 3 15 1 3),I.n 2 4 (I.sa 16)])))))) (.seq (.reg 8 [I.n 0 33 (I.mv 3),I.n 1 2 (I.sa 33)]) .ret)))):=by
 intro c h
 have:c = Tryd.f27.body.get rfl:=by rw [<- Option.some_inj,<- h];rfl
 rw [this];rfl
theorem Ci (l:List Sp):aO env 27 [.lst 3 (aT l)] (fun r hs=>r = .lst 3 (aT ((l.take 20).map (vF 60))) /\ hs = []):=by
 have hsl:=aV l
 refine Ev.fn [0,2,3,4,5,14] 0 [.tmp 2] Tryd.func27 (comp27 _ rfl) ?_
 refine' Ev.zW
 refine Ev.loop (fun k s=>∃ (i v c:Nat),s = ⟨[(0,.lst 3 (aT l)),(2,nilA),(3,.own 512 v 0 i),(4,.v (.int .i64 i))],[(512,⟨3,35,v,0,false,aT ((l.take i).map (vF 60))⟩)],c⟩ /\ k + i = 20 /\ i <= l.length) ?_ ?_
 · refine Ev.zB ⟨20,0,?_,?_,rfl,?_⟩
   exact ⟨by omega,by omega⟩
 rintro k s1 ⟨i,v,c,rfl,hk,hi'⟩
 have hlen:(aT ((l.take i).map (vF 60))).length = i:=by simp;omega
 have he:∀ hi:i < l.length,(l.take (i + 1)).map (vF 60) = (l.take i).map (vF 60) ++ [vF 60 l[i]]:=fun hi=>by rw [List.take_succ_eq_append_getElem hi,List.map_append];rfl
 refine' Ev.zW
 · have hx:(min (l[i].t.size:Int) 60).toNat = min l[i].t.size 60:=by omega
   refine Ev.zA (k - 1) ⟨i + 1,?_,?_,rfl,?_⟩ (by refine' Ev.zp <;> first | (first | (simp;done) | (rw [he hi];simp [aT,vF,qR,hx];done)) | rfl | (refine' Ev.ze;(first | (simp;done) | (rw [he hi];simp [aT,vF,qR,hx];done))) | fail)
   exact ⟨by omega,by omega⟩
 all_goals
   have hT:l.take 20 = l.take i:=by
     first
       | rw [show i = 20 by omega]
       | rw [List.take_of_length_le (by simp at *;omega),List.take_of_length_le (by simp at *;omega)]
   exact ⟨Ev.aB (Ev.Bg hlen.symm (by rw [hT])),rfl⟩
abbrev Uu (B T L:Nat) (r:Nat):Nat:=if r = B then 7100 else if r = T then 7101 else if r = L then 7102 else r
abbrev acD (B T L:Nat) (r:Nat):Nat:=if r = 7100 then B else if r = 7101 then T else if r = 7102 then L else r
theorem Uw {B T L vb vt ft vl fl:Nat} {Ts:List ByteArray} {Ls:List (List Sp)} (h1:T ≠ B) (h2:L ≠ B) (h3:L ≠ T):L6 (Uu B T L) (jg B T L vb vt ft vl fl Ts Ls) = jg 7100 7101 7102 vb vt ft vl fl Ts Ls:=by
 simp [L6,jK,vV,Uu,h1,h2,h3]
theorem Me {B T L vb vt ft vl fl:Nat} {Ts:List ByteArray} {Ls:List (List Sp)} {q:Nat} (h:get (jg B T L vb vt ft vl fl Ts Ls) q ≠ none):q = B ∨ q = T ∨ q = L:=by
 rw [au,au,au,get_nil] at h
 split at h
 · rename_i e;exact .inl e
 · split at h
   · rename_i e;exact .inr (.inl e)
   · split at h
     · rename_i e;exact .inr (.inr e)
     · exact absurd rfl h
section
variable {nm ct:Nat} {hp:List (Nat × aG)} {K:AV -> List (Nat × aG) -> Nat -> Prop} (B T L:Nat) (F:List (Nat × aG)) {vb vt ft vl fl:Nat} {Ts:List ByteArray} {Ls:List (List Sp)}
theorem XQ {f:FuncId} {args args':List AV} {P:AV -> Nat -> Nat -> Nat -> List ByteArray -> List (List Sp) -> Prop} (hne:T ≠ B /\ L ≠ B /\ L ≠ T)
   (hc:dn env 65536 f args' (jg 7100 7101 7102 vb vt ft vl fl Ts Ls) fun r h=>∃ vT iW iq Ts' kG,P r vT iW iq Ts' kG /\ subs h (jg 7100 7101 7102 vb vT ft iW iq Ts' kG)) (ha:jK (Uu B T L) args = args')
   (hs:subs hp (jg B T L vb vt ft vl fl Ts Ls)) (hF:subs hp F) (hB:get F B = none /\ get F T = none /\ get F L = none)
   (hk:∀ r vT iW iq Ts' kG,P r vT iW iq Ts' kG -> ∀ c',ct + 8 <= c' -> K (vV (acD B T L) r) (jg B T L vb vT ft iW iq Ts' kG ++ F) c'):Ev.dK env nm f args hp ct K:=by
 have hc':=iQ (R':=fun r h=>∃ vT iW iq Ts' kG,P r vT iW iq Ts' kG /\ h = jg 7100 7101 7102 vb vT ft iW iq Ts' kG) hc (fun r h ⟨vT,iW,iq,Ts',kG,h1,h2⟩=>⟨_,⟨vT,iW,iq,Ts',kG,h1,rfl⟩,h2⟩)
 have out:∀ {vt vl fl:Nat} {Ts:List ByteArray} {Ls:List (List Sp)} (q:Nat),get (jg B T L vb vt ft vl fl Ts Ls) q ≠ none -> get F q = none:=by
   intro vt vl fl Ts Ls q h
   rcases Me h with rfl | rfl | rfl
   · exact hB.1
   · exact hB.2.1
   · exact hB.2.2
 refine oz (Uu B T L) (acD B T L) F hc' ha (Uw hne.1 hne.2.1 hne.2.2) hs hF out ?_
 rintro r h1 ⟨vT,iW,iq,Ts',kG,hP,rfl⟩
 exact ⟨out,hk r vT iW iq Ts' kG hP⟩
theorem acE {w:List Sp} {u:ByteArray} {e:Int} (hne:T ≠ B /\ L ≠ B /\ L ≠ T) (hw:w.length <= 100000000) (hb:bT w + u.size <= 1000000000) (hT:Ts.length = Ls.length + 1) (hL:Ls.length <= 1000000) (hu:∀ h:Ls.length < Ts.length,Ts[Ls.length] = u) (he:gq w (cO u) = e)
   (hs:subs hp (jg B T L vb vt ft vl fl Ts Ls)) (hF:subs hp F) (hB:get F B = none /\ get F T = none /\ get F L = none)
   (hk:∀ vT iW c',ct + 8 <= c' -> K (.v (.int .i64 e)) (jg B T L vb vT ft iW fl (Ts ++ if e = 0 then [oL w u] else []) (Ls ++ if e = 0 then [norm w] else []) ++ F) c'):Ev.dK env nm 51 [.ptr B vb 0 0,.lst 3 (aT w)] hp ct K:=by
 have hc:=Kw vb vt ft vl fl Ts Ls u w hw hb hT hL hu
 rw [he] at hc
 refine XQ (P:=fun r vT iW iq Ts' kG=>r = .v (.int .i64 e) /\ iq = fl /\ Ts' = Ts ++ (if e = 0 then [oL w u] else []) /\ kG = Ls ++ (if e = 0 then [norm w] else [])) B T L F hne (hc.mono ?_) (by simp [jK,vV]) hs hF hB ?_
 · rintro r h ⟨rfl,vT,iW,h'⟩
   exact ⟨vT,iW,fl,_,_,⟨rfl,rfl,rfl,rfl⟩,h'⟩
 · rintro r vT iW iq Ts' kG ⟨rfl,rfl,rfl,rfl⟩ c' hc'
   exact hk vT iW c' hc'
theorem agF {r:Int} {X:AV} (hX:Ii Ts Ls r = X) (hp0:∀ ρ,vV ρ X = X) (hne:T ≠ B /\ L ≠ B /\ L ≠ T) (hT:Ts.length = Ls.length + 1)
   (hs:subs hp (jg B T L vb vt ft vl fl Ts Ls)) (hF:subs hp F) (hB:get F B = none /\ get F T = none /\ get F L = none)
   (hk:∀ c',ct + 8 <= c' -> K X (jg B T L vb vt ft vl fl Ts Ls ++ F) c'):Ev.dK env nm 53 [.ptr B vb 0 0,.v (.int .i64 r)] hp ct K:=by
 refine XQ (P:=fun x vT iW iq Ts' kG=>x = X /\ vT = vt /\ iW = vl /\ iq = fl /\ Ts' = Ts /\ kG = Ls) B T L F hne ((PO vb vt ft vl fl Ts Ls r hT).mono ?_) (by simp [jK,vV]) hs hF hB ?_
 · rintro x h ⟨rfl,h'⟩
   exact ⟨vt,vl,fl,Ts,Ls,⟨hX,rfl,rfl,rfl,rfl,rfl⟩,h'⟩
 · rintro r vT iW iq Ts' kG ⟨rfl,rfl,rfl,rfl,rfl,rfl⟩ c' hc'
   rw [hp0];exact hk c' hc'
theorem Yf {a:List Sp} {r:Int} {X:AV} (hX:BZ Ls (Ts.map cO) a r = X) (hp0:∀ ρ,vV ρ X = X) (hne:T ≠ B /\ L ≠ B /\ L ≠ T) (hT:Ts.length = Ls.length + 1) (hts:∀ t ∈ Ts,t.size <= 1000000000) (hl:a.length + jf Ls <= 9999999) (ha:bT a <= 100000000) (hb:∀ x ∈ Ls,bT x <= 100000000) (hL:Ls.length <= 1000000) (ho:∀ s ∈ Ls,aC s = 0 -> aY dO s <= 1048576)
   (hs:subs hp (jg B T L vb vt ft vl fl Ts Ls)) (hF:subs hp F) (hB:get F B = none /\ get F T = none /\ get F L = none)
   (hk:∀ iq c',ct + 8 <= c' -> K X (jg B T L vb vt ft vl iq Ts Ls ++ F) c'):Ev.dK env nm 52 [.ptr B vb 0 0,.lst 3 (aT a),.v (.int .i64 r)] hp ct K:=by
 refine XQ (P:=fun x vT iW iq Ts' kG=>x = X /\ vT = vt /\ iW = vl /\ Ts' = Ts /\ kG = Ls) B T L F hne ((PS vb vt ft vl fl Ts Ls a r hT hts hl ha hb hL ho).mono ?_) (by simp [jK,vV]) hs hF hB ?_
 · rintro x h ⟨rfl,iq,h'⟩
   exact ⟨vt,vl,iq,Ts,Ls,⟨hX,rfl,rfl,rfl,rfl⟩,h'⟩
 · rintro r vT iW iq Ts' kG ⟨rfl,rfl,rfl,rfl,rfl⟩ c' hc'
   refine' ag1
theorem Yg {r s:Int} {X:AV} (hX:Cb Ls (Ts.map cO) r s = X) (hp0:∀ ρ,vV ρ X = X) (hne:T ≠ B /\ L ≠ B /\ L ≠ T) (hT:Ts.length = Ls.length + 1) (hts:∀ t ∈ Ts,t.size <= 1000000000 /\ 0 <= cO t /\ cO t <= 1048576) (hl:jf Ls <= 9999999) (hb:lK Ls <= 100000000) (hL:Ls.length <= 1000000) (hx:∀ x ∈ Ls,x.length <= 1000000000 /\ Small x)
   (hs:subs hp (jg B T L vb vt ft vl fl Ts Ls)) (hF:subs hp F) (hB:get F B = none /\ get F T = none /\ get F L = none)
   (hk:∀ iq c',ct + 8 <= c' -> K X (jg B T L vb vt ft vl iq Ts Ls ++ F) c'):Ev.dK env nm 54 [.ptr B vb 0 0,.v (.int .i64 r),.v (.int .i64 s)] hp ct K:=by
 refine XQ (P:=fun x vT iW iq Ts' kG=>x = X /\ vT = vt /\ iW = vl /\ Ts' = Ts /\ kG = Ls) B T L F hne ((PU vb vt ft vl fl Ts Ls r s hT hts hl hb hL hx).mono ?_) (by simp [jK,vV]) hs hF hB ?_
 · rintro x h ⟨rfl,iq,h'⟩
   exact ⟨vt,vl,iq,Ts,Ls,⟨hX,rfl,rfl,rfl,rfl⟩,h'⟩
 · rintro r vT iW iq Ts' kG ⟨rfl,rfl,rfl,rfl,rfl⟩ c' hc'
   refine' ag1
end
theorem acF {nm ct:Nat} {hp:List (Nat × aG)} {K:AV -> List (Nat × aG) -> Nat -> Prop} (B T L X Y:Nat) (F:List (Nat × aG)) {vb vt ft vl fl:Nat} {Ts:List ByteArray} {Ls:List (List Sp)} {u:ByteArray} (hne:T ≠ B /\ L ≠ B /\ L ≠ T) (hx:∀ x ∈ Ls,x.length <= 100000000) (hL:Ls.length <= 1000000) (hu:∀ h:0 < Ts.length,Ts[0] = u) (hT:0 < Ts.length)
   (hs:subs hp (jg B T L vb vt ft vl fl Ts Ls)) (hF:subs hp F) (hB:get F B = none /\ get F T = none /\ get F L = none /\ get F X = none /\ get F Y = none)
   (hk:∀ v1 v2 c',ct + 8 <= c' -> K (.agg [.v (.string u),.own X v1 0 (Ls.length + 1),.own Y v2 0 Ls.length]) ((jg B T L vb vt ft vl fl Ts Ls ++ [(X,⟨1,3,v1,0,false,ints (iw Ls.length)⟩),(Y,⟨1,23,v2,0,false,aX Ls⟩)]) ++ F) c') :
   Ev.dK env nm 55 [.ptr B vb 0 0] hp ct K:=by
 have hc:=iQ (R':=fun x h=>∃ v1 v2:Nat,x = .agg [.v (.string u),.own 66096 v1 0 (Ls.length + 1),.own 9100 v2 0 Ls.length] /\ h = jg 7100 7101 7102 vb vt ft vl fl Ts Ls ++ [(66096,⟨1,3,v1,0,false,ints (iw Ls.length)⟩),(9100,⟨1,23,v2,0,false,aX Ls⟩)])
   (Ky vb vt ft vl fl Ts Ls u hx hL hu hT) (fun x h ⟨v1,v2,a,b⟩=>⟨_,⟨v1,v2,a,rfl⟩,b⟩)
 refine oz (Uu B T L) (fun r=>if r = 66096 then X else if r = 9100 then Y else acD B T L r) F hc (by simp [jK,vV]) (Uw hne.1 hne.2.1 hne.2.2) hs hF ?_ ?_
 · intro q h
   rcases Me h with rfl | rfl | rfl
   · exact hB.1
   · exact hB.2.1
   · exact hB.2.2.1
 · rintro r h1 ⟨v1,v2,rfl,rfl⟩
   refine ⟨?_,hk v1 v2⟩
   intro q h
   have h:get (jg B T L vb vt ft vl fl Ts Ls ++ [(X,(⟨1,3,v1,0,false,ints (iw Ls.length)⟩:aG)),(Y,⟨1,23,v2,0,false,aX Ls⟩)]) q ≠ none:=h
   refine' af8
   · rename_i e;rw [e];exact hB.1
   · split at h
     · rename_i e;rw [e];exact hB.2.1
     · split at h
       · rename_i e;rw [e];exact hB.2.2.1
       · split at h
         · rename_i e;rw [e];exact hB.2.2.2.1
         · split at h
           · rename_i e;rw [e];exact hB.2.2.2.2
           · exact absurd rfl h
end Go.Proofs.YtadlnaljicikfaaDoor.aI
namespace Go.Proofs.YtadlnaljicikfaaDoor.aI
open Go Go.Lib
namespace Ev
theorem agG {E:Env} {sl:List (Nat × AV)} {hp:List (Nat × aG)} {ct t:Nat} {x y:AV} (hg:get sl t = some x) (hl:uy x y):Gh E ⟨sl,hp,ct⟩ ⟨(t,y) :: sl,hp,ct⟩:=by
 intro M0 w0 M J tm w inv
 refine ⟨M,J,⟨inv.below,inv.mem,inv.kH,inv.jV,inv.glob,?_,inv.heap,inv.apart,inv.owns,inv.vers,inv.jF,inv.far⟩⟩
 obtain ⟨v,hv,hr⟩:=inv.slot t x hg
 intro t' x' hx'
 rw [au] at hx'
 split at hx'
 · rename_i e
   subst e
   obtain rfl:=Option.some.inj hx'
   exact ⟨v,hv,hl M J v hr⟩
 · exact inv.slot t' x' hx'
theorem En {E:Env} {nt:Nat} (id t:Nat) {l:List Ins} {K:Exit -> St -> Prop} {sl:List (Nat × AV)} {hp:List (Nat × aG)} {ct:Nat} (x y:AV) (hg:get sl t = some x) (hl:uy x y) (h:Wp E nt (.reg id l) K ⟨(t,y) :: sl,hp,ct⟩):Wp E nt (.reg id l) K ⟨sl,hp,ct⟩ :=
 uK.ghost (agG hg hl) h
end Ev
structure PI (s:ByteArray) (Ls:List (List Sp)) (Ns:List Int) (Ts:List ByteArray):Prop where
 ts:Ts.length = Ls.length + 1
 nt:Ns = Ts.map cO
 all:∀ i ≤ Ls.length,lC (Ls.take i) s = (0,Ts.getD i ⟨#[]⟩)
 val:∀ t ∈ Ts,validD t.data.toList = true /\ cO t <= 1048576
 sz:∀ t ∈ Ts,t.size <= 4000 + 1200 * Ls.length
 each:∀ x ∈ Ls,x.length <= 20 /\ bT x <= 1200
 may:∀ x ∈ Ls,aC x = 0 -> aY dO x <= 1048576
 n:Ls.length <= 12
 seg:gW (cO s) Ls = 0
 szs:Ns = Iq (cO s) Ls
theorem Ux {w:List Sp} {n:Int} (h:gq w n = 0):aC w = 0 /\ iT w = n /\ outW w <= 1048576:=by
 unfold gq at h
 have m0:aC w = 0:=Decidable.byContradiction fun h0=>by rw [if_pos h0] at h;exact h0 h
 rw [if_neg (by simpa using m0)] at h
 have m1:iT w = n:=Decidable.byContradiction fun h0=>by rw [if_pos h0] at h;cases h
 rw [if_neg (by simpa using m1)] at h
 exact ⟨m0,m1,Decidable.byContradiction fun h0=>by rw [if_pos (by omega)] at h;cases h⟩
theorem PI.first {s:ByteArray} (h:newE s = 0) (hs:s.size <= 4000):PI s [] [cO s] [s]:=by
 unfold newE at h
 have h0:¬ cO s < 0:=fun h0=>by rw [if_pos h0] at h;cases h
 have h1:¬ 1048576 < cO s:=fun h1=>by rw [if_neg h0,if_pos h1] at h;cases h
 have hv:validD s.data.toList = true:=by
   cases hv:validD s.data.toList with
   | true=>rfl
   | false=>exact absurd (yV.1 hv) h0
 refine ⟨rfl,rfl,fun i hi=>?_,fun t ht=>?_,fun t ht=>?_,fun x hx=>by simp at hx,fun x hx=>by simp at hx,by simp,rfl,rfl⟩
 · obtain rfl:i = 0:=by simpa using hi
   rfl
 · simp at ht;subst ht;exact ⟨hv,by omega⟩
 · simp at ht;subst ht;simp;omega
theorem PI.last {s:ByteArray} {Ls:List (List Sp)} {Ns:List Int} {Ts:List ByteArray} (h:PI s Ls Ns Ts):∃ u,(∀ hl:Ls.length < Ts.length,Ts[Ls.length] = u) /\ u ∈ Ts /\ (∀ hn:Ns ≠ [],Ns.getLast hn = cO u) /\ lC Ls s = (0,u):=by
 have ht:=h.ts
 have hlt:Ls.length < Ts.length:=by omega
 refine ⟨Ts[Ls.length],fun _=>rfl,List.getElem_mem hlt,fun hn=>?_,?_⟩
 · have e:=h.nt
   subst e
   rw [List.getLast_eq_getElem]
   simp only [List.length_map,List.getElem_map]
   congr 2;omega
 · have:=h.all _ (Nat.le_refl _)
   rw [List.take_length,getD_at hlt] at this
   exact this
theorem Uy {w:List Sp} {u:ByteArray} (h:lV w u = 0) (hl:w.length <= 1000000000):lV (norm w) u = 0 /\ oL (norm w) u = oL w u:=by
 obtain ⟨h1,h2,h3⟩:=ny h
 obtain ⟨o,e⟩:=oM.of h1 hl
 obtain ⟨n1,n2,n3,n4,n5,n6,n7,n8⟩:=o.norm
 obtain ⟨m1,m2⟩:=n1.may (by omega)
 have g:lV (norm w) u = 0:=vK m1 h2 (by omega)
 refine ⟨g,?_⟩
 have e1:oL (norm w) u = txt (fK (norm w) (pts u.data.toList)):=if_pos g
 have e2:oL w u = txt (fK w (pts u.data.toList)):=if_pos h
 rw [e1,e2,xQ g (by omega),xQ h hl,n3]
theorem PI.next {s:ByteArray} {Ls:List (List Sp)} {Ns:List Int} {Ts:List ByteArray} (h:PI s Ls Ns Ts) {w:List Sp} {u:ByteArray} (hu:∀ hl:Ls.length < Ts.length,Ts[Ls.length] = u) (hw:w.length <= 20 /\ bT w <= 1200) (he:gq w (cO u) = 0) (hn:Ls.length < 12) :
   PI s (Ls ++ [norm w]) (Ns ++ [outW w]) (Ts ++ [oL w u]):=by
 have ht:=h.ts
 have hlt:Ls.length < Ts.length:=by omega
 have hum:u ∈ Ts:=by rw [<- hu hlt];exact List.getElem_mem hlt
 obtain ⟨m0,m1,m2⟩:=Ux he
 obtain ⟨v1,v2⟩:=h.val u hum
 have us:=h.sz u hum
 have hz:lV w u = 0:=vK m0 v1 (by rw [m1];exact bH v1)
 obtain ⟨t1,t2,t3,t4⟩:=yM hz (by omega) (by omega)
 obtain ⟨n1,n2⟩:=Uy hz (by omega)
 obtain ⟨o,e⟩:=oM.of m0 (by omega)
 obtain ⟨o1,o2,o3,o4,o5,o6,o7,o8⟩:=o.norm
 have hc:cO (oL w u) = outW w:=by show bG _ = _;rw [bH t1,t3]
 have hon:=FK m0 (by omega) (by omega)
 obtain ⟨p1,p2⟩:=o1.may (by omega)
 have alp:=FK p1 (by omega) (by omega)
 have wo:outW (norm w) = outW w:=by omega
 have hne:Ns ≠ []:=by rw [h.szs];exact Ul _ _
 have hend:pq (cO s) Ls = cO u:=by
   obtain ⟨u',a1,a2,a3,a4⟩:=h.last
   have e0:u = u':=(hu hlt).symm.trans (a1 hlt)
   have e1:=a3 hne
   have e2:=h.szs
   subst e2
   rw [Ig] at e1
   rw [e1,e0]
 refine ⟨by simp [ht],by rw [List.map_append,h.nt,List.map_singleton,hc],fun i hi=>?_,fun t hx=>?_,fun t hx=>?_,fun x hx=>?_,fun x hx hm=>?_,by simp;omega,?_,by rw [Md,<- h.szs,wo]⟩
 · rcases Nat.lt_or_ge i (Ls.length + 1) with h1 | h1
   · have hi2:i < Ts.length:=by omega
     have e1:(Ts ++ [oL w u]).getD i ⟨#[]⟩ = Ts.getD i ⟨#[]⟩:=by
       rw [getD_at (by simp;omega),getD_at hi2,List.getElem_append_left hi2]
     rw [List.take_append_of_le_length (by omega),e1]
     exact h.all i (by omega)
   · obtain rfl:i = Ls.length + 1:=by simp at hi;omega
     have hg:(Ts ++ [oL w u]).getD (Ls.length + 1) ⟨#[]⟩ = oL w u:=by
       rw [getD_at (by simp;omega),List.getElem_append_right (by omega)];simp [ht]
     rw [hg,List.take_of_length_le (by simp)]
     have hl:=h.all _ (Nat.le_refl _)
     rw [List.take_length,getD_at hlt,hu hlt] at hl
     rw [BQ _ _ _ (by rw [hl]),hl]
     simp only [lC]
     rw [if_pos n1,n2]
 · rcases List.mem_append.1 hx with hx | hx
   · exact h.val t hx
   · simp at hx;subst hx;exact ⟨t1,by omega⟩
 · rw [List.length_append,List.length_singleton,Nat.mul_succ]
   rcases List.mem_append.1 hx with hx | hx
   · have:=h.sz t hx;omega
   · simp at hx;subst hx;omega
 · rcases List.mem_append.1 hx with hx | hx
   · exact h.each x hx
   · simp at hx;subst hx;omega
 · rcases List.mem_append.1 hx with hx | hx
   · exact h.may x hx hm
   · simp at hx;subst hx;omega
 · rw [yJ,if_pos h.seg,hend]
   simp only [gW]
   rw [if_pos (Xx p1 (by omega) (by omega) o2)]
theorem PI.at {s:ByteArray} {Ls:List (List Sp)} {Ns:List Int} {Ts:List ByteArray} (h:PI s Ls Ns Ts) (hv:validD s.data.toList = true) (r:Int):∃ x e,Kr s Ls r = .dM [.v (.string x),.v (.int .i64 e)] /\ Ii Ts Ls r = .dM [.v (.string x),.v (.int .i64 e)]:=by
 unfold Kr Ii
 by_cases hr:0 <= r /\ r <= Ls.length
 · rw [if_pos hr,if_pos hr]
   have:=h.all r.toNat (by omega)
   refine ⟨Ts.getD r.toNat ⟨#[]⟩,0,?_,rfl⟩
   unfold allA O8
   rw [if_neg (by rw [hv];simp),this]
 · rw [if_neg hr,if_neg hr]
   exact ⟨_,_,rfl,rfl⟩
theorem PI.lens {s:ByteArray} {Ls:List (List Sp)} {Ns:List Int} {Ts:List ByteArray} (h:PI s Ls Ns Ts):jf Ls <= 240 /\ lK Ls <= 14400:=by
 have h1:=FP (k:=20) Ls (fun x hx=>(h.each x hx).1)
 have h2:∀ (l:List (List Sp)),(∀ x ∈ l,bT x <= 1200) -> lK l <= 1200 * l.length:=by
   intro l
   induction l with
   | nil=>intro _;exact Nat.zero_le _
   | cons x l ih =>
     intro hl
     rw [(eF x l).2,List.length_cons,Nat.mul_succ]
     have:=ih (fun y hy=>hl y (by simp [hy]))
     have:=hl x (by simp)
     omega
 have h3:=h2 Ls (fun x hx=>(h.each x hx).2)
 have:=h.n
 omega
def SX (x:AV):Prop:=(∃ y:List Sp,x = .lst 3 (aT y) /\ y.length <= 1000000000) ∨ x = nilA
theorem SX.rn {x:AV} (h:SX x) (e:Int):∀ ρ,vV ρ (.dM [x,.v (.int .i64 e)]) = .dM [x,.v (.int .i64 e)]:=fun ρ=>by
 rcases h with ⟨y,rfl,_⟩ | rfl <;> rfl
theorem acG {Ls:List (List Sp)} {Ns:List Int} {a:List Sp} (hl:a.length + jf Ls <= 9999999) (ha:bT a <= 100000000) (ho:∀ s ∈ Ls,aC s = 0 -> aY dO s <= 1048576) (r:Int):∃ x e,BZ Ls Ns a r = .dM [x,.v (.int .i64 e)] /\ SX x:=by
 unfold BZ FD
 have hd:=jU Ls r.toNat
 by_cases h1:nI Ls Ns a r = 0
 · rw [if_pos h1]
   by_cases h2:Iw a (Ls.drop r.toNat) = 0
   · rw [if_pos h2]
     exact ⟨_,_,rfl,.inl ⟨_,rfl,by have:=(Ij h2 (by omega) ha (fun s h=>ho s (List.mem_of_mem_drop h))).1;omega⟩⟩
   · rw [if_neg h2];exact ⟨_,_,rfl,.inr rfl⟩
 · rw [if_neg h1];exact ⟨_,_,rfl,.inr rfl⟩
theorem Eo:∀ (L:List (List Sp)) (b:List Sp),b.length + jf L <= 10000000 -> bT b + lK L <= 100000000 -> (dR b L).2 = 0 -> (dR b L).1.length <= 10000000
 | [],b,h,_,_=>by show b.length <= _;omega
 | x :: L,b,h,ht,h0=>by
   rw [(eF x L).1] at h
   rw [(eF x L).2] at ht
   by_cases he:jr b x = 0
   · simp only [dR,he,if_true] at h0 ⊢
     obtain ⟨m1,m2⟩:=kT he (by omega) (by omega) (by omega)
     exact Eo L _ (by omega) (by omega) h0
   · simp only [dR,he,if_false] at h0
theorem Uz {Ls:List (List Sp)} {Ns:List Int} (hl:jf Ls <= 1000000) (ht:lK Ls <= 1000000) (r s:Int):∃ x e,Cb Ls Ns r s = .dM [x,.v (.int .i64 e)] /\ SX x:=by
 unfold Cb pW
 by_cases h1:0 <= r /\ r <= s /\ s <= Ls.length
 · rw [if_pos h1]
   by_cases h2:(dR (dH (Ns.getD r.toNat 0)) ((Ls.drop r.toNat).take (s.toNat - r.toNat))).2 = 0
   · rw [if_pos h2]
     obtain ⟨k4,k5⟩:=uj (Ns.getD r.toNat 0)
     obtain ⟨l1,l1'⟩:=lZ (Ls.drop r.toNat) (s.toNat - r.toNat)
     have l2:=jU Ls r.toNat
     have l3:=uo Ls r.toNat
     exact ⟨_,_,rfl,.inl ⟨_,rfl,by have:=Eo _ _ (by omega) (by omega) h2;omega⟩⟩
   · rw [if_neg h2];exact ⟨_,_,rfl,.inr rfl⟩
 · rw [if_neg h1];exact ⟨_,_,rfl,.inr rfl⟩
theorem PI.asked {s:ByteArray} {Ls:List (List Sp)} {Ns:List Int} {Ts:List ByteArray} (h:PI s Ls Ns Ts) (A:List Sp) {r:Nat} (hr:r <= Ls.length) :
   ∃ u,(∀ hl:r < Ts.length,Ts[r] = u) /\ u.size <= 1000000 /\ (0 <= cO u /\ cO u <= 1048576) /\ (qY A (cO u)).length <= 13 /\ bT (qY A (cO u)) <= 312 /\ ∃ y:List Sp,BZ Ls Ns (qY A (cO u)) r = .dM [.lst 3 (aT y),.v (.int .i64 0)] /\ y.length <= 1000000000:=by
 have ht:=h.ts
 have hlt:r < Ts.length:=by omega
 obtain ⟨v1,v2⟩:=h.val _ (List.getElem_mem hlt)
 have hz:=h.sz _ (List.getElem_mem hlt)
 have hn:=h.n
 have hc0:0 <= cO Ts[r]:=by show 0 <= bG _;rw [bH v1];omega
 obtain ⟨x1,x2⟩:=Lh A (n:=cO Ts[r]) ⟨hc0,v2⟩
 have x3:=KY A (n:=cO Ts[r]) ⟨hc0,v2⟩
 have x4:=SN A (n:=cO Ts[r]) ⟨hc0,v2⟩
 refine ⟨Ts[r],fun _=>rfl,by omega,⟨hc0,v2⟩,x1,x2,?_⟩
 generalize qY A (cO Ts[r]) = x at *
 have e1:Ns.getD r 0 = cO Ts[r]:=by
   rw [h.nt,List.getD_eq_getElem?_getD,List.getElem?_map,List.getElem?_eq_getElem hlt];rfl
 have e2:Ns.getD r 0 = pq (cO s) (Ls.take r):=by rw [h.szs,Ag _ _ _ hr]
 have aip:nI Ls Ns x r = 0:=by
   unfold nI
   rw [if_pos ⟨by omega,by omega⟩,if_neg (by simpa using x4),Int.toNat_natCast,e1,if_neg (by simpa using x3)]
 have hsz:=(nH h.seg r).2
 rw [<- e2,e1] at hsz
 have htm:Iw x (Ls.drop r) = 0:=by unfold Iw;rw [if_pos x4,x3];exact Em _ _ hsz
 have hd:=jU Ls r
 have hlen:=h.lens
 refine ⟨FC (norm x) (Ls.drop r),?_,by have:=(Ij htm (by omega) (by omega) (fun s hs=>h.may s (List.mem_of_mem_drop hs))).1;omega⟩
 unfold BZ FD
 rw [if_pos aip,Int.toNat_natCast,htm,if_pos rfl]
end Go.Proofs.YtadlnaljicikfaaDoor.aI
namespace Go.Proofs.YtadlnaljicikfaaDoor.aI
open Go
set_option maxRecDepth 100000
attribute [local irreducible] Ev.iH Ev.iR Ev.bY Ev.runK Ev.cu Ev.gK Ev.Side Ev.Wp Ev.Again Ev.To Ev.Fin
open Go.Lib Go.RowKit
def lM:Ev.Pl:=(.one 0 false (.one 1 false (.one 3 false (.one 4 false (.one 2 false (.one 5 false (.one 6 false (.one 7 false (.one 8 false (.one 9 false (.one 10 false (.one 12 false (.one 13 false (.one 14 false (.two 11 (.one 15 false (.one 16 false (.one 17 false (.one 18 false .fin)))) 15 (.one 16 false (.one 11 false (.one 17 false (.one 18 false .fin)))))))))))))))))))
theorem acH:∀ c,Tryd.f11.body = some c -> comp c = (.seq (.reg 0 [I.n 0 5 (.box 74 (.tmp 2)),I.n 1 6 (I.sb false)]) (.seq (.reg 1 [I.n 0 38 (I.c0 22),I.n 1 7 (I.sa 38)]) (.seq (.reg 2 [I.n 0 39 (I.mv 0),I.n 1 40 (I.mv 0),I.n 2 41 (I.ln 40 9),I.n 3 42 (.call { callee:=.builtin .min,args:=#[.tmp 41,.const (Value.int .i64 20)],argTypes:=#[3,3] }),I.n 4 43 (.slice 9 (.tmp 39) none (some (.tmp 42)) none),I.n 5 8 (I.sa 43)]) (.seq (.seq (.reg 3 [I.n 0 44 (I.mv 1),I.n 1 45 (I.ln 44 22),I.n 2 46 (I.bc .rem 3 45 2 3),I.n 3 47 (I.bc .eql 3 46 0 3)]) (.cond (.tmp 47) (.reg 4 [I.n 0 48 (I.mv 8),I.n 1 49 (I.c1 37 48 9),I.n 2 8 (I.sa 49)]) .skip)) (.seq (.reg 5 [I.n 0 51 (I.mv 8),I.n 1 52 (I.c1 24 51 9),I.n 2 50 (I.mv 52),I.n 3 53 (I.ex 50 0),I.n 4 54 (I.ex 50 1),I.n 5 9 (I.sa 53),I.n 6 10 (I.sa 54)]) (.seq (.reg 6 [I.n 0 56 (I.mv 8),I.n 1 57 (I.c1 50 56 9),I.n 2 55 (I.mv 57),I.n 3 58 (I.ex 55 0),I.n 4 59 (I.ex 55 1),I.n 5 11 (I.sa 58),I.n 6 12 (I.sa 59)]) (.seq (.seq (.reg 7 [I.n 0 60 (I.mv 7),I.n 1 61 (.unOp .not 4 (.tmp 60)),I.n 2 62 (I.mv 61),I.w 3 63 (I.mv 10) 62 false,I.w 4 64 (I.mv 12) 62 false,I.w 5 65 (I.bo .neq 30 63 64 30) 62 false,I.n 6 66 (I.pb 62 true 65),I.n 7 67 (I.mv 66),I.w 8 68 (I.mv 9) 67 false,I.w 9 69 (.binOp .eql 29 (.tmp 68) (.const (Value.pointer none)) 29) 67 false,I.w 10 70 (I.mv 10) 67 false,I.w 11 71 (I.bc .eql 30 70 0 30) 67 false,I.w 12 72 (I.bo .eql 4 69 71 4) 67 false,I.n 13 73 (I.pb 67 true 72)]) (.cond (.tmp 73) (.seq (.reg 8 [I.n 0 6 (I.sb false)]) .ret) .skip)) (.seq (.seq (.reg 9 [I.n 0 74 (I.mv 9),I.n 1 75 (.binOp .eql 29 (.tmp 74) (.const (Value.pointer none)) 29),I.n 2 76 (I.mv 75),I.w 3 77 (I.mv 11) 76 false,I.w 4 78 (.binOp .eql 75 (.tmp 77) (.const (Value.pointer none)) 75) 76 false,I.n 5 79 (I.pb 76 true 78)]) (.cond (.tmp 79) (.seq (.reg 10 [I.n 0 6 (I.sb true)]) .ret) .skip)) (.seq (.seq (.reg 11 [I.n 0 13 (I.si 0)]) (.block 0 (.loop (.seq (.seq (.reg 12 [I.n 0 80 (I.mv 13),I.n 1 81 (I.mv 1),I.n 2 82 (I.ln 81 22),I.n 3 83 (I.bo .lss 3 80 82 3),I.n 4 84 (I.mv 83),I.w 5 85 (I.mv 13) 84 true,I.w 6 86 (I.bc .lss 3 85 12 3) 84 true,I.n 7 87 (I.pc 84 86 false)]) (.cond (.tmp 87) .skip (.exit 0))) (.seq (.block 1 (.seq (.reg 14 [I.n 0 90 (I.mv 1),I.n 1 91 (I.mv 13),I.n 2 92 (I.ia 22 90 91),I.n 3 93 (I.ld 23 92),I.n 4 94 (I.c1 27 93 23),I.n 5 14 (I.sa 94)]) (.seq (.seq (.reg 15 [I.n 0 95 (I.mv 13),I.n 1 96 (I.bc .rem 3 95 3 3),I.n 2 97 (I.bc .neq 3 96 2 3)]) (.cond (.tmp 97) (.draw 16 [I.n 0 98 (I.mv 1),I.n 1 99 (I.mv 13),I.n 2 100 (I.ia 22 98 99),I.n 3 101 (I.ld 23 100),I.n 4 102 (I.mv 11),I.n 5 103 (I.nc 102),I.n 6 104 (I.fa 80 103 0),I.n 7 105 (I.ld 78 104),I.n 8 106 (I.mv 11),I.n 9 107 (I.nc 106),I.n 10 108 (I.fa 80 107 0),I.n 11 109 (I.ld 78 108),I.n 12 110 (I.ln 109 78),I.n 13 111 (I.bc .sub 3 110 1 3),I.n 14 112 (I.ia 78 105 111),I.n 15 113 (I.ld 9 112),I.n 16 114 (I.c1 32 113 9),I.n 17 115 (I.c2 31 101 114 23 3),I.n 18 14 (I.sa 115)] [[],[],[0,1],[2],[],[4],[5],[6],[],[8],[9],[10],[11],[12],[7,13],[14],[15],[3,16,16],[17,17,0,1,2,3,4,5,6,7,8,9,10,11,12,13,14,15,16,17]]) .skip)) (.seq (.draw 17 [I.n 0 116 (I.mv 9),I.n 1 117 (I.mv 14),I.n 2 118 (I.c2 25 116 117 29 23),I.n 3 119 (I.mv 11),I.n 4 120 (I.mv 14),I.n 5 121 (I.c2 51 119 120 75 23),I.n 6 122 (I.bo .neq 30 118 121 30),I.n 7 123 (I.mv 122),I.w 8 124 (I.mv 9) 123 false,I.w 9 125 (I.nc 124) 123 false,I.w 10 126 (I.fa 44 125 0) 123 false,I.w 11 127 (I.c1 29 126 42) 123 false,I.w 12 128 (I.mv 11) 123 false,I.w 13 129 (I.nc 128) 123 false,I.w 14 130 (I.fa 80 129 1) 123 false,I.w 15 131 (I.ld 22 130) 123 false,I.w 16 132 (I.ln 131 22) 123 false,I.w 17 133 (I.bo .neq 3 127 132 3) 123 false,I.n 18 134 (I.pb 123 true 133)] [[],[],[0,1],[],[],[3,4,2],[2,5],[6,5],[7],[8,7],[9,7],[10,7,7],[7],[12,7],[13,7],[14,7],[15,7],[11,16,7],[7,17]]) (.cond (.tmp 134) (.seq (.reg 18 [I.n 0 6 (I.sb false)]) .ret) .skip))))) (.reg 13 [I.n 0 88 (I.mv 13),I.n 1 89 (I.bc .add 3 88 1 3),I.n 2 13 (I.sa 89)])))))) (.seq (.reg 19 [I.n 0 135 (I.mv 11),I.n 1 136 (I.nc 135),I.n 2 137 (I.fa 80 136 1),I.n 3 138 (I.ld 22 137),I.n 4 139 (I.ln 138 22),I.n 5 140 (I.bc .add 3 139 1 3),I.n 6 15 (I.sa 140)]) (.seq (.reg 20 [I.n 0 141 (I.fa 74 5 1),I.n 1 142 (I.ld 3 141),I.n 2 143 (I.mv 15),I.n 3 144 (I.bo .rem 3 142 143 3),I.n 4 145 (I.mv 15),I.n 5 146 (I.bo .add 3 144 145 3),I.n 6 147 (I.mv 15),I.n 7 148 (I.bo .rem 3 146 147 3),I.n 8 16 (I.sa 148)]) (.seq (.draw 21 [I.n 0 149 (I.fa 74 5 0),I.n 1 150 (I.ld 23 149),I.n 2 151 (I.mv 11),I.n 3 152 (I.nc 151),I.n 4 153 (I.fa 80 152 0),I.n 5 154 (I.ld 78 153),I.n 6 155 (I.mv 16),I.n 7 156 (I.ia 78 154 155),I.n 8 157 (I.ld 9 156),I.n 9 158 (I.c1 32 157 9),I.n 10 159 (I.c2 31 150 158 23 3),I.n 11 17 (I.sa 159)] [[],[0],[],[2],[3],[4],[],[5,6],[7],[8],[1,9,9],[10,10,0,1,2,3,4,5,6,7,8,9,10]]) (.seq (.reg 22 [I.n 0 161 (I.mv 9),I.n 1 162 (I.mv 17),I.n 2 163 (I.mv 16),I.n 3 164 (.call { callee:=.value (.func 33),args:=#[.tmp 161,.tmp 162,.tmp 163],argTypes:=#[29,23,3] }),I.n 4 160 (I.mv 164),I.n 5 165 (I.ex 160 0),I.n 6 166 (I.ex 160 1),I.n 7 18 (I.sa 165),I.n 8 19 (I.sa 166)]) (.seq (.reg 23 [I.n 0 168 (I.mv 11),I.n 1 169 (I.mv 17),I.n 2 170 (I.mv 16),I.n 3 171 (.call { callee:=.value (.func 52),args:=#[.tmp 168,.tmp 169,.tmp 170],argTypes:=#[75,23,3] }),I.n 4 167 (I.mv 171),I.n 5 172 (I.ex 167 0),I.n 6 173 (I.ex 167 1),I.n 7 20 (I.sa 172),I.n 8 21 (I.sa 173)]) (.seq (.draw 24 [I.n 0 175 (I.mv 9),I.n 1 176 (I.fa 74 5 0),I.n 2 177 (I.ld 23 176),I.n 3 178 (I.c1 27 177 23),I.n 4 179 (I.fa 74 5 1),I.n 5 180 (I.ld 3 179),I.n 6 181 (.call { callee:=.value (.func 33),args:=#[.tmp 175,.tmp 178,.tmp 180],argTypes:=#[29,23,3] }),I.n 7 174 (I.mv 181),I.n 8 182 (I.ex 174 0),I.n 9 183 (I.ex 174 1),I.n 10 22 (I.sa 182),I.n 11 23 (I.sa 183)] [[],[],[1],[2],[],[4],[0,3,5,3],[6],[7],[7],[8,6,0,1,2,3,4,5,6,7,8],[9,10,0,1,2,3,4,5,6,7,8,9,10]]) (.seq (.draw 25 [I.n 0 185 (I.mv 11),I.n 1 186 (I.fa 74 5 0),I.n 2 187 (I.ld 23 186),I.n 3 188 (I.c1 27 187 23),I.n 4 189 (I.fa 74 5 1),I.n 5 190 (I.ld 3 189),I.n 6 191 (.call { callee:=.value (.func 52),args:=#[.tmp 185,.tmp 188,.tmp 190],argTypes:=#[75,23,3] }),I.n 7 184 (I.mv 191),I.n 8 192 (I.ex 184 0),I.n 9 193 (I.ex 184 1),I.n 10 24 (I.sa 192),I.n 11 25 (I.sa 193)] [[],[],[1],[2],[],[4],[0,3,5,3],[6],[7],[7],[8,6,0,1,2,3,4,5,6,7,8],[9,10,0,1,2,3,4,5,6,7,8,9,10]]) (.seq (.reg 26 [I.n 0 195 (I.mv 9),I.n 1 196 (I.fa 74 5 1),I.n 2 197 (I.ld 3 196),I.n 3 198 (I.c2 30 195 197 29 3),I.n 4 194 (I.mv 198),I.n 5 199 (I.ex 194 0),I.n 6 200 (I.ex 194 1),I.n 7 26 (I.sa 199),I.n 8 27 (I.sa 200)]) (.seq (.reg 27 [I.n 0 202 (I.mv 11),I.n 1 203 (I.fa 74 5 1),I.n 2 204 (I.ld 3 203),I.n 3 205 (I.c2 53 202 204 75 3),I.n 4 201 (I.mv 205),I.n 5 206 (I.ex 201 0),I.n 6 207 (I.ex 201 1),I.n 7 28 (I.sa 206),I.n 8 29 (I.sa 207)]) (.seq (.reg 28 [I.n 0 209 (I.mv 9),I.n 1 210 (I.fa 74 5 1),I.n 2 211 (I.ld 3 210),I.n 3 212 (I.fa 74 5 2),I.n 4 213 (I.ld 3 212),I.n 5 214 (.call { callee:=.value (.func 38),args:=#[.tmp 209,.tmp 211,.tmp 213],argTypes:=#[29,3,3] }),I.n 6 208 (I.mv 214),I.n 7 215 (I.ex 208 0),I.n 8 216 (I.ex 208 1),I.n 9 30 (I.sa 215),I.n 10 31 (I.sa 216)]) (.seq (.reg 29 [I.n 0 218 (I.mv 11),I.n 1 219 (I.fa 74 5 1),I.n 2 220 (I.ld 3 219),I.n 3 221 (I.fa 74 5 2),I.n 4 222 (I.ld 3 221),I.n 5 223 (.call { callee:=.value (.func 54),args:=#[.tmp 218,.tmp 220,.tmp 222],argTypes:=#[75,3,3] }),I.n 6 217 (I.mv 223),I.n 7 224 (I.ex 217 0),I.n 8 225 (I.ex 217 1),I.n 9 32 (I.sa 224),I.n 10 33 (I.sa 225)]) (.seq (.reg 30 [I.n 0 227 (I.mv 9),I.n 1 228 (I.mv 16),I.n 2 229 (I.mv 9),I.n 3 230 (I.nc 229),I.n 4 231 (I.fa 44 230 0),I.n 5 232 (I.c1 29 231 42),I.n 6 233 (.call { callee:=.value (.func 38),args:=#[.tmp 227,.tmp 228,.tmp 232],argTypes:=#[29,3,3] }),I.n 7 226 (I.mv 233),I.n 8 234 (I.ex 226 0),I.n 9 235 (I.ex 226 1),I.n 10 34 (I.sa 234),I.n 11 35 (I.sa 235)]) (.seq (.reg 31 [I.n 0 237 (I.mv 11),I.n 1 238 (I.mv 16),I.n 2 239 (I.mv 11),I.n 3 240 (I.nc 239),I.n 4 241 (I.fa 80 240 1),I.n 5 242 (I.ld 22 241),I.n 6 243 (I.ln 242 22),I.n 7 244 (.call { callee:=.value (.func 54),args:=#[.tmp 237,.tmp 238,.tmp 243],argTypes:=#[75,3,3] }),I.n 8 236 (I.mv 244),I.n 9 245 (I.ex 236 0),I.n 10 246 (I.ex 236 1),I.n 11 36 (I.sa 245),I.n 12 37 (I.sa 246)]) (.seq (.reg 32 [I.n 0 247 (I.mv 18),I.n 1 248 (I.mv 20),I.n 2 249 (I.c2 34 247 248 23 23),I.n 3 250 (I.mv 249),I.w 4 251 (I.mv 19) 250 true,I.w 5 252 (I.mv 21) 250 true,I.w 6 253 (I.bo .eql 30 251 252 30) 250 true,I.n 7 254 (I.pc 250 253 false),I.n 8 255 (I.mv 254),I.w 9 256 (I.mv 19) 255 true,I.w 10 257 (I.bc .eql 30 256 0 30) 255 true,I.n 11 258 (I.pc 255 257 false),I.n 12 259 (I.mv 258),I.w 13 260 (I.mv 22) 259 true,I.w 14 261 (I.mv 24) 259 true,I.w 15 262 (I.c2 34 260 261 23 23) 259 true,I.n 16 263 (I.pc 259 262 false),I.n 17 264 (I.mv 263),I.w 18 265 (I.mv 23) 264 true,I.w 19 266 (I.mv 25) 264 true,I.w 20 267 (I.bo .eql 30 265 266 30) 264 true,I.n 21 268 (I.pc 264 267 false),I.n 22 269 (I.mv 268),I.w 23 270 (I.mv 26) 269 true,I.w 24 271 (I.mv 28) 269 true,I.w 25 272 (I.bo .eql 9 270 271 9) 269 true,I.n 26 273 (I.pc 269 272 false),I.n 27 274 (I.mv 273),I.w 28 275 (I.mv 27) 274 true,I.w 29 276 (I.mv 29) 274 true,I.w 30 277 (I.bo .eql 30 275 276 30) 274 true,I.n 31 278 (I.pc 274 277 false),I.n 32 279 (I.mv 278),I.w 33 280 (I.mv 30) 279 true,I.w 34 281 (I.mv 32) 279 true,I.w 35 282 (I.c2 34 280 281 23 23) 279 true,I.n 36 283 (I.pc 279 282 false),I.n 37 284 (I.mv 283),I.w 38 285 (I.mv 31) 284 true,I.w 39 286 (I.mv 33) 284 true,I.w 40 287 (I.bo .eql 30 285 286 30) 284 true,I.n 41 288 (I.pc 284 287 false),I.n 42 289 (I.mv 288),I.w 43 290 (I.mv 34) 289 true,I.w 44 291 (I.mv 36) 289 true,I.w 45 292 (I.c2 34 290 291 23 23) 289 true,I.n 46 293 (I.pc 289 292 false),I.n 47 294 (I.mv 293),I.w 48 295 (I.mv 9) 294 true,I.w 49 296 (I.c1 26 295 29) 294 true,I.w 50 297 (I.mv 11) 294 true,I.w 51 298 (I.c1 55 297 75) 294 true,I.w 52 299 (I.c2 28 296 298 27 27) 294 true,I.n 53 300 (I.pc 294 299 false),I.n 54 6 (I.sa 300)]) .ret))))))))))))))))))))))):=by
 intro c h
 have:c = Tryd.f11.body.get rfl:=by rw [<- Option.some_inj,<- h];rfl
 rw [this];rfl
theorem SX.le {x:AV} (h:SX x):∃ y:List Sp,uy x (.lst 3 (aT y)) /\ SX (.lst 3 (aT y)):=by
 rcases h with ⟨y,rfl,hy⟩ | rfl
 · exact ⟨y,uy.refl _,.inl ⟨y,rfl,hy⟩⟩
 · exact ⟨[],uy.nil 3,.inl ⟨[],rfl,by simp⟩⟩
theorem Ai {x:AV} (h:SX x):aO env 34 [x,x] (fun r hs=>r = .v (.bool true) /\ hs = []):=by
 rcases h with ⟨y,rfl,hy⟩ | rfl
 · have:=yH y y hy
   simpa using this
 · refine (yH [] [] (by simp)).args rfl (fun i x x' h h'=>?_)
   match i with
   | 0=>simp at h h';subst h;subst h';exact Le.nil 3
   | 1=>simp at h h';subst h;subst h';exact Le.nil 3
   | i + 2=>simp at h
theorem aiq {r n:Int} (hn:0 < n /\ n <= 1000):∃ k:Nat,(IntKind.i64.wrap (r.tmod n + n)).tmod n = (k:Int) /\ (k:Int) < n:=by
 have h1:=Int.tmod_lt_of_pos r hn.1
 have h2 : -n < r.tmod n:=by
   have h3:=Int.tmod_eq_emod (a:=r) (b:=n)
   have h4:=Int.emod_nonneg r (show n ≠ 0 by omega)
   have h5:=Int.emod_lt_of_pos r hn.1
   split at h3 <;> omega
 have h6:IntKind.i64.wrap (r.tmod n + n) = r.tmod n + n:=bg (by omega)
 have h7:=Int.tmod_lt_of_pos (IntKind.i64.wrap (r.tmod n + n)) hn.1
 have h8:0 <= (IntKind.i64.wrap (r.tmod n + n)).tmod n:=Int.tmod_nonneg _ (by omega)
 exact ⟨((IntKind.i64.wrap (r.tmod n + n)).tmod n).toNat,by omega,by omega⟩
set_option maxHeartbeats 4000000 in
theorem xR (t:ByteArray) (l:List (List Sp)) (A:List Sp) (R S:Int):aO env 11 [.v (.string t),.lst 1 (aX l),.agg [.lst 3 (aT A),.v (.int .i64 R),.v (.int .i64 S)]] (fun x hs=>x = .v (.bool true) /\ hs = []):=by
  have hSh:=FI
  have hrl:=bW l
  have hx:(min (t.size:Int) 20).toNat = min t.size 20:=by omega
  have alq:(t.extract 0 (min (t.size:Int) 20).toNat).size <= 20:=by rw [ByteArray.size_extract];omega
  have hF:=GX (t.extract 0 (min (t.size:Int) 20).toNat) (by omega)
  have hu1:=SB (t.extract 0 (min (t.size:Int) 20).toNat) (by omega)
  refine Ev.fn [0,1,2,5,6,7,8,9,10,11,12,13,14,15,16,17,18,19,20,21,22,23,24,25,26,27,28,29,30,31,32,33,34,36,47,73,79,87,97,134] 0 [.tmp 6] Tryd.func11 (acH _ rfl) ?_
  repeat' (first | (with_reducible refine Ev.join (a:=.seq (.reg 3 _) _) (fun s=>∃ (c v:Nat) (u:ByteArray),s = ⟨[(1,.lst 1 (aX l)),(5,.ptr 0 v 0 0),(7,.v (.bool true)),(8,.v (.string u))],[(0,⟨3,74,v,0,true,[[.lst 3 (aT A),.v (.int .i64 R),.v (.int .i64 S)]]⟩)],c⟩ /\ u.size <= 4000) ?_ ?_) | refine' Ev.zP | refine' Ev.zS | ((with_reducible refine Ev.kr (hs:=[25,38,30,33,26,29,51,54,53,52,55]) (fun Q hQ=>?_));refine' Ev.zR) | ((with_reducible refine Ev.kZ 29 ?_);refine Ev.il 29 [0,2] [.tmp 2] Tryd.func29 (eG _ rfl) (fun aW=>?_)) | ((with_reducible refine Ev.ca0 ?_);(first | refine Ev.ca (hSh) ?_ | refine Ev.ca (hF) ?_);conv=>whnf) | ((with_reducible refine Ev.dG ?_);(first | refine Ev.dr 16 [25,38,30,33,26,29,51,54,53,52,55] [0,1,2,3,4,5,6,7,8,9,10,11,12,13,14,15,16,17,18] ?_ | refine Ev.dr 21 [25,38,30,33,26,29,51,54,53,52,55] [0,1,2,3,4,5,6,7,8,9,10,11] ?_ | refine Ev.dr 24 [25,38,30,33,26,29,51,54,53,52,55] [0,1,4,5,2,3,6,7,8,9,10,11] ?_ | refine Ev.dr 25 [25,38,30,33,26,29,51,54,53,52,55] [0,1,4,5,2,3,6,7,8,9,10,11] ?_);intro Q hQ;(simp only [Ev.aj,Ev.ak]);conv=>whnf) | ((with_reducible refine Ev.dG ?_);(first | refine Ev.Bq 17 [25,38,30,33,26,29,51,54,53,52,55] lM ?_);intro Q hQ;(simp only [Ev.dU,Ev.dA,Ev.dB,Ev.dV]);conv=>whnf) | ((with_reducible refine Ev.both ?_ ?_) <;> (conv=>whnf)) | refine' Ev.zT | fail)
  · refine Ev.zB ⟨?_,?_,?_,rfl,?_⟩
    exact hu1
  · refine Ev.zB ⟨?_,?_,?_,rfl,?_⟩
    omega
  rintro s1 ⟨c,v,u,rfl,hu⟩
  have hnn:newE u = newE u:=rfl
  by_cases hN:newE u = 0
  rotate_left
  · have hB1:=TY u (by omega) hN
    have hB2:=Un u (by omega) hN
    have hft:¬ (true == decide (newE u = 0)) = true:=by simp [hN]
    repeat' (first | (with_reducible refine Ev.aJ hnn ?_) | (with_reducible refine Ev.aF hnn ?_) | (with_reducible refine Ev.aP hN ?_) | (with_reducible refine Ev.aK hN ?_) | (with_reducible refine Ev.aP hft ?_) | (with_reducible refine Ev.aK hft ?_) | refine' Ev.zP | refine' Ev.zS | ((with_reducible refine Ev.kr (hs:=[25,38,30,33,26,29,51,54,53,52,55]) (fun Q hQ=>?_));refine' Ev.zR) | ((with_reducible refine Ev.kZ 29 ?_);refine Ev.il 29 [0,2] [.tmp 2] Tryd.func29 (eG _ rfl) (fun aW=>?_)) | ((with_reducible refine Ev.ca0 ?_);(first | refine Ev.ca (hB1) ?_ | refine Ev.ca (hB2) ?_);conv=>whnf) | ((with_reducible refine Ev.dG ?_);(first | refine Ev.dr 16 [25,38,30,33,26,29,51,54,53,52,55] [0,1,2,3,4,5,6,7,8,9,10,11,12,13,14,15,16,17,18] ?_ | refine Ev.dr 21 [25,38,30,33,26,29,51,54,53,52,55] [0,1,2,3,4,5,6,7,8,9,10,11] ?_ | refine Ev.dr 24 [25,38,30,33,26,29,51,54,53,52,55] [0,1,4,5,2,3,6,7,8,9,10,11] ?_ | refine Ev.dr 25 [25,38,30,33,26,29,51,54,53,52,55] [0,1,4,5,2,3,6,7,8,9,10,11] ?_);intro Q hQ;(simp only [Ev.aj,Ev.ak]);conv=>whnf) | ((with_reducible refine Ev.dG ?_);(first | refine Ev.Bq 17 [25,38,30,33,26,29,51,54,53,52,55] lM ?_);intro Q hQ;(simp only [Ev.dU,Ev.dA,Ev.dB,Ev.dV]);conv=>whnf) | ((with_reducible refine Ev.both ?_ ?_) <;> (conv=>whnf)) | refine' Ev.zT | fail)
    · rename_i hb
      exact absurd hb hft
    repeat' (first | (with_reducible refine Ev.aJ hnn ?_) | (with_reducible refine Ev.aF hnn ?_) | refine' Ev.zP | refine' Ev.zS | ((with_reducible refine Ev.kr (hs:=[25,38,30,33,26,29,51,54,53,52,55]) (fun Q hQ=>?_));refine' Ev.zR) | ((with_reducible refine Ev.kZ 29 ?_);refine Ev.il 29 [0,2] [.tmp 2] Tryd.func29 (eG _ rfl) (fun aW=>?_)) | ((with_reducible refine Ev.dG ?_);(first | refine Ev.dr 16 [25,38,30,33,26,29,51,54,53,52,55] [0,1,2,3,4,5,6,7,8,9,10,11,12,13,14,15,16,17,18] ?_ | refine Ev.dr 21 [25,38,30,33,26,29,51,54,53,52,55] [0,1,2,3,4,5,6,7,8,9,10,11] ?_ | refine Ev.dr 24 [25,38,30,33,26,29,51,54,53,52,55] [0,1,4,5,2,3,6,7,8,9,10,11] ?_ | refine Ev.dr 25 [25,38,30,33,26,29,51,54,53,52,55] [0,1,4,5,2,3,6,7,8,9,10,11] ?_);intro Q hQ;(simp only [Ev.aj,Ev.ak]);conv=>whnf) | ((with_reducible refine Ev.dG ?_);(first | refine Ev.Bq 17 [25,38,30,33,26,29,51,54,53,52,55] lM ?_);intro Q hQ;(simp only [Ev.dU,Ev.dA,Ev.dB,Ev.dV]);conv=>whnf) | ((with_reducible refine Ev.both ?_ ?_) <;> (conv=>whnf)) | refine' Ev.zT | fail)
    exact ⟨rfl,rfl⟩
  have hO1:=L8 u (by omega) hN
  have hO2:=XO u (by omega) hN
  have air:=PI.first hN hu
  have hff:¬ (false == decide ((0:Int) = 0)) = true:=by decide
  repeat' (first | (with_reducible refine Ev.join (a:=.seq (.reg 11 _) _) (fun st=>∃ (cc vb vl fl vs fs XR vt ft vl2 fl2 v5:Nat) (Ls:List (List Sp)) (Ns:List Int) (Ts:List ByteArray),st = ⟨[(5,.ptr 0 v5 0 0),(9,.ptr 2568 vb 0 0),(11,.ptr 3080 XR 0 0)],iD 2568 9100 2569 vb vl fl vs fs Ls Ns u ++ (jg 3080 3081 9101 XR vt ft vl2 fl2 Ts Ls ++ [(0,⟨3,74,v5,0,true,[[.lst 3 (aT A),.v (.int .i64 R),.v (.int .i64 S)]]⟩)]),cc⟩ /\ PI u Ls Ns Ts) ?_ ?_) | (with_reducible refine Ev.Ku 11 2568 9100 1 23 0 rfl rfl rfl ?_) | (with_reducible refine Ev.Ku 11 3080 9101 1 23 1 rfl rfl rfl ?_) | (with_reducible refine Ev.aP hff ?_) | (with_reducible refine Ev.aK hff ?_) | refine' Ev.zP | refine' Ev.zS | ((with_reducible refine Ev.kr (hs:=[25,38,30,33,26,29,51,54,53,52,55]) (fun Q hQ=>?_));refine' Ev.zR) | ((with_reducible refine Ev.kZ 29 ?_);refine Ev.il 29 [0,2] [.tmp 2] Tryd.func29 (eG _ rfl) (fun aW=>?_)) | ((refine Ev.mQ hO1 rfl (by simp) ⟨rfl,rfl,trivial⟩ ?_);conv=>whnf) | ((refine Ev.mQ hO2 rfl (by simp) ⟨rfl,rfl,trivial⟩ ?_);conv=>whnf) | ((with_reducible refine Ev.dG ?_);(first | refine Ev.dr 16 [25,38,30,33,26,29,51,54,53,52,55] [0,1,2,3,4,5,6,7,8,9,10,11,12,13,14,15,16,17,18] ?_ | refine Ev.dr 21 [25,38,30,33,26,29,51,54,53,52,55] [0,1,2,3,4,5,6,7,8,9,10,11] ?_ | refine Ev.dr 24 [25,38,30,33,26,29,51,54,53,52,55] [0,1,4,5,2,3,6,7,8,9,10,11] ?_ | refine Ev.dr 25 [25,38,30,33,26,29,51,54,53,52,55] [0,1,4,5,2,3,6,7,8,9,10,11] ?_);intro Q hQ;(simp only [Ev.aj,Ev.ak]);conv=>whnf) | ((with_reducible refine Ev.dG ?_);(first | refine Ev.Bq 17 [25,38,30,33,26,29,51,54,53,52,55] lM ?_);intro Q hQ;(simp only [Ev.dU,Ev.dA,Ev.dB,Ev.dV]);conv=>whnf) | ((with_reducible refine Ev.both ?_ ?_) <;> (conv=>whnf)) | refine' Ev.zT | fail)
  · rename_i hb
    exact absurd hb hff
  refine Ev.loop (fun k st=>∃ (i cc vb vl fl vs fs XR vt ft vl2 fl2 v5:Nat) (Ls:List (List Sp)) (Ns:List Int) (Ts:List ByteArray),st = ⟨[(1,.lst 1 (aX l)),(5,.ptr 0 v5 0 0),(9,.ptr 2568 vb 0 0),(11,.ptr 3080 XR 0 0),(13,.v (.int .i64 i))],iD 2568 9100 2569 vb vl fl vs fs Ls Ns u ++ (jg 3080 3081 9101 XR vt ft vl2 fl2 Ts Ls ++ [(0,⟨3,74,v5,0,true,[[.lst 3 (aT A),.v (.int .i64 R),.v (.int .i64 S)]]⟩)]),cc⟩ /\ PI u Ls Ns Ts /\ Ls.length <= i /\ i <= l.length /\ k + i = 12) ?_ ?_
  · refine Ev.zB ⟨12,0,?_,?_,?_,?_,?_,?_,?_,?_,?_,?_,?_,?_,[],[cO u],[u],rfl,?_⟩
    exact ⟨air,by simp,by omega,by omega⟩
  rintro k s1 ⟨i,cc,vb,vl,fl,vs,fs,XR,vt,ft,vl2,fl2,v5,Ls,Ns,Ts,rfl,rD,hLi,hil,hk⟩
  have hT:=rD.ts
  have hlen:=rD.lens
  have ait:=rD.n
  have htl:=nJ Ts
  by_cases hi:i < l.length /\ i < 12
  · obtain ⟨hi,als⟩:=hi
    have hii:(i:Int) < ((aX l).length:Int):=by omega
    have hjj:(i:Int) < 12:=by omega
    obtain ⟨k',rfl⟩:∃ k',k = k' + 1:=⟨k - 1,by omega⟩
    have hw:IntKind.i64.wrap ((i:Int) + 1) = ((i + 1:Nat):Int):=by rw [bg (by omega)];omega
    have acI:=Ci l[i]
    obtain ⟨ul,p1,p2,p3,p4⟩:=rD.last
    obtain ⟨v1,v2⟩:=rD.val ul p2
    have hz:=rD.sz ul p2
    have hc0:0 <= cO ul:=by show 0 <= bG _;rw [bH v1];omega
    have hlt:Ls.length < Ts.length:=by omega
    have hwr:IntKind.i64.wrap ((Ts.length:Int) - 1) = (Ls.length:Int):=by rw [bg (by omega)];omega
    have hsd:(IntKind.i64.wrap ((Ts.length:Int) - 1)).toNat < Ts.length:=by rw [hwr];omega
    have hsd2:(0 <= IntKind.i64.wrap ((Ts.length:Int) - 1) /\ IntKind.i64.wrap ((Ts.length:Int) - 1) < Ts.length):=by rw [hwr];omega
    have acJ:=jO ul (by omega)
    have UA:∀ h:(IntKind.i64.wrap ((Ts.length:Int) - 1)).toNat < Ts.length,aO env 32 [.v (.string (Ts[(IntKind.i64.wrap ((Ts.length:Int) - 1)).toNat]'h))] (fun r hs=>r = .v (.int .i64 (cO ul)) /\ hs = []):=fun h=>by
      have e:(Ts[(IntKind.i64.wrap ((Ts.length:Int) - 1)).toNat]'h) = ul:=by
        have e:(IntKind.i64.wrap ((Ts.length:Int) - 1)).toNat = Ls.length:=by rw [hwr];omega
        rw [<- p1 hlt];congr 1
      rw [e];exact acJ
    have hF4:=DT l[i] (cO ul) (by omega)
    obtain ⟨x1,x2⟩:=Lh l[i] (n:=cO ul) ⟨hc0,v2⟩
    repeat' (first | (with_reducible refine Ev.aJ hii ?_) | (with_reducible refine Ev.aF hii ?_) | (with_reducible refine Ev.aJ hjj ?_) | (with_reducible refine Ev.aF hjj ?_) | (with_reducible refine Ev.join (a:=.seq (.reg 15 _) _) (fun s=>∃ (cc:Nat) (w:List Sp),s = ⟨[(1,.lst 1 (aX l)),(5,.ptr 0 v5 0 0),(9,.ptr 2568 vb 0 0),(11,.ptr 3080 XR 0 0),(13,.v (.int .i64 i)),(14,.lst 3 (aT w))],iD 2568 9100 2569 vb vl fl vs fs Ls Ns u ++ (jg 3080 3081 9101 XR vt ft vl2 fl2 Ts Ls ++ [(0,⟨3,74,v5,0,true,[[.lst 3 (aT A),.v (.int .i64 R),.v (.int .i64 S)]]⟩)]),cc⟩ /\ w.length <= 20 /\ bT w <= 1200) ?_ ?_) | refine' Ev.zP | refine' Ev.zS | ((with_reducible refine Ev.kr (hs:=[25,38,30,33,26,29,51,54,53,52,55]) (fun Q hQ=>?_));refine' Ev.zR) | ((with_reducible refine Ev.kZ 29 ?_);refine Ev.il 29 [0,2] [.tmp 2] Tryd.func29 (eG _ rfl) (fun aW=>?_)) | ((with_reducible refine Ev.ca0 ?_);(first | refine Ev.ca (acI) ?_ | refine Ev.ca ((UA hsd)) ?_ | refine Ev.ca (hF4) ?_);conv=>whnf) | ((with_reducible refine Ev.dG ?_);(first | refine Ev.dr 16 [25,38,30,33,26,29,51,54,53,52,55] [0,1,2,3,4,5,6,7,8,9,10,11,12,13,14,15,16,17,18] ?_ | refine Ev.dr 21 [25,38,30,33,26,29,51,54,53,52,55] [0,1,2,3,4,5,6,7,8,9,10,11] ?_ | refine Ev.dr 24 [25,38,30,33,26,29,51,54,53,52,55] [0,1,4,5,2,3,6,7,8,9,10,11] ?_ | refine Ev.dr 25 [25,38,30,33,26,29,51,54,53,52,55] [0,1,4,5,2,3,6,7,8,9,10,11] ?_);intro Q hQ;(simp only [Ev.aj,Ev.ak]);conv=>whnf) | ((with_reducible refine Ev.dG ?_);(first | refine Ev.Bq 17 [25,38,30,33,26,29,51,54,53,52,55] lM ?_);intro Q hQ;(simp only [Ev.dU,Ev.dA,Ev.dB,Ev.dV]);conv=>whnf) | ((with_reducible refine Ev.both ?_ ?_) <;> (conv=>whnf)) | refine' Ev.zT | fail)
    · refine Ev.zB ⟨?_,(l[i].take 20).map (vF 60),rfl,?_⟩
      exact ⟨EZ l[i],Lj l[i]⟩
    · refine Ev.zB ⟨?_,qY l[i] (cO ul),rfl,?_⟩
      exact ⟨by omega,by omega⟩
    · exact Ev.Side.of hsd
    rintro s1 ⟨cc,w,rfl,hwl,hwt⟩
    have hNl:Ns.length = Ls.length + 1:=by rw [rD.nt];simpa using hT
    have hap:∀ h:Ns ≠ [],gq w (Ns.getLast h) = gq w (cO ul):=fun h=>by rw [p3 h]
    obtain ⟨e,he⟩:∃ e,gq w (cO ul) = e:=⟨_,rfl⟩
    rw [he] at hap
    obtain ⟨kG,Ns',Ts',q1,q2,q3,agH,hL'⟩:∃ kG Ns' Ts',(Ls ++ if e = 0 then [norm w] else []) = kG /\ (Ns ++ if e = 0 then [outW w] else []) = Ns' /\ (Ts ++ if e = 0 then [oL w ul] else []) = Ts' /\ PI u kG Ns' Ts' /\ kG.length <= Ls.length + 1:=by
      by_cases h0:e = 0
      · rw [if_pos h0,if_pos h0,if_pos h0]
        exact ⟨_,_,_,rfl,rfl,rfl,rD.next p1 ⟨hwl,hwt⟩ (he.trans h0) (by omega),by simp⟩
      · rw [if_neg h0,if_neg h0,if_neg h0]
        exact ⟨_,_,_,rfl,rfl,rfl,by simpa using rD,by simp⟩
    have hee:e = e:=rfl
    have hll:(kG.length:Int) = (kG.length:Int):=rfl
    repeat' (first | (with_reducible refine Ev.aJ hee ?_) | (with_reducible refine Ev.aF hee ?_) | (with_reducible refine Ev.aJ hll ?_) | (with_reducible refine Ev.aF hll ?_) | refine' Ev.zP | refine' Ev.zS | ((with_reducible refine Ev.kr (hs:=[25,38,30,33,26,29,51,54,53,52,55]) (fun Q hQ=>?_));refine' Ev.zR) | ((with_reducible refine Ev.kZ 29 ?_);refine Ev.il 29 [0,2] [.tmp 2] Tryd.func29 (eG _ rfl) (fun aW=>?_)) | ((((with_reducible refine Ev.gI ?_);refine Yd 2568 9100 2569 [(3080,_),(3081,_),(9101,_),(0,_)] (Ls:=Ls) (Ns:=Ns) (t:=u) (w:=w) (e:=e) (by decide) (by omega) (by omega) hNl (by omega) hap ⟨Ev.ah rfl rfl,Ev.ah rfl rfl,Ev.ah rfl rfl,trivial⟩ ⟨Ev.ah rfl rfl,Ev.ah rfl rfl,Ev.ah rfl rfl,Ev.ah rfl rfl,trivial⟩ ⟨rfl,rfl,rfl⟩ (fun iW vs' c' _=>?_);rw [q1,q2];conv=>whnf));conv=>whnf) | ((((with_reducible refine Ev.gI ?_);refine acE 3080 3081 9101 [(2568,_),(9100,_),(2569,_),(0,_)] (Ls:=Ls) (Ts:=Ts) (w:=w) (u:=ul) (e:=e) (by decide) (by omega) (by omega) hT (by omega) p1 he ⟨Ev.ah rfl rfl,Ev.ah rfl rfl,Ev.ah rfl rfl,trivial⟩ ⟨Ev.ah rfl rfl,Ev.ah rfl rfl,Ev.ah rfl rfl,Ev.ah rfl rfl,trivial⟩ ⟨rfl,rfl,rfl⟩ (fun vT iW c' _=>?_);rw [q1,q3];conv=>whnf));conv=>whnf) | ((with_reducible refine Ev.dG ?_);(first | refine Ev.dr 16 [25,38,30,33,26,29,51,54,53,52,55] [0,1,2,3,4,5,6,7,8,9,10,11,12,13,14,15,16,17,18] ?_ | refine Ev.dr 21 [25,38,30,33,26,29,51,54,53,52,55] [0,1,2,3,4,5,6,7,8,9,10,11] ?_ | refine Ev.dr 24 [25,38,30,33,26,29,51,54,53,52,55] [0,1,4,5,2,3,6,7,8,9,10,11] ?_ | refine Ev.dr 25 [25,38,30,33,26,29,51,54,53,52,55] [0,1,4,5,2,3,6,7,8,9,10,11] ?_);intro Q hQ;(simp only [Ev.aj,Ev.ak]);conv=>whnf) | ((with_reducible refine Ev.dG ?_);(first | refine Ev.Bq 17 [25,38,30,33,26,29,51,54,53,52,55] lM ?_);intro Q hQ;(simp only [Ev.dU,Ev.dA,Ev.dB,Ev.dV]);conv=>whnf) | ((with_reducible refine Ev.both ?_ ?_) <;> (conv=>whnf)) | refine' Ev.zT | fail)
    · refine Ev.zA (k') ⟨i + 1,?_,?_,?_,?_,?_,?_,?_,?_,?_,?_,?_,?_,kG,Ns',Ts',rfl,?_⟩
      exact ⟨agH,by omega,by omega,by omega⟩
    · refine Ev.zA (k') ⟨i + 1,?_,?_,?_,?_,?_,?_,?_,?_,?_,?_,?_,?_,kG,Ns',Ts',rfl,?_⟩
      exact ⟨agH,by omega,by omega,by omega⟩
  by_cases hi0:i < l.length
  · have hii:(i:Int) < ((aX l).length:Int):=by omega
    have hjj:¬ (i:Int) < 12:=by omega
    repeat' (first | (with_reducible refine Ev.aJ hii ?_) | (with_reducible refine Ev.aF hii ?_) | (with_reducible refine Ev.aP hjj ?_) | (with_reducible refine Ev.aK hjj ?_) | refine' Ev.zP | refine' Ev.zS | ((with_reducible refine Ev.kr (hs:=[25,38,30,33,26,29,51,54,53,52,55]) (fun Q hQ=>?_));refine' Ev.zR) | ((with_reducible refine Ev.kZ 29 ?_);refine Ev.il 29 [0,2] [.tmp 2] Tryd.func29 (eG _ rfl) (fun aW=>?_)) | ((with_reducible refine Ev.dG ?_);(first | refine Ev.dr 16 [25,38,30,33,26,29,51,54,53,52,55] [0,1,2,3,4,5,6,7,8,9,10,11,12,13,14,15,16,17,18] ?_ | refine Ev.dr 21 [25,38,30,33,26,29,51,54,53,52,55] [0,1,2,3,4,5,6,7,8,9,10,11] ?_ | refine Ev.dr 24 [25,38,30,33,26,29,51,54,53,52,55] [0,1,4,5,2,3,6,7,8,9,10,11] ?_ | refine Ev.dr 25 [25,38,30,33,26,29,51,54,53,52,55] [0,1,4,5,2,3,6,7,8,9,10,11] ?_);intro Q hQ;(simp only [Ev.aj,Ev.ak]);conv=>whnf) | ((with_reducible refine Ev.dG ?_);(first | refine Ev.Bq 17 [25,38,30,33,26,29,51,54,53,52,55] lM ?_);intro Q hQ;(simp only [Ev.dU,Ev.dA,Ev.dB,Ev.dV]);conv=>whnf) | ((with_reducible refine Ev.both ?_ ?_) <;> (conv=>whnf)) | refine' Ev.zT | fail)
    refine Ev.zB ⟨?_,?_,?_,?_,?_,?_,?_,?_,?_,?_,?_,?_,Ls,Ns,Ts,rfl,?_⟩
    exact rD
  · have hii:¬ (i:Int) < ((aX l).length:Int):=by omega
    repeat' (first | (with_reducible refine Ev.aP hii ?_) | (with_reducible refine Ev.aK hii ?_) | refine' Ev.zP | refine' Ev.zS | ((with_reducible refine Ev.kr (hs:=[25,38,30,33,26,29,51,54,53,52,55]) (fun Q hQ=>?_));refine' Ev.zR) | ((with_reducible refine Ev.kZ 29 ?_);refine Ev.il 29 [0,2] [.tmp 2] Tryd.func29 (eG _ rfl) (fun aW=>?_)) | ((with_reducible refine Ev.dG ?_);(first | refine Ev.dr 16 [25,38,30,33,26,29,51,54,53,52,55] [0,1,2,3,4,5,6,7,8,9,10,11,12,13,14,15,16,17,18] ?_ | refine Ev.dr 21 [25,38,30,33,26,29,51,54,53,52,55] [0,1,2,3,4,5,6,7,8,9,10,11] ?_ | refine Ev.dr 24 [25,38,30,33,26,29,51,54,53,52,55] [0,1,4,5,2,3,6,7,8,9,10,11] ?_ | refine Ev.dr 25 [25,38,30,33,26,29,51,54,53,52,55] [0,1,4,5,2,3,6,7,8,9,10,11] ?_);intro Q hQ;(simp only [Ev.aj,Ev.ak]);conv=>whnf) | ((with_reducible refine Ev.dG ?_);(first | refine Ev.Bq 17 [25,38,30,33,26,29,51,54,53,52,55] lM ?_);intro Q hQ;(simp only [Ev.dU,Ev.dA,Ev.dB,Ev.dV]);conv=>whnf) | ((with_reducible refine Ev.both ?_ ?_) <;> (conv=>whnf)) | refine' Ev.zT | fail)
    refine Ev.zB ⟨?_,?_,?_,?_,?_,?_,?_,?_,?_,?_,?_,?_,Ls,Ns,Ts,rfl,?_⟩
    exact rD
  rintro s1 ⟨cc,vb,vl,fl,vs,fs,XR,vt,ft,vl2,fl2,v5,Ls,Ns,Ts,rfl,rD⟩
  have hT:=rD.ts
  have hlen:=rD.lens
  have ait:=rD.n
  have htl:=nJ Ts
  have hNl:Ns.length = Ls.length + 1:=by rw [rD.nt];simpa using hT
  have hwn:IntKind.i64.wrap ((Ls.length:Int) + 1) = (Ls.length:Int) + 1:=bg (by omega)
  obtain ⟨r,hr,hrn⟩:=aiq (r:=R) (n:=(Ls.length:Int) + 1) (by omega)
  have hrl2:r <= Ls.length:=by omega
  have hne0:IntKind.i64.wrap ((Ls.length:Int) + 1) ≠ 0:=by omega
  have hru:(IntKind.i64.wrap (R.tmod (IntKind.i64.wrap ((Ls.length:Int) + 1)) + IntKind.i64.wrap ((Ls.length:Int) + 1))).tmod (IntKind.i64.wrap ((Ls.length:Int) + 1)) = (r:Int):=by rw [hwn];exact hr
  have acK:∀ t ∈ Ts,t.size <= 1000000000:=fun t ht=>by have:=rD.sz t ht;omega
  have acL:∀ t ∈ Ts,t.size <= 1000000000 /\ 0 <= cO t /\ cO t <= 1048576:=fun t ht=>by
    obtain ⟨v1,v2⟩:=rD.val t ht
    exact ⟨acK t ht,by show 0 <= bG _;rw [bH v1];omega,v2⟩
  have agI:∀ n ∈ Ns,0 <= n /\ n <= 1048576:=fun n hn=>by
    rw [rD.nt,List.mem_map] at hn
    obtain ⟨t,ht,rfl⟩:=hn
    exact (acL t ht).2
  have hxl:∀ x ∈ Ls,x.length <= 100000000:=fun x hx=>by have:=rD.each x hx;omega
  have hbt:∀ x ∈ Ls,bT x <= 100000000:=fun x hx=>by have:=rD.each x hx;omega
  have hsm:∀ x ∈ Ls,x.length <= 1000000000 /\ Small x:=fun x hx=>⟨by have:=rD.each x hx;omega,dD (by have:=rD.each x hx;omega)⟩
  have htt:rC Ls <= 14400:=hlen.2
  have hT0:∀ h:0 < Ts.length,Ts[0] = u:=fun h=>by
    have:=rD.all 0 (by omega)
    rw [getD_at h] at this
    exact (congrArg Prod.snd this).symm
  have hvu:validD u.data.toList = true:=by have:=(rD.val _ (List.getElem_mem (show 0 < Ts.length by omega))).1;rwa [hT0] at this
  obtain ⟨ur,y1,y2,y3,y4,y5,y,y6,y7⟩:=rD.asked A hrl2
  have acJ:=jO ur (by omega)
  have UA:∀ h:(r:Int).toNat < Ts.length,aO env 32 [.v (.string (Ts[(r:Int).toNat]'h))] (fun r hs=>r = .v (.int .i64 (cO ur)) /\ hs = []):=fun h=>by
    have e:(Ts[(r:Int).toNat]'h) = ur:=y1 h
    rw [e];exact acJ
  have hsd:(r:Int).toNat < Ts.length:=by omega
  have hF4:=DT A (cO ur) (by omega)
  have acI:=Ci A
  have w1:=EZ A
  have w2:=Lj A
  have hY:SX (.lst 3 (aT y)):=.inl ⟨y,rfl,y7⟩
  have hX2:BZ Ls (Ts.map cO) (qY A (cO ur)) r = .dM [.lst 3 (aT y),.v (.int .i64 0)]:=by rw [<- rD.nt];exact y6
  obtain ⟨z,ze,z1,z2⟩:=acG (Ls:=Ls) (Ns:=Ns) (a:=(A.take 20).map (vF 60)) (by omega) (by omega) rD.may R
  have z3:=z1
  rw [rD.nt] at z3
  obtain ⟨a,ae,hA1,hA2⟩:=rD.at hvu R
  obtain ⟨b,be,b1,b2⟩:=Uz (Ls:=Ls) (Ns:=Ns) (by omega) (by omega) R S
  have b3:=b1
  rw [rD.nt] at b3
  obtain ⟨d,de,d1,d2⟩:=Uz (Ls:=Ls) (Ns:=Ns) (by omega) (by omega) r Ls.length
  have d3:=d1
  rw [rD.nt] at d3
  obtain ⟨zz,zl,zs⟩:=z2.le
  obtain ⟨bb,bl,bs⟩:=b2.le
  obtain ⟨dd,dl,ds⟩:=d2.le
  have hS1:=Ai hY
  have hS2:=Ai zs
  have hS3:=Ai bs
  have hS4:=Ai ds
  have g1:((0:Int) = 0) = True:=by simp
  have g2:(ze = ze) = True:=by simp
  have hLS:LgS ⟨u,iw Ls.length,Ls⟩:=⟨by show u.size <= _;omega,by show (iw Ls.length).length <= _;rw [pX];omega,by show Ls.length <= _;omega,fun x hx=>⟨hxl x hx,(hsm x hx).2⟩⟩
  have UC:=Io ⟨u,iw Ls.length,Ls⟩ ⟨u,iw Ls.length,Ls⟩ hLS
  rw [Il] at UC
  unfold lgA at UC
  have q1:List.take (Ls.length + 1) (List.drop 0 (ints (iw Ls.length))) = ints (iw Ls.length):=by rw [List.drop_zero,List.take_of_length_le (by rw [iI,pX];omega)]
  have q2:List.take Ls.length (List.drop 0 (aX Ls)) = aX Ls:=by rw [List.drop_zero,List.take_of_length_le (by simp)]
  have acM:aO env 28 [.agg [.v (.string u),.lst 1 (List.take (Ls.length + 1) (List.drop 0 (ints (iw Ls.length)))),.lst 1 (List.take Ls.length (List.drop 0 (aX Ls)))],.agg [.v (.string u),.lst 1 (List.take (Ls.length + 1) (List.drop 0 (ints (iw Ls.length)))),.lst 1 (List.take Ls.length (List.drop 0 (aX Ls)))]] (fun r hs=>r = .v (.bool true) /\ hs = []):=by rw [q1,q2];exact UC
  repeat' (first | (with_reducible refine Ev.En 32 22 z (.lst 3 (aT zz)) rfl zl ?_) | (with_reducible refine Ev.En 32 24 z (.lst 3 (aT zz)) rfl zl ?_) | (with_reducible refine Ev.En 32 30 b (.lst 3 (aT bb)) rfl bl ?_) | (with_reducible refine Ev.En 32 32 b (.lst 3 (aT bb)) rfl bl ?_) | (with_reducible refine Ev.En 32 34 d (.lst 3 (aT dd)) rfl dl ?_) | (with_reducible refine Ev.En 32 36 d (.lst 3 (aT dd)) rfl dl ?_) | (rw [hru]) | refine' Ev.zP | refine' Ev.zS | ((with_reducible refine Ev.kr (hs:=[25,38,30,33,26,29,51,54,53,52,55]) (fun Q hQ=>?_));refine' Ev.zR) | ((with_reducible refine Ev.kZ 29 ?_);refine Ev.il 29 [0,2] [.tmp 2] Tryd.func29 (eG _ rfl) (fun aW=>?_)) | ((((with_reducible refine Ev.gI ?_);refine agA 2568 9100 2569 [(3080,_),(3081,_),(9101,_),(0,_)] (Ls:=Ls) (Ns:=Ns) (t:=u) (a:=qY A (cO ur)) (r:=(r:Int)) y6 (SX.rn (by assumption) _) (by decide) hNl (by omega) (by omega) hbt (by omega) rD.may ⟨Ev.ah rfl rfl,Ev.ah rfl rfl,Ev.ah rfl rfl,trivial⟩ ⟨Ev.ah rfl rfl,Ev.ah rfl rfl,Ev.ah rfl rfl,Ev.ah rfl rfl,trivial⟩ ⟨rfl,rfl,rfl⟩ (fun iq c' _=>?_);conv=>whnf));conv=>whnf) | ((((with_reducible refine Ev.gI ?_);refine Yf 3080 3081 9101 [(2568,_),(9100,_),(2569,_),(0,_)] (Ls:=Ls) (Ts:=Ts) (a:=qY A (cO ur)) (r:=(r:Int)) hX2 (SX.rn (by assumption) _) (by decide) hT acK (by omega) (by omega) hbt (by omega) rD.may ⟨Ev.ah rfl rfl,Ev.ah rfl rfl,Ev.ah rfl rfl,trivial⟩ ⟨Ev.ah rfl rfl,Ev.ah rfl rfl,Ev.ah rfl rfl,Ev.ah rfl rfl,trivial⟩ ⟨rfl,rfl,rfl⟩ (fun iq c' _=>?_);conv=>whnf));conv=>whnf) | ((((with_reducible refine Ev.gI ?_);refine agA 2568 9100 2569 [(3080,_),(3081,_),(9101,_),(0,_)] (Ls:=Ls) (Ns:=Ns) (t:=u) (a:=(A.take 20).map (vF 60)) (r:=R) z1 (SX.rn (by assumption) _) (by decide) hNl (by omega) (by omega) hbt (by omega) rD.may ⟨Ev.ah rfl rfl,Ev.ah rfl rfl,Ev.ah rfl rfl,trivial⟩ ⟨Ev.ah rfl rfl,Ev.ah rfl rfl,Ev.ah rfl rfl,Ev.ah rfl rfl,trivial⟩ ⟨rfl,rfl,rfl⟩ (fun iq c' _=>?_);conv=>whnf));conv=>whnf) | ((((with_reducible refine Ev.gI ?_);refine Yf 3080 3081 9101 [(2568,_),(9100,_),(2569,_),(0,_)] (Ls:=Ls) (Ts:=Ts) (a:=(A.take 20).map (vF 60)) (r:=R) z3 (SX.rn (by assumption) _) (by decide) hT acK (by omega) (by omega) hbt (by omega) rD.may ⟨Ev.ah rfl rfl,Ev.ah rfl rfl,Ev.ah rfl rfl,trivial⟩ ⟨Ev.ah rfl rfl,Ev.ah rfl rfl,Ev.ah rfl rfl,Ev.ah rfl rfl,trivial⟩ ⟨rfl,rfl,rfl⟩ (fun iq c' _=>?_);conv=>whnf));conv=>whnf) | ((((with_reducible refine Ev.gI ?_);refine ail 2568 9100 2569 [(3080,_),(3081,_),(9101,_),(0,_)] (Ls:=Ls) (Ns:=Ns) (t:=u) hA1 (fun ρ=>rfl) (by decide) hxl (by omega) (by omega) ⟨Ev.ah rfl rfl,Ev.ah rfl rfl,Ev.ah rfl rfl,trivial⟩ ⟨Ev.ah rfl rfl,Ev.ah rfl rfl,Ev.ah rfl rfl,Ev.ah rfl rfl,trivial⟩ ⟨rfl,rfl,rfl⟩ (fun iq c' _=>?_);conv=>whnf));conv=>whnf) | ((((with_reducible refine Ev.gI ?_);refine agF 3080 3081 9101 [(2568,_),(9100,_),(2569,_),(0,_)] (Ls:=Ls) (Ts:=Ts) hA2 (fun ρ=>rfl) (by decide) hT ⟨Ev.ah rfl rfl,Ev.ah rfl rfl,Ev.ah rfl rfl,trivial⟩ ⟨Ev.ah rfl rfl,Ev.ah rfl rfl,Ev.ah rfl rfl,Ev.ah rfl rfl,trivial⟩ ⟨rfl,rfl,rfl⟩ (fun c' _=>?_);conv=>whnf));conv=>whnf) | ((((with_reducible refine Ev.gI ?_);refine abW 2568 9100 2569 [(3080,_),(3081,_),(9101,_),(0,_)] (Ls:=Ls) (Ns:=Ns) (t:=u) b1 (SX.rn (by assumption) _) (by decide) hNl agI (by omega) (by omega) (by omega) ⟨Ev.ah rfl rfl,Ev.ah rfl rfl,Ev.ah rfl rfl,trivial⟩ ⟨Ev.ah rfl rfl,Ev.ah rfl rfl,Ev.ah rfl rfl,Ev.ah rfl rfl,trivial⟩ ⟨rfl,rfl,rfl⟩ (fun iq c' _=>?_);conv=>whnf));conv=>whnf) | ((((with_reducible refine Ev.gI ?_);refine Yg 3080 3081 9101 [(2568,_),(9100,_),(2569,_),(0,_)] (Ls:=Ls) (Ts:=Ts) b3 (SX.rn (by assumption) _) (by decide) hT acL (by omega) (by omega) (by omega) hsm ⟨Ev.ah rfl rfl,Ev.ah rfl rfl,Ev.ah rfl rfl,trivial⟩ ⟨Ev.ah rfl rfl,Ev.ah rfl rfl,Ev.ah rfl rfl,Ev.ah rfl rfl,trivial⟩ ⟨rfl,rfl,rfl⟩ (fun iq c' _=>?_);conv=>whnf));conv=>whnf) | ((((with_reducible refine Ev.gI ?_);refine abW 2568 9100 2569 [(3080,_),(3081,_),(9101,_),(0,_)] (Ls:=Ls) (Ns:=Ns) (t:=u) d1 (SX.rn (by assumption) _) (by decide) hNl agI (by omega) (by omega) (by omega) ⟨Ev.ah rfl rfl,Ev.ah rfl rfl,Ev.ah rfl rfl,trivial⟩ ⟨Ev.ah rfl rfl,Ev.ah rfl rfl,Ev.ah rfl rfl,Ev.ah rfl rfl,trivial⟩ ⟨rfl,rfl,rfl⟩ (fun iq c' _=>?_);conv=>whnf));conv=>whnf) | ((((with_reducible refine Ev.gI ?_);refine Yg 3080 3081 9101 [(2568,_),(9100,_),(2569,_),(0,_)] (Ls:=Ls) (Ts:=Ts) d3 (SX.rn (by assumption) _) (by decide) hT acL (by omega) (by omega) (by omega) hsm ⟨Ev.ah rfl rfl,Ev.ah rfl rfl,Ev.ah rfl rfl,trivial⟩ ⟨Ev.ah rfl rfl,Ev.ah rfl rfl,Ev.ah rfl rfl,Ev.ah rfl rfl,trivial⟩ ⟨rfl,rfl,rfl⟩ (fun iq c' _=>?_);conv=>whnf));conv=>whnf) | ((((with_reducible refine Ev.gI ?_);refine agE 2568 9100 2569 20000 20001 [(3080,_),(3081,_),(9101,_),(0,_)] (Ls:=Ls) (Ns:=Ns) (t:=u) (by decide) hxl (by omega) ⟨Ev.ah rfl rfl,Ev.ah rfl rfl,Ev.ah rfl rfl,trivial⟩ ⟨Ev.ah rfl rfl,Ev.ah rfl rfl,Ev.ah rfl rfl,Ev.ah rfl rfl,trivial⟩ ⟨rfl,rfl,rfl,rfl,rfl⟩ (fun v1 v2 c' _=>?_);conv=>whnf));conv=>whnf) | ((((with_reducible refine Ev.gI ?_);refine acF 3080 3081 9101 20002 20003 [(2568,_),(9100,_),(2569,_),(0,_),(20000,_),(20001,_)] (Ls:=Ls) (Ts:=Ts) (u:=u) (by decide) hxl (by omega) hT0 (by omega) ⟨Ev.ah rfl rfl,Ev.ah rfl rfl,Ev.ah rfl rfl,trivial⟩ ⟨Ev.ah rfl rfl,Ev.ah rfl rfl,Ev.ah rfl rfl,Ev.ah rfl rfl,Ev.ah rfl rfl,Ev.ah rfl rfl,trivial⟩ ⟨rfl,rfl,rfl,rfl,rfl⟩ (fun v1 v2 c' _=>?_);conv=>whnf));conv=>whnf) | ((with_reducible refine Ev.ca0 ?_);(first | refine Ev.ca (acI) ?_ | refine Ev.ca ((UA hsd)) ?_ | refine Ev.ca (hF4) ?_ | refine Ev.ca (hS1) ?_ | refine Ev.ca (hS2) ?_ | refine Ev.ca (hS3) ?_ | refine Ev.ca (hS4) ?_ | refine Ev.ca (acM) ?_);conv=>whnf) | ((with_reducible refine Ev.dG ?_);(first | refine Ev.dr 16 [25,38,30,33,26,29,51,54,53,52,55] [0,1,2,3,4,5,6,7,8,9,10,11,12,13,14,15,16,17,18] ?_ | refine Ev.dr 21 [25,38,30,33,26,29,51,54,53,52,55] [0,1,2,3,4,5,6,7,8,9,10,11] ?_ | refine Ev.dr 24 [25,38,30,33,26,29,51,54,53,52,55] [0,1,4,5,2,3,6,7,8,9,10,11] ?_ | refine Ev.dr 25 [25,38,30,33,26,29,51,54,53,52,55] [0,1,4,5,2,3,6,7,8,9,10,11] ?_);intro Q hQ;(simp only [Ev.aj,Ev.ak]);conv=>whnf) | ((with_reducible refine Ev.dG ?_);(first | refine Ev.Bq 17 [25,38,30,33,26,29,51,54,53,52,55] lM ?_);intro Q hQ;(simp only [Ev.dU,Ev.dA,Ev.dB,Ev.dV]);conv=>whnf) | ((with_reducible refine Ev.both ?_ ?_) <;> (conv=>whnf)) | refine' Ev.zT | fail)
  all_goals first
    | exact ⟨rfl,rfl⟩
    | exact Ev.Side.of (by rw [iI,pX];omega)
    | exact absurd rfl (by assumption)
end Go.Proofs.YtadlnaljicikfaaDoor.aI
