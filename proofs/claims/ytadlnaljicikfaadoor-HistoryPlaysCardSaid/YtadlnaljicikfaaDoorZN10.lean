/- A part of the proof: a calculus over values, and contracts of functions. No condition. -/
import Derived.Test.YtadlnaljicikfaaDoorZN9
set_option linter.unusedVariables false
set_option linter.unusedSimpArgs false
namespace Go.Proofs.YtadlnaljicikfaaDoor.aI
open Go
set_option maxRecDepth 100000
attribute [local irreducible] Ev.iH Ev.iR Ev.bY Ev.runK Ev.cu Ev.gK Ev.Side Ev.Wp Ev.Again Ev.To Ev.Fin
open Go.Lib Go.RowKit
theorem TP:∀ c,Tryd.f63.body = some c -> comp c = (.seq (.reg 0 [I.n 0 4 I.sn,I.n 1 5 (I.si 0)]) (.seq (.reg 1 [I.n 0 9 (I.mv 0),I.n 1 10 (I.c1 111 9 3),I.n 2 8 (I.mv 10),I.n 3 11 (I.ex 8 0),I.n 4 12 (I.ex 8 1),I.n 5 6 (I.sa 11),I.n 6 7 (I.sa 12)]) (.seq (.seq (.reg 2 [I.n 0 13 (I.mv 7),I.n 1 14 (I.bc .neq 30 13 0 30)]) (.cond (.tmp 14) (.seq (.reg 3 [I.n 0 15 (I.mv 7),I.n 1 4 I.sn,I.n 2 5 (I.sa 15)]) .ret) .skip)) (.seq (.reg 4 [I.n 0 16 (I.mv 6),I.n 1 17 (I.mv 1),I.n 2 18 (.call { callee:=.value (.func 112),args:=#[.tmp 16,.tmp 17,.func 113],argTypes:=#[23,22,52] }),I.n 3 19 (I.ex 18 0),I.n 4 20 (I.ex 18 1),I.n 5 4 (I.sa 19),I.n 6 5 (I.sa 20)]) .ret)))):=by
 intro c h
 have:c = Tryd.f63.body.get rfl:=by rw [<- Option.some_inj,<- h];rfl
 rw [this];rfl
def dH (n:Int):List Sp:=if n = 0 then [] else [⟨1,n,⟨#[]⟩⟩]
theorem uj (n:Int):bT (dH n) = 0 /\ (dH n).length <= 1:=by
 unfold dH;split
 · exact ⟨rfl,by simp⟩
 · exact ⟨rfl,by simp⟩
theorem BU (n:Int) (hn:0 <= n /\ n <= 1048576):aO env 111 [.v (.int .i64 n)] (fun r hs=>r = .dM [.lst 3 (aT (dH n)),.v (.int .i64 0)] /\ hs = []):=by
 refine aO.Qw (OY n) ?_
 have e:zn n = 0:=by unfold zn;rw [if_neg (by omega)]
 rw [e]
 unfold keepA dH
 rw [if_neg (by omega)]
 by_cases h:n = 0
 · rw [if_pos h,if_pos h];exact uy.adR (uy.nil 3) (uy.refl _)
 · rw [if_neg h,if_neg h];exact uy.refl _
theorem abl{G:Prop}(h:G:=by (repeat' (first | refine' Ev.zP | refine' Ev.zS | refine' Ev.zK | ((with_reducible refine Ev.ca0 ?_);(first | refine Ev.ca (hK) ?_ | refine Ev.ca (hF) ?_);conv=>whnf) | refine' Ev.zT | fail));all_goals(rcases(⟨_⟩:PLift _)with⟨h⟩;exact h)):G:=h
theorem Pv (n:Int) (hn:0 <= n /\ n <= 1048576) (L:List (List Sp)) (hl:jf L <= 9999999) (hb:lK L <= 100000000) (hL:L.length <= 10000000) :
   aO env 63 [.v (.int .i64 n),.lst 1 (aX L)] (fun r hs=>r = pW (dH n) L /\ hs = []):=by
 have hK:=BU n hn
 obtain ⟨k1,k2⟩:=uj n
 have hF:=Pq L (dH n) (by omega) (by omega) hL
 have hR:pW (dH n) L = .dM [if (dR (dH n) L).2 = 0 then .lst 3 (aT (dR (dH n) L).1) else nilA,.v (.int .i64 (dR (dH n) L).2)]:=rfl
 generalize dR (dH n) L = G at *
 by_cases hG:G.2 = 0
 · rw [if_pos hG] at hR
   rw [hR] at hF ⊢
   refine Ev.fn [0,1,4,5,6,7,14] 0 [.tmp 4,.tmp 5] Tryd.func63 (TP _ rfl) ?_
   refine' abl
   all_goals exact ⟨rfl,rfl⟩
 · rw [if_neg hG] at hR
   rw [hR] at hF ⊢
   refine Ev.fn [0,1,4,5,6,7,14] 0 [.tmp 4,.tmp 5] Tryd.func63 (TP _ rfl) ?_
   refine' abl
   all_goals exact ⟨rfl,rfl⟩
theorem XF:∀ c,Tryd.f147.body = some c -> comp c = (.seq (.reg 0 [I.n 0 4 (I.si 0),I.n 1 5 (I.si 0)]) (.seq (.reg 1 [I.n 0 11 (I.mv 0),I.n 1 12 (I.c1 148 11 3),I.n 2 10 (I.mv 12),I.n 3 13 (I.ex 10 0),I.n 4 14 (I.ex 10 1),I.n 5 6 (I.sa 13),I.n 6 7 (I.sa 14)]) (.seq (.seq (.reg 2 [I.n 0 15 (I.mv 7),I.n 1 16 (I.bc .neq 30 15 0 30)]) (.cond (.tmp 16) (.seq (.reg 3 [I.n 0 17 (I.mv 7),I.n 1 4 (I.si 0),I.n 2 5 (I.sa 17)]) .ret) .skip)) (.seq (.seq (.reg 4 [I.n 0 8 (I.si 0)]) (.block 0 (.loop (.seq (.seq (.reg 5 [I.n 0 18 (I.mv 8),I.n 1 19 (I.mv 1),I.n 2 20 (I.ln 19 22),I.n 3 21 (I.bo .lss 3 18 20 3)]) (.cond (.tmp 21) .skip (.exit 0))) (.seq (.block 1 (.seq (.reg 7 [I.n 0 24 (I.mv 1),I.n 1 25 (I.mv 8),I.n 2 26 (I.ia 22 24 25),I.n 3 27 (I.ld 23 26),I.n 4 28 (I.c1 100 27 23),I.n 5 9 (I.sa 28)]) (.seq (.seq (.reg 8 [I.n 0 29 (I.mv 9),I.n 1 30 (I.bc .neq 30 29 0 30)]) (.cond (.tmp 30) (.seq (.reg 9 [I.n 0 31 (I.mv 9),I.n 1 4 (I.si 0),I.n 2 5 (I.sa 31)]) .ret) .skip)) (.seq (.seq (.reg 10 [I.n 0 32 (I.mv 1),I.n 1 33 (I.mv 8),I.n 2 34 (I.ia 22 32 33),I.n 3 35 (I.ld 23 34),I.n 4 36 (I.c1 101 35 23),I.n 5 37 (I.mv 0),I.n 6 38 (I.bo .neq 3 36 37 3)]) (.cond (.tmp 38) (.seq (.reg 11 [I.n 0 4 (I.si 0),I.n 1 5 (I.si 5)]) .ret) .skip)) (.reg 12 [I.n 0 39 (I.mv 1),I.n 1 40 (I.mv 8),I.n 2 41 (I.ia 22 39 40),I.n 3 42 (I.ld 23 41),I.n 4 43 (I.c1 102 42 23),I.n 5 0 (I.sa 43)]))))) (.reg 6 [I.n 0 22 (I.mv 8),I.n 1 23 (I.bc .add 3 22 1 3),I.n 2 8 (I.sa 23)])))))) (.seq (.reg 13 [I.n 0 44 (I.mv 0),I.n 1 4 (I.sa 44),I.n 2 5 (I.si 0)]) .ret))))):=by
 intro c h
 have:c = Tryd.f147.body.get rfl:=by rw [<- Option.some_inj,<- h];rfl
 rw [this];rfl
theorem LW:∀ c,Tryd.f105.body = some c -> comp c = (.seq (.reg 0 [I.n 0 4 I.sn,I.n 1 5 (I.si 0)]) (.seq (.reg 1 [I.n 0 12 (I.mv 0),I.n 1 13 (I.mv 1),I.n 2 14 (I.c2 147 12 13 3 22),I.n 3 11 (I.mv 14),I.n 4 15 (I.ex 11 0),I.n 5 16 (I.ex 11 1),I.n 6 6 (I.sa 15),I.n 7 7 (I.sa 16)]) (.seq (.seq (.reg 2 [I.n 0 17 (I.mv 7),I.n 1 18 (I.bc .neq 30 17 0 30)]) (.cond (.tmp 18) (.seq (.reg 3 [I.n 0 19 (I.mv 7),I.n 1 4 I.sn,I.n 2 5 (I.sa 19)]) .ret) .skip)) (.seq (.reg 4 [I.n 0 21 (I.mv 0),I.n 1 22 (I.c1 148 21 3),I.n 2 20 (I.mv 22),I.n 3 23 (I.ex 20 0),I.n 4 24 (I.ex 20 1),I.n 5 8 (I.sa 23),I.n 6 9 (I.sa 24)]) (.seq (.seq (.reg 5 [I.n 0 10 (I.si 0)]) (.block 0 (.loop (.seq (.seq (.reg 6 [I.n 0 25 (I.mv 10),I.n 1 26 (I.mv 1),I.n 2 27 (I.ln 26 22),I.n 3 28 (I.bo .lss 3 25 27 3)]) (.cond (.tmp 28) .skip (.exit 0))) (.seq (.block 1 (.reg 8 [I.n 0 32 (I.mv 8),I.n 1 33 (I.mv 1),I.n 2 34 (I.mv 10),I.n 3 35 (I.ia 22 33 34),I.n 4 36 (I.ld 23 35),I.n 5 37 (I.c2 149 32 36 23 23),I.n 6 31 (I.mv 37),I.n 7 38 (I.ex 31 0),I.n 8 39 (I.ex 31 1),I.n 9 8 (I.sa 38)])) (.reg 7 [I.n 0 29 (I.mv 10),I.n 1 30 (I.bc .add 3 29 1 3),I.n 2 10 (I.sa 30)])))))) (.seq (.reg 9 [I.n 0 40 (I.mv 8),I.n 1 4 (I.sa 40),I.n 2 5 (I.si 0)]) .ret)))))):=by
 intro c h
 have:c = Tryd.f105.body.get rfl:=by rw [<- Option.some_inj,<- h];rfl
 rw [this];rfl
def gG:Int -> List (List Sp) -> Int × Int
 | n,[]=>(n,0)
 | n,x :: l=>if aC x = 0 then (if iT x = n then gG (outW x) l else (0,5)) else (0,aC x)
def zC (n:Int) (L:List (List Sp)):AV:=.dM [.v (.int .i64 (gG n L).1),.v (.int .i64 (gG n L).2)]
theorem zD (n:Int) (hn:0 <= n /\ n <= 1048576):aO env 148 [.v (.int .i64 n)] (fun r hs=>r = .dM [.lst 3 (aT (dH n)),.v (.int .i64 0)] /\ hs = []):=by
 refine aO.Qw (G6 n) ?_
 have e:zn n = 0:=by unfold zn;rw [if_neg (by omega)]
 rw [e]
 unfold keepA dH
 rw [if_neg (by omega)]
 by_cases h:n = 0
 · rw [if_pos h,if_pos h];exact uy.adR (uy.nil 3) (uy.refl _)
 · rw [if_neg h,if_neg h];exact uy.refl _
theorem ad2{G:Prop}(h:G:=by exact ⟨by unfold zC;rw [<- hf];rfl,rfl⟩):G:=h
theorem zF (n:Int) (hn:0 <= n /\ n <= 1048576) (L:List (List Sp)) (hb:∀ x ∈ L,x.length <= 1000000000 /\ Small x) (hL:L.length <= 10000000) :
   aO env 147 [.v (.int .i64 n),.lst 1 (aX L)] (fun r hs=>r = zC n L /\ hs = []):=by
 have hK:=zD n hn
 have hrl:=bW L
 refine Ev.fn [0,1,4,5,7,8,9,16,21,30,38] 0 [.tmp 4,.tmp 5] Tryd.func147 (XF _ rfl) ?_
 repeat' (first | refine' Ev.zP | refine' Ev.zS | refine' Ev.zK | ((with_reducible refine Ev.ca0 ?_);(first | refine Ev.ca (hK) ?_);conv=>whnf) | refine' Ev.zT | fail)
 refine Ev.loop (fun k s=>∃ (i c:Nat) (m:Int),s = ⟨[(0,.v (.int .i64 m)),(1,.lst 1 (aX L)),(8,.v (.int .i64 i))],[],c⟩ /\ k + i = L.length /\ gG m (L.drop i) = gG n L) ?_ ?_
 · refine Ev.zB ⟨L.length,0,?_,n,rfl,?_⟩
   exact ⟨by omega,rfl⟩
 rintro k s1 ⟨i,c,m,rfl,hk,hf⟩
 by_cases hi:i < L.length
 · have hii:(i:Int) < ((aX L).length:Int):=by omega
   refine' ahb
   rw [List.drop_eq_getElem_cons hi] at hf
   obtain ⟨b1,b2⟩:=hb L[i] (List.getElem_mem hi)
   have hM:=fV L[i] b1 b2
   have hI:=iO L[i] b1
   have hO:=qJ L[i] b1 b2
   simp only [gG] at hf
   by_cases h1:aC L[i] = 0
   · rw [h1] at hM
     rw [if_pos h1] at hf
     by_cases h2:sumW (fun s=>kN s.k s.n) L[i] = m
     · rw [if_pos (show iT L[i] = m from h2)] at hf
       repeat' (first | refine' Ev.zP | (with_reducible refine Ev.aJ h2 ?_) | (with_reducible refine Ev.aF h2 ?_) | (with_reducible refine Ev.aJ hii ?_) | (with_reducible refine Ev.aF hii ?_) | refine' Ev.zS | refine' Ev.zK | ((with_reducible refine Ev.ca0 ?_);(first | refine Ev.ca (hM) ?_ | refine Ev.ca (hI) ?_ | refine Ev.ca (hO) ?_);conv=>whnf) | refine' Ev.zT | fail)
       refine Ev.zA (k') ⟨i + 1,?_,outW L[i],rfl,?_⟩
       exact ⟨by omega,hf⟩
     · rw [if_neg (show ¬ iT L[i] = m from h2)] at hf
       repeat' (first | refine' Ev.zP | (with_reducible refine Ev.aP h2 ?_) | (with_reducible refine Ev.aK h2 ?_) | (with_reducible refine Ev.aJ hii ?_) | (with_reducible refine Ev.aF hii ?_) | refine' Ev.zS | refine' Ev.zK | ((with_reducible refine Ev.ca0 ?_);(first | refine Ev.ca (hM) ?_ | refine Ev.ca (hI) ?_ | refine Ev.ca (hO) ?_);conv=>whnf) | refine' Ev.zT | fail)
       refine' ad2
   · rw [if_neg h1] at hf
     repeat' (first | (with_reducible refine Ev.aP h1 ?_) | (with_reducible refine Ev.aK h1 ?_) | (with_reducible refine Ev.aJ hii ?_) | (with_reducible refine Ev.aF hii ?_) | refine' Ev.zP | refine' Ev.zS | refine' Ev.zK | ((with_reducible refine Ev.ca0 ?_);(first | refine Ev.ca (hM) ?_ | refine Ev.ca (hI) ?_ | refine Ev.ca (hO) ?_);conv=>whnf) | refine' Ev.zT | fail)
     refine' ad2
 · have hii:¬ (i:Int) < ((aX L).length:Int):=by omega
   rw [List.drop_of_length_le (by omega)] at hf
   refine' aao
   refine' ad2
theorem BX {a b:List Sp} (h:jr a b = 0) (la:a.length <= 10000000) (lb:b.length <= 10000000) (ta:bT a <= 100000000) (tb:bT b <= 100000000) :
   aC (kF a b) = 0 /\ iT (kF a b) = iT a /\ outW (kF a b) = outW b:=by
 obtain ⟨h1,h2,h3⟩:=FB h
 obtain ⟨l1,l2⟩:=kT h la lb ta
 have oa:=(oM.of h1 (by omega)).1
 have ob:=(oM.of h2 (by omega)).1
 have ea:=ku a
 have fa:=lq a oa.all
 have ba:=oa.bnd
 rw [bg (by omega)] at ea
 have eb:=ku b
 have fb:=lq b ob.all
 have bb:=ob.bnd
 rw [bg (by omega)] at eb
 have ib:=(oM.of h2 (by omega)).2
 have ia:=(oM.of h1 (by omega)).2
 obtain ⟨g1,g2,g3,g4,_⟩:=sN oa ob (by omega)
 obtain ⟨m1,m2⟩:=g1.ops.may (by omega)
 refine ⟨m1,by omega,?_⟩
 rw [ku,g4,eb]
 exact bg (by omega)
theorem fold_size:∀ (L:List (List Sp)) (b:List Sp),aC b = 0 -> b.length + jf L <= 10000000 -> bT b + lK L <= 100000000 -> (dR b L).2 = (gG (outW b) L).2
 | [],b,_,_,_=>rfl
 | x :: L,b,hm,hl,hb=>by
   obtain ⟨l1,l2⟩:=eF x L
   rw [l1] at hl
   rw [l2] at hb
   simp only [dR,gG]
   by_cases h1:aC x = 0
   · rw [if_pos h1]
     by_cases h2:iT x = outW b
     · have he:jr b x = 0:=by unfold jr;rw [if_neg (by simpa using hm),if_neg (by simpa using h1),if_neg (by simpa using h2.symm)]
       obtain ⟨m1,m2,m3⟩:=BX he (by omega) (by omega) (by omega) (by omega)
       obtain ⟨s1,s2⟩:=kT he (by omega) (by omega) (by omega)
       rw [if_pos he,if_pos h2,fold_size L (kF b x) m1 (by omega) (by omega),m3]
     · have he:jr b x = 5:=by unfold jr;rw [if_neg (by simpa using hm),if_neg (by simpa using h1),if_pos (by simpa using fun e=>h2 (Eq.symm e))]
       rw [if_neg (by rw [he];decide),if_neg h2,he]
   · have he:jr b x = aC x:=by unfold jr;rw [if_neg (by simpa using hm),if_pos h1]
     rw [if_neg h1,if_neg (by rw [he];exact h1),he]
theorem yT {n:Int} (hn:0 <= n /\ n <= 1048576):aC (dH n) = 0 /\ outW (dH n) = n /\ iT (dH n) = n:=by
 unfold dH
 by_cases h:n = 0
 · rw [if_pos h,h];decide
 · rw [if_neg h]
   have e1:iT [(⟨1,n,⟨#[]⟩⟩:Sp)] = n:=by rw [JV];simp [aY,dZ,kN];exact bg (by omega)
   have e2:outW [(⟨1,n,⟨#[]⟩⟩:Sp)] = n:=by rw [ku];simp [aY,dO,kQ];exact bg (by omega)
   refine ⟨(kR _).2 ⟨fun s hs=>?_,by omega⟩,e2,e1⟩
   simp at hs;subst hs
   exact bM.keep (.inl rfl) (by simp only;omega) rfl
theorem J7 (n:Int) (hn:0 <= n /\ n <= 1048576) (L:List (List Sp)) (hl:jf L <= 9999999) (hb:lK L <= 100000000) (hL:L.length <= 10000000) (hx:∀ x ∈ L,x.length <= 1000000000 /\ Small x) :
   aO env 105 [.v (.int .i64 n),.lst 1 (aX L)] (fun r hs=>r = pW (dH n) L /\ hs = []):=by
 have hK:=zD n hn
 obtain ⟨k1,k2⟩:=uj n
 obtain ⟨k3,k4,k5⟩:=yT hn
 have hZ:=zF n hn L hx hL
 have hE:=fold_size L (dH n) k3 (by omega) (by omega)
 rw [k4] at hE
 unfold zC at hZ
 have hrl:=bW L
 generalize hG:gG n L = G at *
 by_cases h0:G.2 = 0
 · rw [h0] at hZ hE
   refine Ev.fn [0,1,4,5,7,8,10,18,28] 0 [.tmp 4,.tmp 5] Tryd.func105 (LW _ rfl) ?_
   repeat' (first | refine' Ev.zP | refine' Ev.zS | refine' Ev.zK | ((with_reducible refine Ev.ca0 ?_);(first | refine Ev.ca (hZ) ?_ | refine Ev.ca (hK) ?_);conv=>whnf) | refine' Ev.zT | fail)
   refine Ev.loop (fun k s=>∃ (i c:Nat) (b:List Sp),s = ⟨[(1,.lst 1 (aX L)),(8,.lst 3 (aT b)),(10,.v (.int .i64 i))],[],c⟩ /\ k + i = L.length /\ dR b (L.drop i) = dR (dH n) L /\ b.length + jf (L.drop i) <= 10000000 /\ bT b + lK (L.drop i) <= 100000000) ?_ ?_
   · refine Ev.zB ⟨L.length,0,?_,dH n,rfl,?_⟩
     exact ⟨by omega,rfl,by simp only [List.drop_zero];omega,by simp only [List.drop_zero];omega⟩
   rintro k s1 ⟨i,c,b,rfl,hk,hf,hl',hb'⟩
   by_cases hi:i < L.length
   · have hii:(i:Int) < ((aX L).length:Int):=by omega
     refine' ahd
     have hC:=Pm b L[i] (by omega) (by omega) (by omega) (by omega) (dD (by omega)) (dD (by omega))
     have he:jr b L[i] = 0:=by
       refine Decidable.byContradiction fun hne=>?_
       simp only [dR,hne,if_false] at hf
       rw [<- hf] at hE
       exact hne hE
     refine' ab2
   · have hii:¬ (i:Int) < ((aX L).length:Int):=by omega
     refine' aef
 · have hA:pW (dH n) L = .dM [nilA,.v (.int .i64 G.2)]:=by unfold pW;rw [hE,if_neg h0]
   rw [hA]
   refine Ev.fn [0,1,4,5,7,8,10,18,28] 0 [.tmp 4,.tmp 5] Tryd.func105 (LW _ rfl) ?_
   repeat' (first | (with_reducible refine Ev.aP h0 ?_) | (with_reducible refine Ev.aK h0 ?_) | refine' Ev.zP | refine' Ev.zS | refine' Ev.zK | ((with_reducible refine Ev.ca0 ?_);(first | refine Ev.ca (hZ) ?_ | refine Ev.ca (hK) ?_);conv=>whnf) | refine' Ev.zT | fail)
   exact ⟨rfl,rfl⟩
theorem XG:∀ c,Tryd.f166.body = some c -> comp c = (.seq (.reg 0 [I.n 0 4 (I.si 0),I.n 1 5 (I.si 0)]) (.seq (.seq (.reg 1 [I.n 0 7 (I.mv 1),I.n 1 8 (I.c1 72 7 23),I.n 2 6 (I.sa 8)]) (.block 0 (.seq (.reg 2 [I.n 0 10 (I.mv 6),I.n 1 11 (I.bc .neq 30 10 0 30),I.n 2 9 (I.sa 11)]) (.cond (.tmp 9) (.seq (.reg 3 [I.n 0 12 (I.mv 6),I.n 1 4 (I.si 0),I.n 2 5 (I.sa 12)]) .ret) (.seq (.reg 4 [I.n 0 14 (I.mv 1),I.n 1 15 (I.c1 74 14 23),I.n 2 16 (I.mv 0),I.n 3 17 (I.bo .neq 3 15 16 3),I.n 4 13 (I.sa 17)]) (.cond (.tmp 13) (.seq (.reg 5 [I.n 0 4 (I.si 0),I.n 1 5 (I.si 5)]) .ret) .skip)))))) (.seq (.reg 6 [I.n 0 18 (I.mv 1),I.n 1 19 (I.c1 73 18 23),I.n 2 4 (I.sa 19),I.n 3 5 (I.si 0)]) .ret))):=by
 intro c h
 have:c = Tryd.f166.body.get rfl:=by rw [<- Option.some_inj,<- h];rfl
 rw [this];rfl
theorem XH:∀ c,Tryd.f165.body = some c -> comp c = (.seq (.reg 0 [I.n 0 6 (I.si 0),I.n 1 7 (I.si 0)]) (.seq (.seq (.reg 1 [I.n 0 13 (I.mv 1),I.n 1 14 (I.ln 13 22),I.n 2 15 (.move (.const (Value.int .i64 0)))]) (.block 0 (.loop (.seq (.reg 2 [I.n 0 16 (I.bo .lss 3 15 14 3)]) (.seq (.cond (.tmp 16) .skip (.exit 0)) (.seq (.block 1 (.seq (.reg 3 [I.n 0 17 (I.ia 22 13 15),I.n 1 18 (I.ld 23 17),I.n 2 9 (I.sa 18)]) (.seq (.reg 4 [I.n 0 20 (I.mv 2),I.n 1 21 (I.mv 0),I.n 2 22 (I.mv 9),I.n 3 23 (.call { callee:=.value (.tmp 20),args:=#[.tmp 21,.tmp 22],argTypes:=#[3,23] }),I.n 4 19 (I.mv 23),I.n 5 24 (I.ex 19 0),I.n 6 25 (I.ex 19 1),I.n 7 10 (I.sa 24),I.n 8 11 (I.sa 25)]) (.seq (.seq (.reg 5 [I.n 0 26 (I.mv 11),I.n 1 27 (I.bc .neq 30 26 0 30)]) (.cond (.tmp 27) (.seq (.reg 6 [I.n 0 12 (I.si 0)]) (.seq (.reg 7 [I.n 0 28 (I.mv 12),I.n 1 29 (I.mv 11),I.n 2 6 (I.sa 28),I.n 3 7 (I.sa 29)]) .ret)) .skip)) (.reg 8 [I.n 0 30 (I.mv 10),I.n 1 0 (I.sa 30)]))))) (.reg 9 [I.n 0 31 (I.bc .add 3 15 1 3),I.n 1 15 (I.mv 31)]))))))) (.seq (.reg 10 [I.n 0 32 (I.mv 0),I.n 1 6 (I.sa 32),I.n 2 7 (I.si 0)]) .ret))):=by
 intro c h
 have:c = Tryd.f165.body.get rfl:=by rw [<- Option.some_inj,<- h];rfl
 rw [this];rfl
theorem XI:∀ c,Tryd.f157.body = some c -> comp c = (.seq (.reg 0 [I.n 0 4 (I.si 0),I.n 1 5 (I.si 0)]) (.seq (.seq (.reg 1 [I.n 0 9 (I.mv 0),I.n 1 10 (I.c1 111 9 3),I.n 2 8 (I.mv 10),I.n 3 11 (I.ex 8 0),I.n 4 12 (I.ex 8 1),I.n 5 6 (I.sa 11),I.n 6 7 (I.sa 12)]) (.seq (.reg 2 [I.n 0 13 (I.mv 7),I.n 1 14 (I.bc .neq 30 13 0 30)]) (.cond (.tmp 14) (.seq (.reg 3 [I.n 0 15 (I.mv 7),I.n 1 4 (I.si 0),I.n 2 5 (I.sa 15)]) .ret) .skip))) (.seq (.reg 4 [I.n 0 16 (I.mv 0),I.n 1 17 (I.mv 1),I.n 2 18 (.call { callee:=.value (.func 165),args:=#[.tmp 16,.tmp 17,.func 166],argTypes:=#[3,22,184] }),I.n 3 19 (I.ex 18 0),I.n 4 20 (I.ex 18 1),I.n 5 4 (I.sa 19),I.n 6 5 (I.sa 20)]) .ret))):=by
 intro c h
 have:c = Tryd.f157.body.get rfl:=by rw [<- Option.some_inj,<- h];rfl
 rw [this];rfl
def TQ (n:Int) (x:List Sp):AV:=.dM [.v (.int .i64 (gG n [x]).1),.v (.int .i64 (gG n [x]).2)]
theorem afz{G:Prop}(h:G:=by (refine Ev.fn [0,1,4,5,6,9,13] 0 [.tmp 4,.tmp 5] Tryd.func166 (XG _ rfl) ?_);all_goals(rcases(⟨_⟩:PLift _)with⟨h⟩;exact h)):G:=h
theorem Px (n:Int) (x:List Sp) (hl:x.length <= 1000000000) (hs:Small x):aO env 166 [.v (.int .i64 n),.lst 3 (aT x)] (fun r hs=>r = TQ n x /\ hs = []):=by
 have hM:=dL x hl hs
 have hI:=fF x hl
 have hO:=mY x hl hs
 unfold TQ
 simp only [gG]
 by_cases h1:aC x = 0
 · rw [h1] at hM
   rw [if_pos h1]
   by_cases h2:sumW (fun s=>kN s.k s.n) x = n
   · rw [if_pos (show iT x = n from h2)]
     refine' afz
     repeat' (first | refine' Ev.zP | (with_reducible refine Ev.aJ h2 ?_) | (with_reducible refine Ev.aF h2 ?_) | refine' Ev.zS | refine' Ev.zK | ((with_reducible refine Ev.ca0 ?_);(first | refine Ev.ca (hM) ?_ | refine Ev.ca (hI) ?_ | refine Ev.ca (hO) ?_);conv=>whnf) | refine' Ev.zT | fail)
     exact ⟨rfl,rfl⟩
   · rw [if_neg (show ¬ iT x = n from h2)]
     refine' afz
     repeat' (first | refine' Ev.zP | (with_reducible refine Ev.aP h2 ?_) | (with_reducible refine Ev.aK h2 ?_) | refine' Ev.zS | refine' Ev.zK | ((with_reducible refine Ev.ca0 ?_);(first | refine Ev.ca (hM) ?_ | refine Ev.ca (hI) ?_ | refine Ev.ca (hO) ?_);conv=>whnf) | refine' Ev.zT | fail)
     exact ⟨rfl,rfl⟩
 · rw [if_neg h1]
   refine' afz
   repeat' (first | (with_reducible refine Ev.aP h1 ?_) | (with_reducible refine Ev.aK h1 ?_) | refine' Ev.zP | refine' Ev.zS | refine' Ev.zK | ((with_reducible refine Ev.ca0 ?_);(first | refine Ev.ca (hM) ?_ | refine Ev.ca (hI) ?_ | refine Ev.ca (hO) ?_);conv=>whnf) | refine' Ev.zT | fail)
   exact ⟨rfl,rfl⟩
theorem J8 (n:Int) (x:List Sp) (L:List (List Sp)):gG n (x :: L) = if (gG n [x]).2 = 0 then gG (gG n [x]).1 L else (0,(gG n [x]).2):=by
 by_cases h1:aC x = 0
 · by_cases h2:iT x = n
   · simp [gG,h1,h2]
   · simp [gG,h1,h2]
 · simp [gG,h1]
theorem J9 (L:List (List Sp)) (n:Int) (hL:L.length <= 10000000) (hb:∀ x ∈ L,x.length <= 1000000000 /\ Small x) :
   aO env 165 [.v (.int .i64 n),.lst 1 (aX L),.clo (.func 166) [] []] (fun r hs=>r = zC n L /\ hs = []):=by
 have hrl:=bW L
 refine Ev.fn [0,1,2,6,7,9,10,11,12,13,14,15,16,27] 0 [.tmp 6,.tmp 7] Tryd.func165 (XH _ rfl) ?_
 refine' Ev.zW
 refine Ev.loop (fun k s=>∃ (i c:Nat) (m:Int),s = ⟨[(0,.v (.int .i64 m)),(2,.clo (.func 166) [] []),(13,.lst 1 (aX L)),(14,.v (.int .i64 L.length)),(15,.v (.int .i64 i))],[],c⟩ /\ k + i = L.length /\ gG m (L.drop i) = gG n L) ?_ ?_
 · refine Ev.zB ⟨L.length,0,?_,n,rfl,?_⟩
   exact ⟨by omega,rfl⟩
 rintro k s1 ⟨i,c,m,rfl,hk,hf⟩
 by_cases hi:i < L.length
 · have hii:(i:Int) < (L.length:Int):=by omega
   refine' ahb
   rw [List.drop_eq_getElem_cons hi,J8] at hf
   obtain ⟨b1,b2⟩:=hb L[i] (List.getElem_mem hi)
   have hC:=Px m L[i] b1 b2
   unfold TQ at hC
   generalize gG m [L[i]] = G at *
   by_cases he:G.2 = 0
   · rw [he] at hC
     rw [if_pos he] at hf
     refine' aa0
     refine Ev.zA (k') ⟨i + 1,?_,G.1,rfl,?_⟩
     exact ⟨by omega,hf⟩
   · rw [if_neg he] at hf
     refine' acf
     refine' ad2
 · have hii:¬ (i:Int) < (L.length:Int):=by omega
   rw [List.drop_of_length_le (by omega)] at hf
   refine' aao
   refine' ad2
theorem Ic (n:Int) (hn:0 <= n /\ n <= 1048576) (L:List (List Sp)) (hb:∀ x ∈ L,x.length <= 1000000000 /\ Small x) (hL:L.length <= 10000000) :
   aO env 157 [.v (.int .i64 n),.lst 1 (aX L)] (fun r hs=>r = zC n L /\ hs = []):=by
 have hK:=BU n hn
 have hF:=J9 L n hL hb
 unfold zC at hF ⊢
 refine Ev.fn [0,1,4,5,7,14] 0 [.tmp 4,.tmp 5] Tryd.func157 (XI _ rfl) ?_
 refine' abl
 exact ⟨rfl,rfl⟩
theorem LX:∀ c,Tryd.f116.body = some c -> comp c = (.seq (.reg 0 [I.n 0 4 (I.si 0)]) (.seq (.seq (.reg 1 [I.n 0 8 (I.mv 0),I.n 1 9 (I.c1 72 8 23),I.n 2 5 (I.sa 9)]) (.seq (.reg 2 [I.n 0 10 (I.mv 5),I.n 1 11 (I.bc .neq 30 10 0 30)]) (.cond (.tmp 11) (.seq (.reg 3 [I.n 0 12 (I.mv 5),I.n 1 4 (I.sa 12)]) .ret) .skip))) (.seq (.reg 4 [I.n 0 14 (I.mv 0),I.n 1 15 (I.c1 74 14 23),I.n 2 16 (I.mv 1),I.n 3 17 (I.c2 157 15 16 3 22),I.n 4 13 (I.mv 17),I.n 5 18 (I.ex 13 0),I.n 6 19 (I.ex 13 1),I.n 7 6 (I.sa 18),I.n 8 7 (I.sa 19)]) (.seq (.reg 5 [I.n 0 20 (I.mv 7),I.n 1 4 (I.sa 20)]) .ret)))):=by
 intro c h
 have:c = Tryd.f116.body.get rfl:=by rw [<- Option.some_inj,<- h];rfl
 rw [this];rfl
def Iw (a:List Sp) (L:List (List Sp)):Int:=if aC a = 0 then (gG (iT a) L).2 else aC a
theorem ab5{G:Prop}(h:G:=by
 repeat' (first | (with_reducible refine Ev.aP h1 ?_) | (with_reducible refine Ev.aK h1 ?_) | refine' Ev.zP | refine' Ev.zS | refine' Ev.zK | ((with_reducible refine Ev.ca0 ?_);(first | refine Ev.ca (hM) ?_);conv=>whnf) | refine' Ev.zT | fail)
 exact ⟨rfl,rfl⟩):G:=h
theorem acu{G:Prop}(h:G:=by
 repeat' (first | refine' Ev.zP | refine' Ev.zS | refine' Ev.zK | ((with_reducible refine Ev.ca0 ?_);(first | refine Ev.ca (hM) ?_ | refine Ev.ca (hI) ?_ | refine Ev.ca (hZ) ?_);conv=>whnf) | refine' Ev.zT | fail)
 exact ⟨rfl,rfl⟩):G:=h
theorem afv{G:Prop}(h:G:=by
 have:=jJ dZ 1048576 a (fun s hs=>(o1.all s hs).dZ)
 have:=o1.bnd
 omega):G:=h
theorem Py (a:List Sp) (L:List (List Sp)) (la:a.length <= 1000000000) (sa:Small a) (hb:∀ x ∈ L,x.length <= 1000000000 /\ Small x) (hL:L.length <= 10000000) :
   aO env 116 [.lst 3 (aT a),.lst 1 (aX L)] (fun r hs=>r = .v (.int .i64 (Iw a L)) /\ hs = []):=by
 have hM:=dL a la sa
 unfold Iw
 by_cases h1:aC a = 0
 · rw [if_pos h1]
   rw [h1] at hM
   obtain ⟨o1,o2⟩:=oM.of h1 la
   have hI:=fF a la
   have hn:0 <= iT a /\ iT a <= 1048576:=by
     refine' afv
   have hZ:=Ic (iT a) hn L hb hL
   unfold zC at hZ
   refine Ev.fn [0,1,4,5,7,11] 0 [.tmp 4] Tryd.func116 (LX _ rfl) ?_
   refine' acu
 · rw [if_neg h1]
   refine Ev.fn [0,1,4,5,7,11] 0 [.tmp 4] Tryd.func116 (LX _ rfl) ?_
   refine' ab5
theorem TR:∀ c,Tryd.f68.body = some c -> comp c = (.seq (.reg 0 [I.n 0 4 I.sn,I.n 1 5 (I.si 0)]) (.seq (.seq (.reg 1 [I.n 0 11 (I.mv 0),I.n 1 12 (I.mv 1),I.n 2 13 (I.c2 116 11 12 23 22),I.n 3 6 (I.sa 13)]) (.seq (.reg 2 [I.n 0 14 (I.mv 6),I.n 1 15 (I.bc .neq 30 14 0 30)]) (.cond (.tmp 15) (.seq (.reg 3 [I.n 0 16 (I.mv 6),I.n 1 4 I.sn,I.n 2 5 (I.sa 16)]) .ret) .skip))) (.seq (.reg 4 [I.n 0 17 (I.mv 0),I.n 1 18 (I.c1 35 17 23),I.n 2 7 (I.sa 18)]) (.seq (.seq (.reg 5 [I.n 0 19 (I.mv 1),I.n 1 20 (I.ln 19 22),I.n 2 21 (.move (.const (Value.int .i64 0)))]) (.block 0 (.loop (.seq (.reg 6 [I.n 0 22 (I.bo .lss 3 21 20 3)]) (.seq (.cond (.tmp 22) .skip (.exit 0)) (.seq (.block 1 (.seq (.reg 7 [I.n 0 23 (I.mv 21),I.n 1 8 (I.sa 23)]) (.seq (.reg 8 [I.n 0 24 (I.mv 1),I.n 1 25 (I.mv 8),I.n 2 26 (I.mv 8),I.n 3 27 (I.bc .add 3 26 1 3),I.n 4 28 (I.mv 8),I.n 5 29 (I.bc .add 3 28 1 3),I.n 6 30 (.slice 22 (.tmp 24) (some (.tmp 25)) (some (.tmp 27)) (some (.tmp 29))),I.n 7 31 (I.ln 30 22),I.n 8 32 (.move (.const (Value.int .i64 0)))]) (.block 2 (.loop (.seq (.reg 9 [I.n 0 33 (I.bo .lss 3 32 31 3)]) (.seq (.cond (.tmp 33) .skip (.exit 2)) (.seq (.block 3 (.seq (.reg 10 [I.n 0 34 (I.ia 22 30 32),I.n 1 35 (I.ld 23 34),I.n 2 10 (I.sa 35)]) (.reg 11 [I.n 0 37 (I.mv 7),I.n 1 38 (I.mv 10),I.n 2 39 (I.c2 36 37 38 23 23),I.n 3 36 (I.mv 39),I.n 4 40 (I.ex 36 0),I.n 5 41 (I.ex 36 1),I.n 6 7 (I.sa 40)]))) (.reg 12 [I.n 0 42 (I.bc .add 3 32 1 3),I.n 1 32 (I.mv 42)]))))))))) (.reg 13 [I.n 0 43 (I.bc .add 3 21 1 3),I.n 1 21 (I.mv 43)]))))))) (.seq (.reg 14 [I.n 0 44 (I.mv 7),I.n 1 4 (I.sa 44),I.n 2 5 (I.si 0)]) .ret))))):=by
 intro c h
 have:c = Tryd.f68.body.get rfl:=by rw [<- Option.some_inj,<- h];rfl
 rw [this];rfl
theorem LY:∀ c,Tryd.f145.body = some c -> comp c = (.seq (.reg 0 [I.n 0 4 (I.si 0)]) (.seq (.reg 1 [I.n 0 8 (I.mv 0),I.n 1 9 (I.c1 100 8 23),I.n 2 5 (I.sa 9)]) (.seq (.seq (.reg 2 [I.n 0 10 (I.mv 5),I.n 1 11 (I.bc .neq 30 10 0 30)]) (.cond (.tmp 11) (.seq (.reg 3 [I.n 0 12 (I.mv 5),I.n 1 4 (I.sa 12)]) .ret) .skip)) (.seq (.reg 4 [I.n 0 14 (I.mv 0),I.n 1 15 (I.c1 101 14 23),I.n 2 16 (I.mv 1),I.n 3 17 (I.c2 147 15 16 3 22),I.n 4 13 (I.mv 17),I.n 5 18 (I.ex 13 0),I.n 6 19 (I.ex 13 1),I.n 7 6 (I.sa 18),I.n 8 7 (I.sa 19)]) (.seq (.reg 5 [I.n 0 20 (I.mv 7),I.n 1 4 (I.sa 20)]) .ret))))):=by
 intro c h
 have:c = Tryd.f145.body.get rfl:=by rw [<- Option.some_inj,<- h];rfl
 rw [this];rfl
theorem LZ:∀ c,Tryd.f104.body = some c -> comp c = (.seq (.reg 0 [I.n 0 4 I.sn,I.n 1 5 (I.si 0)]) (.seq (.reg 1 [I.n 0 9 (I.mv 0),I.n 1 10 (I.mv 1),I.n 2 11 (I.c2 145 9 10 23 22),I.n 3 6 (I.sa 11)]) (.seq (.seq (.reg 2 [I.n 0 12 (I.mv 6),I.n 1 13 (I.bc .neq 30 12 0 30)]) (.cond (.tmp 13) (.seq (.reg 3 [I.n 0 14 (I.mv 6),I.n 1 4 I.sn,I.n 2 5 (I.sa 14)]) .ret) .skip)) (.seq (.reg 4 [I.n 0 15 (I.mv 0),I.n 1 16 (I.c1 71 15 23),I.n 2 7 (I.sa 16)]) (.seq (.seq (.reg 5 [I.n 0 8 (I.si 0)]) (.block 0 (.loop (.seq (.seq (.reg 6 [I.n 0 17 (I.mv 8),I.n 1 18 (I.mv 1),I.n 2 19 (I.ln 18 22),I.n 3 20 (I.bo .lss 3 17 19 3)]) (.cond (.tmp 20) .skip (.exit 0))) (.seq (.block 1 (.reg 8 [I.n 0 24 (I.mv 7),I.n 1 25 (I.mv 1),I.n 2 26 (I.mv 8),I.n 3 27 (I.ia 22 25 26),I.n 4 28 (I.ld 23 27),I.n 5 29 (I.c2 146 24 28 23 23),I.n 6 23 (I.mv 29),I.n 7 30 (I.ex 23 0),I.n 8 31 (I.ex 23 1),I.n 9 7 (I.sa 30)])) (.reg 7 [I.n 0 21 (I.mv 8),I.n 1 22 (I.bc .add 3 21 1 3),I.n 2 8 (I.sa 22)])))))) (.seq (.reg 9 [I.n 0 32 (I.mv 7),I.n 1 4 (I.sa 32),I.n 2 5 (I.si 0)]) .ret)))))):=by
 intro c h
 have:c = Tryd.f104.body.get rfl:=by rw [<- Option.some_inj,<- h];rfl
 rw [this];rfl
def FC:List Sp -> List (List Sp) -> List Sp
 | x,[]=>x
 | x,s :: L=>FC (pR x s) L
def FD (a:List Sp) (L:List (List Sp)):AV:=.dM [if Iw a L = 0 then .lst 3 (aT (FC (norm a) L)) else nilA,.v (.int .i64 (Iw a L))]
theorem XJ {n:Int} {s:List Sp} {L:List (List Sp)} (h:(gG n (s :: L)).2 = 0):aC s = 0 /\ iT s = n /\ (gG (outW s) L).2 = 0:=by
 simp only [gG] at h
 by_cases h1:aC s = 0
 · rw [if_pos h1] at h
   by_cases h2:iT s = n
   · rw [if_pos h2] at h;exact ⟨h1,h2,h⟩
   · rw [if_neg h2] at h;simp at h
 · rw [if_neg h1] at h;exact absurd h h1
theorem TS {a b:List Sp} (h:nO a b = 0) (la:a.length <= 10000000) (lb:b.length <= 10000000) (hb:aY dO b <= 1048576) :
   aC (pR a b) = 0 /\ iT (pR a b) = outW b /\ (pR a b).length <= a.length + b.length /\ bT (pR a b) <= bT a:=by
 obtain ⟨h1,h2,h3⟩:=xK h
 have oa:=(oM.of h1 (by omega)).1
 have ob:=(oM.of h2 (by omega)).1
 have hco:=BO oa ob (J5 h1 h2 la lb h3) hb
 have g4:=hco.2.2.2.2.2.2.2.2
 obtain ⟨g1,g2,g3,_⟩:=hco
 obtain ⟨m1,m2⟩:=g1.ops.may (by omega)
 have eb:=ku b
 have fb:0 <= aY dO b:=by have:=bU ob.all;omega
 rw [bg (by omega)] at eb
 exact ⟨m1,by omega,g4⟩
structure TI (a:List Sp) (L:List (List Sp)) (i:Nat) (x:List Sp):Prop where
 may:aC x = 0
 fit:(gG (iT x) (L.drop i)).2 = 0
 eq:FC x (L.drop i) = FC (norm a) L
 len:x.length + jf (L.drop i) <= 9999999
 tb:bT x <= 100000000
theorem TI.next {a:List Sp} {L:List (List Sp)} {i:Nat} {x:List Sp} (h:TI a L i x) (hi:i < L.length) (ho:∀ s ∈ L,aC s = 0 -> aY dO s <= 1048576):nO x L[i] = 0 /\ L[i].length <= 9999999 /\ TI a L (i + 1) (pR x L[i]):=by
 have hf:=h.fit
 have he:=h.eq
 have hl:=h.len
 have hm:=h.may
 rw [List.drop_eq_getElem_cons hi] at hf he hl
 obtain ⟨l1,l2⟩:=eF L[i] (L.drop (i + 1))
 rw [l1] at hl
 obtain ⟨f1,f2,f3⟩:=XJ hf
 have e0:nO x L[i] = 0:=by unfold nO;rw [if_neg (by simpa using hm),if_neg (by simpa using f1),if_neg (by simpa using f2.symm)]
 obtain ⟨m1,m2,m3,m4⟩:=TS e0 (by omega) (by omega) (ho _ (List.getElem_mem hi) f1)
 exact ⟨e0,by omega,m1,by rw [m2];exact f3,he,by omega,by have:=h.tb;omega⟩
theorem TI.first {a:List Sp} {L:List (List Sp)} (h:Iw a L = 0) (hl:a.length + jf L <= 9999999) (hb:bT a <= 100000000):TI a L 0 (norm a):=by
 unfold Iw at h
 by_cases h1:aC a = 0
 · rw [if_pos h1] at h
   obtain ⟨o1,o2⟩:=oM.of h1 (by omega)
   obtain ⟨n1,_,_,n4,_,n6,n7,_⟩:=o1.norm
   obtain ⟨m1,m2⟩:=n1.may (by omega)
   exact ⟨m1,by rw [m2,n4,<- o2];exact h,rfl,by rw [List.drop_zero];omega,by omega⟩
 · rw [if_neg h1] at h;exact absurd h h1
theorem TT {x:List Sp} {L:List (List Sp)} (h:x ∈ L):x.length <= jf L:=by
 induction L with
 | nil=>simp at h
 | cons y L ih =>
   rw [(eF y L).1]
   rcases List.mem_cons.1 h with rfl | h
   · omega
   · have:=ih h;omega
theorem abS {es:List (List AV)} {x:List AV} {F:List AV -> Prop} (h:es = [x]) (k:F x):Ev.CO es (Int.toNat 0) F:=by
 subst h;exact k
theorem ab6{G:Prop}(h:G:=by
 repeat' (first | (with_reducible refine Ev.aP h0 ?_) | (with_reducible refine Ev.aK h0 ?_) | refine' Ev.zP | refine' Ev.zS | refine' Ev.zK | ((with_reducible refine Ev.ca0 ?_);(first | refine Ev.ca (hM) ?_);conv=>whnf) | refine' Ev.zT | fail)
 exact ⟨rfl,rfl⟩):G:=h
theorem aeg{G:Prop}(h:G:=by
 have he:=hT.eq
 rw [List.drop_of_length_le (by omega)] at he
 refine' aao
 exact ⟨by rw [<- he];rfl,rfl⟩):G:=h
theorem aez{G:Prop}(h:G:=by (repeat' (first | refine' Ev.zP | refine' Ev.zS | refine' Ev.zK | ((with_reducible refine Ev.ca0 ?_);(first | refine Ev.ca (hM) ?_ | refine Ev.ca (hN) ?_);conv=>whnf) | refine' Ev.zT | fail));all_goals(rcases(⟨_⟩:PLift _)with⟨h⟩;exact h)):G:=h
theorem ahe{G:Prop}(h:G:=by
 refine' ahb
 have hw:IntKind.i64.wrap ((i:Int) + 1) = ((i + 1:Nat):Int):=by rw [bg (by omega)];omega
 obtain ⟨e0,l0,hN'⟩:=hT.next hi ho
 all_goals(rcases(⟨_⟩:PLift _)with⟨h⟩;exact h)):G:=h
theorem afj{G:Prop}(h:G:=by
 have hrl:=bW L
 have hxl:∀ x ∈ L,x.length <= 1000000000 /\ Small x:=fun x hx=>⟨by have:=TT hx;omega,dD (by have:=hb x hx;omega)⟩
 all_goals(rcases(⟨_⟩:PLift _)with⟨h⟩;exact h)):G:=h
theorem af5{G:Prop}(h:G:=by
 refine Ev.zB ⟨L.length,0,?_,norm a,rfl,?_⟩
 exact ⟨by omega,TI.first h0 hl ha⟩):G:=h
theorem agm{G:Prop}(h:G:=by
 refine Ev.zA (k') ⟨i + 1,?_,pR x L[i],rfl,?_⟩
 exact ⟨by omega,hN'⟩):G:=h
theorem TU (a:List Sp) (L:List (List Sp)) (hl:a.length + jf L <= 9999999) (ha:bT a <= 100000000) (hb:∀ x ∈ L,bT x <= 100000000) (hL:L.length <= 10000000) (ho:∀ s ∈ L,aC s = 0 -> aY dO s <= 1048576) :
   aO env 68 [.lst 3 (aT a),.lst 1 (aX L)] (fun r hs=>r = FD a L /\ hs = []):=by
 refine' afj
 have hM:=Py a L (by omega) (dD (by omega)) hxl hL
 unfold FD
 by_cases h0:Iw a L = 0
 · rw [if_pos h0,h0]
   rw [h0] at hM
   have hN:=sG a (by omega) (by omega)
   refine Ev.fn [0,1,4,5,6,7,8,10,15,20,21,22,30,31,32,33] 0 [.tmp 4,.tmp 5] Tryd.func68 (TR _ rfl) ?_
   refine' aez
   refine Ev.loop (fun k s=>∃ (i c:Nat) (x:List Sp),s = ⟨[(1,.lst 1 (aX L)),(7,.lst 3 (aT x)),(20,.v (.int .i64 L.length)),(21,.v (.int .i64 i))],[],c⟩ /\ k + i = L.length /\ TI a L i x) ?_ ?_
   · refine' af5
   rintro k s1 ⟨i,c,x,rfl,hk,hT⟩
   by_cases hi:i < L.length
   · have hii:(i:Int) < (L.length:Int):=by omega
     refine' ahe
     have hcut:List.take ((IntKind.i64.wrap ((i:Int) + 1)).toNat - (i:Int).toNat) (List.drop (i:Int).toNat (aX L)) = [[AV.lst 3 (aT L[i])]]:=by
       rw [hw,Int.toNat_natCast,Int.toNat_natCast,show i + 1 - i = 1 by omega,List.drop_eq_getElem_cons (by rw [hrl];exact hi)]
       simp [aX]
     have hp1:(0:Int) < ((List.take ((IntKind.i64.wrap ((i:Int) + 1)).toNat - (i:Int).toNat) (List.drop (i:Int).toNat (aX L))).length:Int):=by rw [hcut];first | (show (0:Int) < 1;omega) | (show ¬ IntKind.i64.wrap (0 + 1) < (1:Int);decide)
     have hp2:¬ IntKind.i64.wrap (0 + 1) < ((List.take ((IntKind.i64.wrap ((i:Int) + 1)).toNat - (i:Int).toNat) (List.drop (i:Int).toNat (aX L))).length:Int):=by rw [hcut];first | (show (0:Int) < 1;omega) | (show ¬ IntKind.i64.wrap (0 + 1) < (1:Int);decide)
     have hmem:=List.getElem_mem hi
     have hC:=TN x L[i] (by have:=hT.len;omega) (by omega) hT.tb (hb _ hmem) (dD (by have:=hT.tb;omega)) (dD (by have:=hb _ hmem;omega)) (ho _ hmem)
     rw [LV e0] at hC
     repeat' (first | refine' Ev.zP | (with_reducible refine Ev.aJ hii ?_) | (with_reducible refine Ev.aF hii ?_) | (with_reducible refine Ev.aJ hp1 ?_) | (with_reducible refine Ev.aF hp1 ?_) | (with_reducible refine Ev.aP hp2 ?_) | (with_reducible refine Ev.aK hp2 ?_) | refine' Ev.zS | refine' Ev.zK | (with_reducible refine Ev.qH 2 ?_) | ((refine abS hcut ?_);conv=>whnf) | ((with_reducible refine Ev.ca0 ?_);(first | refine Ev.ca (hC) ?_);conv=>whnf) | refine' Ev.zT | fail)
     refine' agm
   · have hii:¬ (i:Int) < (L.length:Int):=by omega
     refine' aeg
 · rw [if_neg h0]
   refine Ev.fn [0,1,4,5,6,7,8,10,15,20,21,22,30,31,32,33] 0 [.tmp 4,.tmp 5] Tryd.func68 (TR _ rfl) ?_
   refine' ab6
theorem Ko (a:List Sp) (L:List (List Sp)) (la:a.length <= 1000000000) (sa:Small a) (hb:∀ x ∈ L,x.length <= 1000000000 /\ Small x) (hL:L.length <= 10000000) :
   aO env 145 [.lst 3 (aT a),.lst 1 (aX L)] (fun r hs=>r = .v (.int .i64 (Iw a L)) /\ hs = []):=by
 have hM:=fV a la sa
 unfold Iw
 by_cases h1:aC a = 0
 · rw [if_pos h1]
   rw [h1] at hM
   obtain ⟨o1,o2⟩:=oM.of h1 la
   have hI:=iO a la
   have hn:0 <= iT a /\ iT a <= 1048576:=by
     refine' afv
   have hZ:=zF (iT a) hn L hb hL
   unfold zC at hZ
   refine Ev.fn [0,1,4,5,7,11] 0 [.tmp 4] Tryd.func145 (LY _ rfl) ?_
   refine' acu
 · rw [if_neg h1]
   refine Ev.fn [0,1,4,5,7,11] 0 [.tmp 4] Tryd.func145 (LY _ rfl) ?_
   refine' ab5
theorem Pz (a:List Sp) (L:List (List Sp)) (hl:a.length + jf L <= 9999999) (ha:bT a <= 100000000) (hb:∀ x ∈ L,bT x <= 100000000) (hL:L.length <= 10000000) (ho:∀ s ∈ L,aC s = 0 -> aY dO s <= 1048576) :
   aO env 104 [.lst 3 (aT a),.lst 1 (aX L)] (fun r hs=>r = FD a L /\ hs = []):=by
 refine' afj
 have hM:=Ko a L (by omega) (dD (by omega)) hxl hL
 unfold FD
 by_cases h0:Iw a L = 0
 · rw [if_pos h0,h0]
   rw [h0] at hM
   have hN:=iP a (by omega) (by omega)
   refine Ev.fn [0,1,4,5,6,7,8,13,20] 0 [.tmp 4,.tmp 5] Tryd.func104 (LZ _ rfl) ?_
   refine' aez
   refine Ev.loop (fun k s=>∃ (i c:Nat) (x:List Sp),s = ⟨[(1,.lst 1 (aX L)),(7,.lst 3 (aT x)),(8,.v (.int .i64 i))],[],c⟩ /\ k + i = L.length /\ TI a L i x) ?_ ?_
   · refine' af5
   rintro k s1 ⟨i,c,x,rfl,hk,hT⟩
   by_cases hi:i < L.length
   · have hii:(i:Int) < ((aX L).length:Int):=by omega
     refine' ahe
     have hmem:=List.getElem_mem hi
     have hC:=XD x L[i] (by have:=hT.len;omega) (by omega) hT.tb (hb _ hmem) (dD (by have:=hT.tb;omega)) (dD (by have:=hb _ hmem;omega)) (xK e0).1 (xK e0).2.1 (xK e0).2.2 (ho _ hmem (xK e0).2.1)
     refine' aa0
     refine' agm
   · have hii:¬ (i:Int) < ((aX L).length:Int):=by omega
     refine' aeg
 · rw [if_neg h0]
   refine Ev.fn [0,1,4,5,6,7,8,13,20] 0 [.tmp 4,.tmp 5] Tryd.func104 (LZ _ rfl) ?_
   refine' ab6
end Go.Proofs.YtadlnaljicikfaaDoor.aI
namespace Go.Proofs.YtadlnaljicikfaaDoor.aI
open Go Go.Lib
mutual
/-- A value,its rows under other names. -/
def vV (ρ:Nat -> Nat):AV -> AV
  | .agg cs=>.agg (jK ρ cs)
  | .dM cs=>.dM (jK ρ cs)
  | .clo f a b=>.clo f (jK ρ a) (jK ρ b)
  | .own r v off len=>.own (ρ r) v off len
  | .ptr r v i o=>.ptr (ρ r) v i o
  | x=>x
def jK (ρ:Nat -> Nat):List AV -> List AV
  | []=>[]
  | c :: cs=>vV ρ c :: jK ρ cs
end
theorem lu (ρ:Nat -> Nat):∀ cs,jK ρ cs = cs.map (vV ρ)
 | []=>rfl
 | c :: cs=>by simp only [jK,List.map_cons,lu ρ cs]
def L6 (ρ:Nat -> Nat):List (Nat × aG) -> List (Nat × aG)
 | []=>[]
 | (r,⟨sz,ty,ver,fH,box,es⟩) :: l=>(ρ r,⟨sz,ty,ver,fH,box,if box then es.map (jK ρ) else es⟩) :: L6 ρ l
theorem aav{G:Prop}(h:G:=by
 rw [List.getElem?_map,Option.map_eq_some_iff] at hc
 obtain ⟨d,hd,rfl⟩:=hc
 exact ih i d v hd hv):G:=h
theorem adq{G:Prop}(h:G:=by
 simp only [vV,lu]
 refine .agg (by rw [List.length_map];exact hn) (by first | exact h1 | (rw [List.length_map];exact h1)) (fun i c v hc hv=>?_)
 refine' aav):G:=h
theorem ae5{G:Prop}(h:G:=by
 rw [List.getElem?_map,Option.map_eq_some_iff] at hc
 obtain ⟨d,hd,rfl⟩:=hc
 exact ih' i d v hd hv):G:=h
theorem afi{G:Prop}(h:G:=by
 simp only [vV,lu]
 refine .dM (by rw [List.length_map];exact hn) (fun i c v hc hv=>?_)
 refine' aav):G:=h
theorem afx{G:Prop}(h:G:=by
 simp only [vV,lu]
 refine .clo (by rw [List.length_map];exact hn) (by rw [List.length_map];exact hm) (fun i c v hc hv=>?_) (fun i c v hc hv=>?_)
 all_goals(rcases(⟨_⟩:PLift _)with⟨h⟩;exact h)):G:=h
theorem cZ.rn {M:Mem} {ρ:Nat -> Nat} {x:AV} {v:Value} (h:cZ M x v):cZ M (vV ρ x) v:=by
 induction h with
 | v x=>exact .v x
 | agg hn h1 _ ih =>
   refine' adq
 | dM hn _ ih =>
   refine' afi
 | lst u hn hc hz hA hM h _=>exact .lst u hn hc hz hA hM h
 | fO u hM h _=>exact .fO u hM h
 | clo hn hm _ _ ih ih' =>
   refine' afx
   · refine' aav
   · refine' ae5
theorem Rel.rn {M:Mem} {J:bJ} {ρ:Nat -> Nat} {x:AV} {v:Value} (h:Rel M J x v):Rel M J (vV ρ x) v:=by
 induction h with
 | pure h=>exact .pure h.rn
 | agg hn h1 _ ih =>
   refine' adq
 | dM hn _ ih =>
   refine' afi
 | clo hn hm _ _ ih ih' =>
   refine' afx
   · refine' aav
   · refine' ae5
 | own hL hl hN hA hc=>exact .own hL hl hN hA hc
 | ptr hL hN=>exact .ptr hL hN
theorem xM {ρ:Nat -> Nat}:∀ {hp:List (Nat × aG)} {r:Nat} {k:aG},get (L6 ρ hp) r = some k ->
   ∃ r0 k0,r = ρ r0 /\ get hp r0 = some k0 /\ k = ⟨k0.sz,k0.ty,k0.ver,k0.fH,k0.box,if k0.box then k0.es.map (jK ρ) else k0.es⟩
 | [],r,k,h=>by simp [L6,get_nil] at h
 | (a,⟨sz,ty,ver,fH,box,es⟩) :: hp,r,k,h=>by
   simp only [L6] at h
   rw [au] at h
   split at h
   · rename_i e
     obtain rfl:=Option.some.inj h
     exact ⟨a,_,e,by rw [au,if_pos rfl],rfl⟩
   · rename_i e
     obtain ⟨r0,k0,h1,h2,h3⟩:=xM h
     refine ⟨r0,k0,h1,?_,h3⟩
     rw [au,if_neg (by rintro rfl;exact e h1)];exact h2
theorem Inv.rn {E:Env} {M0:qV} {w0:World} {c:Nat} {M:Mem} {J:bJ} {W:World} (ρ:Nat -> Nat) {hp:List (Nat × aG)} (inv:Inv E M0 w0 c M J ⟨[],hp,0⟩ #[] W):Inv E M0 w0 c M J ⟨[],L6 ρ hp,0⟩ #[] W:=by
 refine' ac8
 · intro r k hk
   obtain ⟨r0,k0,rfl,h1,rfl⟩:=xM hk
   obtain ⟨L,C,a1,a2,a3⟩:=inv.heap r0 k0 h1
   refine ⟨L,C,a1,a2,a3.blk,a3.none,a3.size,?_,?_,a3.sz,?_,?_,a3.cap⟩
   · have:(if k0.box then k0.es.map (jK ρ) else k0.es).length = k0.es.length:=by split <;> simp
     show (if k0.box then k0.es.map (jK ρ) else k0.es).length <= _
     rw [this];exact a3.fits
   · have:(if k0.box then k0.es.map (jK ρ) else k0.es).length = k0.es.length:=by split <;> simp
     show _ <= (if k0.box then k0.es.map (jK ρ) else k0.es).length
     rw [this];exact a3.fH
   · intro i e he
     have he:(if k0.box then k0.es.map (jK ρ) else k0.es)[i]? = some e:=he
     split at he
     · rw [List.getElem?_map,Option.map_eq_some_iff] at he
       obtain ⟨d,hd,rfl⟩:=he
       rw [lu,List.length_map];exact a3.len i d hd
     · exact a3.len i e he
   · intro i e j c he hc
     have he:(if k0.box then k0.es.map (jK ρ) else k0.es)[i]? = some e:=he
     split at he
     · rename_i hb
       rw [List.getElem?_map,Option.map_eq_some_iff] at he
       obtain ⟨d,hd,rfl⟩:=he
       rw [lu,List.getElem?_map,Option.map_eq_some_iff] at hc
       obtain ⟨x,hx,rfl⟩:=hc
       obtain ⟨u,u1,u2,u3⟩:=a3.cell i d j x hd hx
       refine ⟨u,u1,u2,?_⟩
       show dh M J k0.box _ u
       rw [hb]
       exact u3.rel.rn
     · exact a3.cell i e j c he hc
 · intro r r' k k' L L' hk hk' hL hL' hN hN' hr
   obtain ⟨r0,k0,rfl,h1,rfl⟩:=xM hk
   obtain ⟨r1,k1,rfl,h2,rfl⟩:=xM hk'
   exact inv.apart r0 r1 k0 k1 L L' h1 h2 hL hL' hN hN' (fun e=>hr (by rw [e]))
 · intro r k L o u hk hL hN hu
   obtain ⟨r0,k0,rfl,h1,rfl⟩:=xM hk
   exact inv.owns r0 k0 L o u h1 hL hN hu
theorem TV {E:Env} {N:Nat} {f:FuncId} {args args':List AV} {hp hp':List (Nat × aG)} {R:AV -> List (Nat × aG) -> Prop} (ρ1 ρ2:Nat -> Nat) (hc:dn E N f args hp R) (ha:jK ρ1 args' = args) (hh:L6 ρ1 hp' = hp) :
   dn E N f args' hp' fun r hp1=>∃ r0 h0,R r0 h0 /\ r = vV ρ2 r0 /\ hp1 = L6 ρ2 h0:=by
 subst ha;subst hh
 intro M0 w0 c M J w vs inv hn hr
 obtain ⟨a,b⟩:=hc M0 w0 c M J w vs (inv.rn ρ1) (by rw [lu,List.length_map];exact hn) (fun i x v hx hv=>by
   rw [lu,List.getElem?_map,Option.map_eq_some_iff] at hx
   obtain ⟨d,hd,rfl⟩:=hx
   exact (hr i d v hd hv).rn)
 refine ⟨a,b.mono ?_⟩
 rintro e w' ⟨v,r,hp1,c',M',J',x1,x2,x3,x4,x5,x6⟩
 exact ⟨v,_,_,c',M',J',x1,⟨r,hp1,x2,rfl,rfl⟩,x3.rn ρ2,x4.rn,x5,x6⟩
theorem oz {E:Env} {N nm:Nat} {f:FuncId} {args args':List AV} {hp hp' hp0:List (Nat × aG)} {ct:Nat} {K:AV -> List (Nat × aG) -> Nat -> Prop} {R:AV -> List (Nat × aG) -> Prop} (ρ1 ρ2:Nat -> Nat) (F:List (Nat × aG))
   (hc:dn E N f args hp R) (ha:jK ρ1 args' = args) (hh:L6 ρ1 hp' = hp) (hs:subs hp0 hp') (hF:subs hp0 F) (hd:∀ r,get hp' r ≠ none -> get F r = none)
   (h:∀ r h1,R r h1 -> (∀ q,get (L6 ρ2 h1) q ≠ none -> get F q = none) /\ ∀ c',ct + 8 <= c' -> K (vV ρ2 r) (L6 ρ2 h1 ++ F) c'):Ev.dK E nm f args' hp0 ct K:=by
 refine Ev.sO F (TV ρ1 ρ2 hc ha hh) rfl hs hF hd ?_
 rintro r hp1 ⟨r0,h0,h1,rfl,rfl⟩
 exact h r0 h0 h1
end Go.Proofs.YtadlnaljicikfaaDoor.aI
namespace Go.Proofs.YtadlnaljicikfaaDoor.aI
open Go
set_option maxRecDepth 100000
attribute [local irreducible] Ev.iH Ev.iR Ev.bY Ev.runK Ev.cu Ev.gK Ev.Side Ev.Wp Ev.Again Ev.To Ev.Fin
open Go.Lib Go.RowKit
def xO:Ev.Pl:=(.one 0 false (.one 2 false (.one 3 false (.one 4 false (.one 5 false (.one 7 false (.one 8 false (.one 9 false (.two 1 (.two 6 (.one 10 false (.one 11 false (.one 12 false (.one 13 false (.one 14 false .fin))))) 10 (.one 6 false (.one 11 false (.one 12 false (.one 13 false (.one 14 false .fin)))))) 6 (.one 1 false (.one 10 false (.one 11 false (.one 12 false (.one 13 false (.one 14 false .fin)))))))))))))))
def xP:Ev.Tr:=(.one 0 false (.one 1 false (.one 2 false (.one 3 false (.one 4 false (.one 5 false (.one 6 false (.one 7 false (.one 11 false (.one 12 false (.one 13 false (.one 14 false (.one 16 false (.any (.alt 8 (.any (.alt 9 (.any (.alt 10 (.one 15 false (.one 17 false (.one 18 false (.one 19 false (.one 20 false (.one 21 false (.one 22 false (.one 23 false (.one 24 false (.one 25 false (.one 26 false .fin))))))))))) (.alt 15 (.any (.alt 10 (.one 17 false (.one 18 false (.one 19 false (.one 20 false (.one 21 false (.one 22 false (.one 23 false (.one 24 false (.one 25 false (.one 26 false .fin)))))))))) (.alt 17 (.one 10 false (.one 18 false (.one 19 false (.one 20 false (.one 21 false (.one 22 false (.one 23 false (.one 24 false (.one 25 false (.one 26 false .fin)))))))))) .stop))) (.alt 17 (.any (.alt 10 (.one 15 false (.one 18 false (.one 19 false (.one 20 false (.one 21 false (.one 22 false (.one 23 false (.one 24 false (.one 25 false (.one 26 false .fin)))))))))) (.alt 15 (.one 10 false (.one 18 false (.one 19 false (.one 20 false (.one 21 false (.one 22 false (.one 23 false (.one 24 false (.one 25 false (.one 26 false .fin)))))))))) .stop))) .stop)))) (.alt 15 (.any (.alt 9 (.any (.alt 10 (.one 17 false (.one 18 false (.one 19 false (.one 20 false (.one 21 false (.one 22 false (.one 23 false (.one 24 false (.one 25 false (.one 26 false .fin)))))))))) (.alt 17 (.one 10 false (.one 18 false (.one 19 false (.one 20 false (.one 21 false (.one 22 false (.one 23 false (.one 24 false (.one 25 false (.one 26 false .fin)))))))))) .stop))) (.alt 17 (.one 9 false (.one 10 false (.one 18 false (.one 19 false (.one 20 false (.one 21 false (.one 22 false (.one 23 false (.one 24 false (.one 25 false (.one 26 false .fin))))))))))) .stop))) (.alt 17 (.any (.alt 9 (.any (.alt 10 (.one 15 false (.one 18 false (.one 19 false (.one 20 false (.one 21 false (.one 22 false (.one 23 false (.one 24 false (.one 25 false (.one 26 false .fin)))))))))) (.alt 15 (.one 10 false (.one 18 false (.one 19 false (.one 20 false (.one 21 false (.one 22 false (.one 23 false (.one 24 false (.one 25 false (.one 26 false .fin)))))))))) .stop))) (.alt 15 (.one 9 false (.one 10 false (.one 18 false (.one 19 false (.one 20 false (.one 21 false (.one 22 false (.one 23 false (.one 24 false (.one 25 false (.one 26 false .fin))))))))))) .stop))) .stop)))) (.alt 15 (.any (.alt 8 (.any (.alt 9 (.any (.alt 10 (.one 17 false (.one 18 false (.one 19 false (.one 20 false (.one 21 false (.one 22 false (.one 23 false (.one 24 false (.one 25 false (.one 26 false .fin)))))))))) (.alt 17 (.one 10 false (.one 18 false (.one 19 false (.one 20 false (.one 21 false (.one 22 false (.one 23 false (.one 24 false (.one 25 false (.one 26 false .fin)))))))))) .stop))) (.alt 17 (.one 9 false (.one 10 false (.one 18 false (.one 19 false (.one 20 false (.one 21 false (.one 22 false (.one 23 false (.one 24 false (.one 25 false (.one 26 false .fin))))))))))) .stop))) (.alt 17 (.one 8 false (.one 9 false (.one 10 false (.one 18 false (.one 19 false (.one 20 false (.one 21 false (.one 22 false (.one 23 false (.one 24 false (.one 25 false (.one 26 false .fin)))))))))))) .stop))) (.alt 17 (.any (.alt 8 (.any (.alt 9 (.any (.alt 10 (.one 15 false (.one 18 false (.one 19 false (.one 20 false (.one 21 false (.one 22 false (.one 23 false (.one 24 false (.one 25 false (.one 26 false .fin)))))))))) (.alt 15 (.one 10 false (.one 18 false (.one 19 false (.one 20 false (.one 21 false (.one 22 false (.one 23 false (.one 24 false (.one 25 false (.one 26 false .fin)))))))))) .stop))) (.alt 15 (.one 9 false (.one 10 false (.one 18 false (.one 19 false (.one 20 false (.one 21 false (.one 22 false (.one 23 false (.one 24 false (.one 25 false (.one 26 false .fin))))))))))) .stop))) (.alt 15 (.one 8 false (.one 9 false (.one 10 false (.one 18 false (.one 19 false (.one 20 false (.one 21 false (.one 22 false (.one 23 false (.one 24 false (.one 25 false (.one 26 false .fin)))))))))))) .stop))) .stop)))))))))))))))))
theorem Kq:∀ c,Tryd.f24.body = some c -> comp c = (.seq (.reg 0 [I.n 0 2 (.assign (.const (Value.pointer none))),I.n 1 3 (I.si 0)]) (.seq (.reg 1 [I.n 0 5 (I.mv 0),I.n 1 6 (I.c1 32 5 9),I.n 2 4 (I.sa 6)]) (.block 0 (.seq (.reg 3 [I.n 0 14 (I.mv 4),I.n 1 15 (I.bc .lss 3 14 0 3),I.n 2 13 (I.sa 15)]) (.cond (.tmp 13) (.seq (.reg 4 [I.n 0 2 (.assign (.const (Value.pointer none))),I.n 1 3 (I.si 3)]) .ret) (.seq (.reg 5 [I.n 0 17 (I.mv 4),I.n 1 18 (I.bc .gtr 3 17 1048576 3),I.n 2 16 (I.sa 18)]) (.cond (.tmp 16) (.seq (.reg 6 [I.n 0 2 (.assign (.const (Value.pointer none))),I.n 1 3 (I.si 4)]) .ret) (.seq (.reg 2 [I.n 0 7 (I.mv 4),I.n 1 8 (I.b1 25 7),I.n 2 9 (.build 42 #[(1,.tmp 8)]),I.n 3 10 (I.mv 0),I.n 4 11 (.build 44 #[(0,.tmp 9),(1,.tmp 10)]),I.n 5 12 (.box 44 (.tmp 11)),I.n 6 2 (I.sa 12),I.n 7 3 (I.si 0)]) .ret)))))))):=by
 intro c h
 have:c = Tryd.f24.body.get rfl:=by rw [<- Option.some_inj,<- h];rfl
 rw [this];rfl
theorem eG:∀ c,Tryd.f29.body = some c -> comp c = (.seq (.reg 0 [I.n 0 2 (I.si 0)]) (.seq (.reg 1 [I.n 0 3 (I.mv 0),I.n 1 4 (I.nc 3),I.n 2 5 (I.fa 42 4 0),I.n 3 6 (I.ld 22 5),I.n 4 7 (I.ln 6 22),I.n 5 2 (I.sa 7)]) .ret)):=by
 intro c h
 have:c = Tryd.f29.body.get rfl:=by rw [<- Option.some_inj,<- h];rfl
 rw [this];rfl
theorem lF:∀ c,Tryd.f77.body = some c -> comp c = (.seq (.reg 0 [I.n 0 4 (I.sb false)]) (.seq (.reg 1 [I.n 0 5 (I.mv 1),I.n 1 6 (I.bc .geq 3 5 0 3),I.n 2 7 (I.mv 6),I.w 3 8 (I.mv 1) 7 true,I.w 4 9 (I.mv 0) 7 true,I.w 5 10 (I.c1 29 9 108) 7 true,I.w 6 11 (I.bo .leq 3 8 10 3) 7 true,I.n 7 12 (I.pc 7 11 false),I.n 8 4 (I.sa 12)]) .ret)):=by
 intro c h
 have:c = Tryd.f77.body.get rfl:=by rw [<- Option.some_inj,<- h];rfl
 rw [this];rfl
theorem TW:∀ c,Tryd.f25.body = some c -> comp c = (.seq (.reg 0 [I.n 0 4 (I.si 0)]) (.seq (.seq (.reg 1 [I.n 0 7 (I.mv 1),I.n 1 8 (I.c1 72 7 23),I.n 2 5 (I.sa 8)]) (.seq (.reg 2 [I.n 0 9 (I.mv 5),I.n 1 10 (I.bc .neq 30 9 0 30)]) (.cond (.tmp 10) (.seq (.reg 3 [I.n 0 11 (I.mv 5),I.n 1 4 (I.sa 11)]) .ret) .skip))) (.seq (.reg 4 [I.n 0 12 (I.mv 1),I.n 1 13 (I.c1 73 12 23),I.n 2 6 (I.sa 13)]) (.seq (.block 0 (.seq (.draw 5 [I.n 0 15 (I.mv 1),I.n 1 16 (I.c1 74 15 23),I.n 2 17 (I.mv 0),I.n 3 18 (I.nc 17),I.n 4 19 (I.fa 44 18 0),I.n 5 20 (I.fa 42 19 1),I.n 6 21 (I.ld 25 20),I.n 7 22 (I.mv 0),I.n 8 23 (I.nc 22),I.n 9 24 (I.fa 44 23 0),I.n 10 25 (I.c1 29 24 42),I.n 11 26 (I.ia 25 21 25),I.n 12 27 (I.ld 3 26),I.n 13 28 (I.bo .neq 3 16 27 3),I.n 14 14 (I.sa 28)] [[],[0],[],[2],[3],[4],[5],[],[7],[8],[9,1],[6,10],[11],[1,12],[13,10]]) (.cond (.tmp 14) (.seq (.reg 6 [I.n 0 4 (I.si 5)]) .ret) (.seq (.reg 7 [I.n 0 30 (I.mv 6),I.n 1 31 (I.bc .gtr 3 30 1048576 3),I.n 2 29 (I.sa 31)]) (.cond (.tmp 29) (.seq (.reg 8 [I.n 0 4 (I.si 4)]) .ret) .skip))))) (.seq (.draw 9 [I.n 0 32 (I.mv 0),I.n 1 33 (I.mv 0),I.n 2 34 (I.mv 0),I.n 3 35 (I.nc 34),I.n 4 36 (I.fa 44 35 0),I.n 5 37 (I.fa 42 36 0),I.n 6 38 (I.ld 22 37),I.n 7 39 (I.mv 1),I.n 8 40 (I.c1 35 39 23),I.n 9 41 (I.b1 22 40),I.n 10 42 (I.ap 38 41 22 22),I.n 11 43 (I.mv 0),I.n 12 44 (I.nc 43),I.n 13 45 (I.fa 44 44 0),I.n 14 46 (I.fa 42 45 1),I.n 15 47 (I.ld 25 46),I.n 16 48 (I.mv 6),I.n 17 49 (I.b1 25 48),I.n 18 50 (I.ap 47 49 25 25),I.n 19 51 (I.nc 32),I.n 20 52 (I.fa 44 51 0),I.n 21 53 (I.fa 42 52 0),I.u 22 (I.st 22 53 42),I.n 23 54 (I.nc 33),I.n 24 55 (I.fa 44 54 0),I.n 25 56 (I.fa 42 55 1),I.u 26 (I.st 25 56 50)] [[],[],[],[2],[3],[4],[5],[],[7],[8],[6,9,8],[],[11],[12],[13],[14],[],[16],[15,17,10],[0,0,2,3,4,5,6,7,8,9,10,15,18],[19,0,2,3,4,5,6,7,8,9,10,15,18],[20,0,2,3,4,5,6,7,8,9,10,15,18],[21,10,18,0,2,3,4,5,6,7,8,9,10,15,18],[1,0,1,2,3,4,5,6,7,8,9,10,11,12,13,14,15,16,17,18,19,20,21,22],[23,0,1,2,3,4,5,6,7,8,9,10,11,12,13,14,15,16,17,18,19,20,21,22],[24,0,1,2,3,4,5,6,7,8,9,10,11,12,13,14,15,16,17,18,19,20,21,22],[25,18,22,0,1,2,3,4,5,6,7,8,9,10,11,12,13,14,15,16,17,18,19,20,21,22]]) (.seq (.reg 10 [I.n 0 4 (I.si 0)]) .ret)))))):=by
 intro c h
 have:c = Tryd.f25.body.get rfl:=by rw [<- Option.some_inj,<- h];rfl
 rw [this];rfl
abbrev cO (t:ByteArray):Int:=bG t.data.toList
def newE (t:ByteArray):Int:=if cO t < 0 then 3 else if 1048576 < cO t then 4 else 0
theorem aec{G:Prop}(h:G:=by
 unfold newE at h
 have h0:¬ bG t.data.toList < 0:=fun h0=>by rw [if_pos h0] at h;cases h
 have h1:¬ 1048576 < bG t.data.toList:=fun h1=>by rw [if_neg h0,if_pos h1] at h;cases h
 all_goals(rcases(⟨_⟩:PLift _)with⟨h⟩;exact h)):G:=h
theorem L8 (t:ByteArray) (ht:t.size <= 1000000000) (h:newE t = 0) :
   aO env 24 [.v (.string t)] (fun r hs=>r = .dM [.ptr 0 0 0 0,.v (.int .i64 0)] /\ hs = [⟨3,44,0,0,true,[[nilA,.own 1 1 0 1,.v (.string t)]]⟩,⟨1,3,1,0,false,[[.v (.int .i64 (cO t))]]⟩]):=by
 have hC:=jO t ht
 refine' aec
 refine Ev.fnO [0,2,3,4,13,16] 0 [.tmp 2,.tmp 3] Tryd.func24 (Kq _ rfl) ?_
 repeat' (first | (with_reducible refine Ev.aP h0 ?_) | (with_reducible refine Ev.aK h0 ?_) | (with_reducible refine Ev.aP h1 ?_) | (with_reducible refine Ev.aK h1 ?_) | refine' Ev.zP | refine' Ev.zS | refine' Ev.zK | ((with_reducible refine Ev.ca0 ?_);(first | refine Ev.ca (hC) ?_);conv=>whnf) | refine' Ev.zT | fail)
 refine Ev.IY [(1064,8),(1032,0)] (by simp) (fun F hF=>?_)
 conv=>whnf
 refine hF _ ?_
 exact ⟨rfl,rfl⟩
theorem TY (t:ByteArray) (ht:t.size <= 1000000000) (h:newE t ≠ 0) :
   aO env 24 [.v (.string t)] (fun r hs=>r = .dM [.v (.pointer none),.v (.int .i64 (newE t))] /\ hs = []):=by
 have hC:=jO t ht
 unfold newE at h ⊢
 by_cases h0:bG t.data.toList < 0
 · rw [if_pos h0]
   refine Ev.fn [0,2,3,4,13,16] 0 [.tmp 2,.tmp 3] Tryd.func24 (Kq _ rfl) ?_
   repeat' (first | (with_reducible refine Ev.aJ h0 ?_) | (with_reducible refine Ev.aF h0 ?_) | refine' Ev.zP | refine' Ev.zS | refine' Ev.zK | ((with_reducible refine Ev.ca0 ?_);(first | refine Ev.ca (hC) ?_);conv=>whnf) | refine' Ev.zT | fail)
   exact ⟨rfl,rfl⟩
 · by_cases h1:1048576 < bG t.data.toList
   · rw [if_neg h0,if_pos h1]
     refine Ev.fn [0,2,3,4,13,16] 0 [.tmp 2,.tmp 3] Tryd.func24 (Kq _ rfl) ?_
     repeat' (first | (with_reducible refine Ev.aP h0 ?_) | (with_reducible refine Ev.aK h0 ?_) | (with_reducible refine Ev.aJ h1 ?_) | (with_reducible refine Ev.aF h1 ?_) | refine' Ev.zP | refine' Ev.zS | refine' Ev.zK | ((with_reducible refine Ev.ca0 ?_);(first | refine Ev.ca (hC) ?_);conv=>whnf) | refine' Ev.zT | fail)
     exact ⟨rfl,rfl⟩
   · rw [if_neg h0,if_neg h1] at h;exact absurd rfl h
abbrev iD (B L S vb vl fl vs fs:Nat) (Ls:List (List Sp)) (Ns:List Int) (t:ByteArray):List (Nat × aG) :=
 [(B,⟨3,44,vb,0,true,[[.own L vl 0 Ls.length,.own S vs 0 Ns.length,.v (.string t)]]⟩),(L,⟨1,23,vl,fl,false,aX Ls⟩),(S,⟨1,3,vs,fs,false,ints Ns⟩)]
def gq (w:List Sp) (n:Int):Int:=if aC w ≠ 0 then aC w else if iT w ≠ n then 5 else if 1048576 < outW w then 4 else 0
theorem um (Ls:List (List Sp)) (x:List Sp):aX Ls ++ List.take 1 (List.drop 0 [[AV.lst 3 (aT x)]]) = aX (Ls ++ [x]):=by simp [aX]
theorem Ie (Ns:List Int) (n:Int):ints Ns ++ List.take 1 (List.drop 0 [[AV.v (.int .i64 n)]]) = ints (Ns ++ [n]):=by simp [ints]
set_option maxHeartbeats 4000000 in
theorem XK (vb vl fl vs fs:Nat) (Ls:List (List Sp)) (Ns:List Int) (t:ByteArray) (w:List Sp) (hw:w.length <= 100000000) (hb:bT w <= 1000000000) (hN:Ns.length = Ls.length + 1) (hL:Ls.length <= 1000000)
    (he:gq w (Ns.getLast (by intro e;rw [e] at hN;simp at hN)) = 0) :
    dn env 65536 25 [.ptr 7000 vb 0 0,.lst 3 (aT w)] (iD 7000 7001 7002 vb vl fl vs fs Ls Ns t)
      (fun r h=>r = .v (.int .i64 0) /\ ∃ iW vs':Nat,subs h (iD 7000 7001 7002 vb iW fl vs' fs (Ls ++ [norm w]) (Ns ++ [outW w]) t)):=by
  have hsm:=dD hb
  have hM:=dL w (by omega) hsm
  have hO:=mY w (by omega) hsm
  have hI:=fF w (by omega)
  have hF:=sG w hw hb
  have hrl:=bW Ls
  have hil:=iI Ns
  unfold gq at he
  have m0:aC w = 0:=Decidable.byContradiction fun h=>by rw [if_pos h] at he;exact h he
  rw [if_neg (by simpa using m0)] at he
  have m1:iT w = Ns.getLast _:=Decidable.byContradiction fun h=>by rw [if_pos h] at he;cases he
  rw [if_neg (by simpa using m1)] at he
  have m2:¬ 1048576 < outW w:=fun h=>by rw [if_pos h] at he;cases he
  have m2:¬ 1048576 < sumW (fun s=>kQ s.k s.n s.t) w:=m2
  rw [m0] at hM
  rw [List.getLast_eq_getElem] at m1
  have xU:sumW (fun s=>kN s.k s.n) w = Ns[Ns.length - 1]:=m1
  have xU:∀ h:Ls.length < Ns.length,sumW (fun s=>kN s.k s.n) w = Ns[Ls.length]'h:=fun h=>by
    rw [xU];congr 1;omega
  refine Ev.Cj [0,1,4,5,6,10,14,29] 65536 [.tmp 4] Tryd.func25 (TW _ rfl) (fun ct=>?_)
  repeat' (first | (with_reducible refine Ev.join (a:=.block 0 _) (fun s=>∃ c:Nat,s = ⟨[(0,.ptr 7000 vb 0 0),(1,.lst 3 (aT w)),(6,.v (.int .i64 (outW w)))],iD 7000 7001 7002 vb vl fl vs fs Ls Ns t,c⟩ /\ True) ?_ ?_) | (with_reducible refine Ev.aP m2 ?_) | (with_reducible refine Ev.aK m2 ?_) | (with_reducible refine Ev.aJ (xU _) ?_) | (with_reducible refine Ev.aF (xU _) ?_) | refine' Ev.zP | refine' Ev.zS | ((with_reducible refine Ev.kr (hs:=[29]) (fun Q hQ=>?_));refine' Ev.zR) | ((with_reducible refine Ev.kZ 29 ?_);refine Ev.il 29 [0,2] [.tmp 2] Tryd.func29 (eG _ rfl) (fun aW=>?_)) | ((with_reducible refine Ev.ca0 ?_);(first | refine Ev.ca (hM) ?_ | refine Ev.ca (hO) ?_ | refine Ev.ca (hI) ?_ | refine Ev.ca (hF) ?_);conv=>whnf) | ((with_reducible refine Ev.dG ?_);(first | refine Ev.Bq 5 [29] xO ?_);intro Q hQ;(simp only [Ev.dU,Ev.dA,Ev.dB,Ev.dV]);conv=>whnf) | ((with_reducible refine Ev.dG ?_);(first | refine Ev.WE 9 [29] [[],[],[],[2],[2,3],[2,3,4],[2,3,4,5],[],[7],[7,8],[2,3,4,5,6,7,8,9],[],[11],[11,12],[11,12,13],[11,12,13,14],[],[16],[2,3,4,5,6,7,8,9,10,11,12,13,14,15,16,17],[0,2,3,4,5,6,7,8,9,10,11,12,13,14,15,16,17,18],[0,2,3,4,5,6,7,8,9,10,11,12,13,14,15,16,17,18,19],[0,2,3,4,5,6,7,8,9,10,11,12,13,14,15,16,17,18,19,20],[0,2,3,4,5,6,7,8,9,10,11,12,13,14,15,16,17,18,19,20,21],[0,1,2,3,4,5,6,7,8,9,10,11,12,13,14,15,16,17,18,19,20,21,22],[0,1,2,3,4,5,6,7,8,9,10,11,12,13,14,15,16,17,18,19,20,21,22,23],[0,1,2,3,4,5,6,7,8,9,10,11,12,13,14,15,16,17,18,19,20,21,22,23,24],[0,1,2,3,4,5,6,7,8,9,10,11,12,13,14,15,16,17,18,19,20,21,22,23,24,25]] xP ?_);intro Q hQ;(simp only [Ev.jX,Ev.jl,Ev.jm,Ev.jo,Ev.jY,Ev.jZ]);conv=>whnf) | ((with_reducible refine Ev.both ?_ ?_) <;> (conv=>whnf)) | exact True.intro | refine' Ev.zT | fail)
  · refine Ev.zB ⟨c',rfl,?_⟩
    trivial
  · refine Ev.zB ⟨c',rfl,?_⟩
    trivial
  · refine Ev.zB ⟨c',rfl,?_⟩
    trivial
  rintro _ ⟨c,rfl,_⟩
  repeat' (first | refine' Ev.zP | refine' Ev.zS | ((with_reducible refine Ev.kr (hs:=[29]) (fun Q hQ=>?_));refine' Ev.zR) | ((with_reducible refine Ev.kZ 29 ?_);refine Ev.il 29 [0,2] [.tmp 2] Tryd.func29 (eG _ rfl) (fun aW=>?_)) | ((with_reducible refine Ev.ca0 ?_);(first | refine Ev.ca (hF) ?_);conv=>whnf) | ((with_reducible refine Ev.dG ?_);(first | refine Ev.Bq 5 [29] xO ?_);intro Q hQ;(simp only [Ev.dU,Ev.dA,Ev.dB,Ev.dV]);conv=>whnf) | ((with_reducible refine Ev.dG ?_);(first | refine Ev.WE 9 [29] [[],[],[],[2],[2,3],[2,3,4],[2,3,4,5],[],[7],[7,8],[2,3,4,5,6,7,8,9],[],[11],[11,12],[11,12,13],[11,12,13,14],[],[16],[2,3,4,5,6,7,8,9,10,11,12,13,14,15,16,17],[0,2,3,4,5,6,7,8,9,10,11,12,13,14,15,16,17,18],[0,2,3,4,5,6,7,8,9,10,11,12,13,14,15,16,17,18,19],[0,2,3,4,5,6,7,8,9,10,11,12,13,14,15,16,17,18,19,20],[0,2,3,4,5,6,7,8,9,10,11,12,13,14,15,16,17,18,19,20,21],[0,1,2,3,4,5,6,7,8,9,10,11,12,13,14,15,16,17,18,19,20,21,22],[0,1,2,3,4,5,6,7,8,9,10,11,12,13,14,15,16,17,18,19,20,21,22,23],[0,1,2,3,4,5,6,7,8,9,10,11,12,13,14,15,16,17,18,19,20,21,22,23,24],[0,1,2,3,4,5,6,7,8,9,10,11,12,13,14,15,16,17,18,19,20,21,22,23,24,25]] xP ?_);intro Q hQ;(simp only [Ev.jX,Ev.jl,Ev.jm,Ev.jo,Ev.jY,Ev.jZ]);conv=>whnf) | ((with_reducible refine Ev.both ?_ ?_) <;> (conv=>whnf)) | exact True.intro | refine' Ev.zT | fail)
  all_goals
    refine ⟨rfl,?_⟩
    apply Exists.intro
    apply Exists.intro
    refine ⟨Ev.ah rfl ?_,Ev.ah rfl ?_,Ev.ah rfl ?_,trivial⟩
    · rw [List.length_append,List.length_append];rfl
    · rw [um]
    · rw [Ie]
theorem aer{G:Prop}(h:G:=by (refine Ev.Cj [0,1,4,5,6,10,14,29] 65536 [.tmp 4] Tryd.func25 (TW _ rfl) (fun ct=>?_));all_goals(rcases(⟨_⟩:PLift _)with⟨h⟩;exact h)):G:=h
theorem PD (vb vl fl vs fs:Nat) (Ls:List (List Sp)) (Ns:List Int) (t:ByteArray) (w:List Sp) (hw:w.length <= 100000000) (hb:bT w <= 1000000000) (hN:Ns.length = Ls.length + 1) (hL:Ls.length <= 1000000) :
   dn env 65536 25 [.ptr 7000 vb 0 0,.lst 3 (aT w)] (iD 7000 7001 7002 vb vl fl vs fs Ls Ns t)
     (fun r h=>r = .v (.int .i64 (gq w (Ns.getLast (by intro e;rw [e] at hN;simp at hN)))) /\ ∃ iW vs':Nat,h = iD 7000 7001 7002 vb iW fl vs' fs (Ls ++ if gq w (Ns.getLast (by intro e;rw [e] at hN;simp at hN)) = 0 then [norm w] else []) (Ns ++ if gq w (Ns.getLast (by intro e;rw [e] at hN;simp at hN)) = 0 then [outW w] else []) t):=by
 by_cases he:gq w (Ns.getLast (by intro e;rw [e] at hN;simp at hN)) = 0
 · refine iQ (XK vb vl fl vs fs Ls Ns t w hw hb hN hL he) ?_
   rintro r hp1 ⟨rfl,iW,vs',h⟩
   rw [he,if_pos rfl,if_pos rfl]
   exact ⟨_,⟨rfl,iW,vs',rfl⟩,h⟩
 · rw [if_neg he,if_neg he,List.append_nil,List.append_nil]
   have hsm:=dD hb
   have hM:=dL w (by omega) hsm
   have hO:=mY w (by omega) hsm
   have hI:=fF w (by omega)
   have hrl:=bW Ls
   have hil:=iI Ns
   unfold gq at he ⊢
   by_cases m0:aC w = 0
   · rw [if_neg (by simpa using m0)] at he ⊢
     rw [m0] at hM
     by_cases m1:iT w = Ns.getLast (by intro e;rw [e] at hN;simp at hN)
     · rw [if_neg (by simpa using m1)] at he ⊢
       by_cases m2:1048576 < outW w
       · rw [if_pos m2]
         have m2:1048576 < sumW (fun s=>kQ s.k s.n s.t) w:=m2
         rw [List.getLast_eq_getElem] at m1
         have xU:∀ h:Ls.length < Ns.length,sumW (fun s=>kN s.k s.n) w = Ns[Ls.length]'h:=fun h=>by
           have xU:sumW (fun s=>kN s.k s.n) w = Ns[Ns.length - 1]:=m1
           rw [xU];congr 1;omega
         refine' aer
         repeat' (first | (with_reducible refine Ev.aJ m2 ?_) | (with_reducible refine Ev.aF m2 ?_) | (with_reducible refine Ev.aJ (xU _) ?_) | (with_reducible refine Ev.aF (xU _) ?_) | refine' Ev.zP | refine' Ev.zS | ((with_reducible refine Ev.kr (hs:=[29]) (fun Q hQ=>?_));refine' Ev.zR) | ((with_reducible refine Ev.kZ 29 ?_);refine Ev.il 29 [0,2] [.tmp 2] Tryd.func29 (eG _ rfl) (fun aW=>?_)) | ((with_reducible refine Ev.ca0 ?_);(first | refine Ev.ca (hM) ?_ | refine Ev.ca (hO) ?_ | refine Ev.ca (hI) ?_);conv=>whnf) | ((with_reducible refine Ev.dG ?_);(first | refine Ev.Bq 5 [29] xO ?_);intro Q hQ;(simp only [Ev.dU,Ev.dA,Ev.dB,Ev.dV]);conv=>whnf) | ((with_reducible refine Ev.dG ?_);(first | refine Ev.WE 9 [29] [[],[],[],[2],[2,3],[2,3,4],[2,3,4,5],[],[7],[7,8],[2,3,4,5,6,7,8,9],[],[11],[11,12],[11,12,13],[11,12,13,14],[],[16],[2,3,4,5,6,7,8,9,10,11,12,13,14,15,16,17],[0,2,3,4,5,6,7,8,9,10,11,12,13,14,15,16,17,18],[0,2,3,4,5,6,7,8,9,10,11,12,13,14,15,16,17,18,19],[0,2,3,4,5,6,7,8,9,10,11,12,13,14,15,16,17,18,19,20],[0,2,3,4,5,6,7,8,9,10,11,12,13,14,15,16,17,18,19,20,21],[0,1,2,3,4,5,6,7,8,9,10,11,12,13,14,15,16,17,18,19,20,21,22],[0,1,2,3,4,5,6,7,8,9,10,11,12,13,14,15,16,17,18,19,20,21,22,23],[0,1,2,3,4,5,6,7,8,9,10,11,12,13,14,15,16,17,18,19,20,21,22,23,24],[0,1,2,3,4,5,6,7,8,9,10,11,12,13,14,15,16,17,18,19,20,21,22,23,24,25]] xP ?_);intro Q hQ;(simp only [Ev.jX,Ev.jl,Ev.jm,Ev.jo,Ev.jY,Ev.jZ]);conv=>whnf) | ((with_reducible refine Ev.both ?_ ?_) <;> (conv=>whnf)) | exact True.intro | refine' Ev.zT | fail)
         all_goals exact ⟨rfl,vl,vs,rfl⟩
       · rw [if_neg m2] at he;exact absurd rfl he
     · rw [if_pos m1]
       rw [List.getLast_eq_getElem] at m1
       have xU:∀ h:Ls.length < Ns.length,¬ sumW (fun s=>kN s.k s.n) w = Ns[Ls.length]'h:=fun h e=>by
         refine m1 ?_
         show sumW (fun s=>kN s.k s.n) w = Ns[Ns.length - 1]
         rw [e];congr 1;omega
       refine' aer
       repeat' (first | (with_reducible refine Ev.aP (xU _) ?_) | (with_reducible refine Ev.aK (xU _) ?_) | refine' Ev.zP | refine' Ev.zS | ((with_reducible refine Ev.kr (hs:=[29]) (fun Q hQ=>?_));refine' Ev.zR) | ((with_reducible refine Ev.kZ 29 ?_);refine Ev.il 29 [0,2] [.tmp 2] Tryd.func29 (eG _ rfl) (fun aW=>?_)) | ((with_reducible refine Ev.ca0 ?_);(first | refine Ev.ca (hM) ?_ | refine Ev.ca (hO) ?_ | refine Ev.ca (hI) ?_);conv=>whnf) | ((with_reducible refine Ev.dG ?_);(first | refine Ev.Bq 5 [29] xO ?_);intro Q hQ;(simp only [Ev.dU,Ev.dA,Ev.dB,Ev.dV]);conv=>whnf) | ((with_reducible refine Ev.dG ?_);(first | refine Ev.WE 9 [29] [[],[],[],[2],[2,3],[2,3,4],[2,3,4,5],[],[7],[7,8],[2,3,4,5,6,7,8,9],[],[11],[11,12],[11,12,13],[11,12,13,14],[],[16],[2,3,4,5,6,7,8,9,10,11,12,13,14,15,16,17],[0,2,3,4,5,6,7,8,9,10,11,12,13,14,15,16,17,18],[0,2,3,4,5,6,7,8,9,10,11,12,13,14,15,16,17,18,19],[0,2,3,4,5,6,7,8,9,10,11,12,13,14,15,16,17,18,19,20],[0,2,3,4,5,6,7,8,9,10,11,12,13,14,15,16,17,18,19,20,21],[0,1,2,3,4,5,6,7,8,9,10,11,12,13,14,15,16,17,18,19,20,21,22],[0,1,2,3,4,5,6,7,8,9,10,11,12,13,14,15,16,17,18,19,20,21,22,23],[0,1,2,3,4,5,6,7,8,9,10,11,12,13,14,15,16,17,18,19,20,21,22,23,24],[0,1,2,3,4,5,6,7,8,9,10,11,12,13,14,15,16,17,18,19,20,21,22,23,24,25]] xP ?_);intro Q hQ;(simp only [Ev.jX,Ev.jl,Ev.jm,Ev.jo,Ev.jY,Ev.jZ]);conv=>whnf) | ((with_reducible refine Ev.both ?_ ?_) <;> (conv=>whnf)) | exact True.intro | refine' Ev.zT | fail)
       all_goals exact ⟨rfl,vl,vs,rfl⟩
   · rw [if_pos m0]
     refine' aer
     repeat' (first | (with_reducible refine Ev.aP m0 ?_) | (with_reducible refine Ev.aK m0 ?_) | refine' Ev.zP | refine' Ev.zS | ((with_reducible refine Ev.kr (hs:=[29]) (fun Q hQ=>?_));refine' Ev.zR) | ((with_reducible refine Ev.kZ 29 ?_);refine Ev.il 29 [0,2] [.tmp 2] Tryd.func29 (eG _ rfl) (fun aW=>?_)) | ((with_reducible refine Ev.ca0 ?_);(first | refine Ev.ca (hM) ?_ | refine Ev.ca (hO) ?_ | refine Ev.ca (hI) ?_);conv=>whnf) | ((with_reducible refine Ev.dG ?_);(first | refine Ev.Bq 5 [29] xO ?_);intro Q hQ;(simp only [Ev.dU,Ev.dA,Ev.dB,Ev.dV]);conv=>whnf) | ((with_reducible refine Ev.dG ?_);(first | refine Ev.WE 9 [29] [[],[],[],[2],[2,3],[2,3,4],[2,3,4,5],[],[7],[7,8],[2,3,4,5,6,7,8,9],[],[11],[11,12],[11,12,13],[11,12,13,14],[],[16],[2,3,4,5,6,7,8,9,10,11,12,13,14,15,16,17],[0,2,3,4,5,6,7,8,9,10,11,12,13,14,15,16,17,18],[0,2,3,4,5,6,7,8,9,10,11,12,13,14,15,16,17,18,19],[0,2,3,4,5,6,7,8,9,10,11,12,13,14,15,16,17,18,19,20],[0,2,3,4,5,6,7,8,9,10,11,12,13,14,15,16,17,18,19,20,21],[0,1,2,3,4,5,6,7,8,9,10,11,12,13,14,15,16,17,18,19,20,21,22],[0,1,2,3,4,5,6,7,8,9,10,11,12,13,14,15,16,17,18,19,20,21,22,23],[0,1,2,3,4,5,6,7,8,9,10,11,12,13,14,15,16,17,18,19,20,21,22,23,24],[0,1,2,3,4,5,6,7,8,9,10,11,12,13,14,15,16,17,18,19,20,21,22,23,24,25]] xP ?_);intro Q hQ;(simp only [Ev.jX,Ev.jl,Ev.jm,Ev.jo,Ev.jY,Ev.jZ]);conv=>whnf) | ((with_reducible refine Ev.both ?_ ?_) <;> (conv=>whnf)) | exact True.intro | refine' Ev.zT | fail)
     all_goals exact ⟨rfl,vl,vs,rfl⟩
theorem abT:∀ c,Tryd.f30.body = some c -> comp c = (.seq (.reg 0 [I.n 0 4 (.assign (.const (Value.string { data:=#[] }))),I.n 1 5 (I.si 0)]) (.seq (.seq (.reg 1 [I.n 0 6 (I.mv 0),I.n 1 7 (I.nc 6),I.n 2 8 (I.fa 44 7 0),I.n 3 9 (I.mv 1),I.n 4 10 (I.c2 77 8 9 42 3),I.n 5 11 (.unOp .not 4 (.tmp 10))]) (.cond (.tmp 11) (.seq (.reg 2 [I.n 0 4 (.assign (.const (Value.string { data:=#[] }))),I.n 1 5 (I.si 6)]) .ret) .skip)) (.seq (.draw 3 [I.n 0 12 (I.mv 0),I.n 1 13 (I.nc 12),I.n 2 14 (I.fa 44 13 1),I.n 3 15 (I.ld 9 14),I.n 4 16 (I.mv 0),I.n 5 17 (I.nc 16),I.n 6 18 (I.fa 44 17 0),I.n 7 19 (I.fa 42 18 0),I.n 8 20 (I.ld 22 19),I.n 9 21 (I.mv 1),I.n 10 22 (.slice 22 (.tmp 20) none (some (.tmp 21)) none),I.n 11 23 (I.c2 57 15 22 9 22),I.n 12 24 (I.ex 23 0),I.n 13 25 (I.ex 23 1),I.n 14 4 (I.sa 24),I.n 15 5 (I.sa 25)] [[],[0],[1],[2],[],[4],[5],[6],[7],[],[8,9],[3,10],[11],[11],[12,11,0,1,2,3,4,5,6,7,8,9,10,11,12,13],[13,14,0,1,2,3,4,5,6,7,8,9,10,11,12,13,14]]) .ret))):=by
 intro c h
 have:c = Tryd.f30.body.get rfl:=by rw [<- Option.some_inj,<- h];rfl
 rw [this];rfl
theorem Ua:∀ c,Tryd.f33.body = some c -> comp c = (.seq (.reg 0 [I.n 0 6 I.sn,I.n 1 7 (I.si 0)]) (.seq (.seq (.reg 1 [I.n 0 9 (I.mv 0),I.n 1 10 (I.nc 9),I.n 2 11 (I.fa 44 10 0),I.n 3 12 (I.mv 2),I.n 4 13 (I.c2 77 11 12 42 3),I.n 5 14 (.unOp .not 4 (.tmp 13))]) (.cond (.tmp 14) (.seq (.reg 2 [I.n 0 6 I.sn,I.n 1 7 (I.si 6)]) .ret) .skip)) (.seq (.seq (.reg 3 [I.n 0 15 (I.mv 1),I.n 1 16 (I.c1 72 15 23),I.n 2 8 (I.sa 16)]) (.seq (.reg 4 [I.n 0 17 (I.mv 8),I.n 1 18 (I.bc .neq 30 17 0 30)]) (.cond (.tmp 18) (.seq (.reg 5 [I.n 0 19 (I.mv 8),I.n 1 6 I.sn,I.n 2 7 (I.sa 19)]) .ret) .skip))) (.seq (.seq (.draw 6 [I.n 0 20 (I.mv 1),I.n 1 21 (I.c1 74 20 23),I.n 2 22 (I.mv 0),I.n 3 23 (I.nc 22),I.n 4 24 (I.fa 44 23 0),I.n 5 25 (I.fa 42 24 1),I.n 6 26 (I.ld 25 25),I.n 7 27 (I.mv 2),I.n 8 28 (I.ia 25 26 27),I.n 9 29 (I.ld 3 28),I.n 10 30 (I.bo .neq 3 21 29 3)] [[],[0],[],[2],[3],[4],[5],[],[6,7],[8],[1,9]]) (.cond (.tmp 30) (.seq (.reg 7 [I.n 0 6 I.sn,I.n 1 7 (I.si 5)]) .ret) .skip)) (.seq (.reg 8 [I.n 0 31 (I.mv 1),I.n 1 32 (I.mv 0),I.n 2 33 (I.nc 32),I.n 3 34 (I.fa 44 33 0),I.n 4 35 (I.fa 42 34 0),I.n 5 36 (I.ld 22 35),I.n 6 37 (I.mv 2),I.n 7 38 (.slice 22 (.tmp 36) (some (.tmp 37)) none none),I.n 8 39 (I.c2 68 31 38 23 22),I.n 9 40 (I.ex 39 0),I.n 10 41 (I.ex 39 1),I.n 11 6 (I.sa 40),I.n 12 7 (I.sa 41)]) .ret))))):=by
 intro c h
 have:c = Tryd.f33.body.get rfl:=by rw [<- Option.some_inj,<- h];rfl
 rw [this];rfl
theorem Ub:∀ c,Tryd.f38.body = some c -> comp c = (.seq (.reg 0 [I.n 0 6 I.sn,I.n 1 7 (I.si 0)]) (.seq (.seq (.reg 1 [I.n 0 8 (I.mv 1),I.n 1 9 (I.bc .lss 3 8 0 3),I.n 2 10 (I.mv 9),I.w 3 11 (I.mv 2) 10 false,I.w 4 12 (I.mv 1) 10 false,I.w 5 13 (I.bo .lss 3 11 12 3) 10 false,I.n 6 14 (I.pb 10 true 13),I.n 7 15 (I.mv 14),I.w 8 16 (I.mv 0) 15 false,I.w 9 17 (I.nc 16) 15 false,I.w 10 18 (I.fa 44 17 0) 15 false,I.w 11 19 (I.mv 2) 15 false,I.w 12 20 (I.c2 77 18 19 42 3) 15 false,I.w 13 21 (.unOp .not 4 (.tmp 20)) 15 false,I.n 14 22 (I.pb 15 true 21)]) (.cond (.tmp 22) (.seq (.reg 2 [I.n 0 6 I.sn,I.n 1 7 (I.si 6)]) .ret) .skip)) (.seq (.draw 3 [I.n 0 23 (I.mv 0),I.n 1 24 (I.nc 23),I.n 2 25 (I.fa 44 24 0),I.n 3 26 (I.fa 42 25 1),I.n 4 27 (I.ld 25 26),I.n 5 28 (I.mv 1),I.n 6 29 (I.ia 25 27 28),I.n 7 30 (I.ld 3 29),I.n 8 31 (I.mv 0),I.n 9 32 (I.nc 31),I.n 10 33 (I.fa 44 32 0),I.n 11 34 (I.fa 42 33 0),I.n 12 35 (I.ld 22 34),I.n 13 36 (I.mv 1),I.n 14 37 (I.mv 2),I.n 15 38 (.slice 22 (.tmp 35) (some (.tmp 36)) (some (.tmp 37)) none),I.n 16 39 (I.c2 63 30 38 3 22),I.n 17 40 (I.ex 39 0),I.n 18 41 (I.ex 39 1),I.n 19 6 (I.sa 40),I.n 20 7 (I.sa 41)] [[],[0],[1],[2],[3],[],[4,5],[6],[],[8],[9],[10],[11],[],[],[12,13,14],[7,15],[16],[16],[17,16,0,1,2,3,4,5,6,7,8,9,10,11,12,13,14,15,16,17,18],[18,19,0,1,2,3,4,5,6,7,8,9,10,11,12,13,14,15,16,17,18,19]]) .ret))):=by
 intro c h
 have:c = Tryd.f38.body.get rfl:=by rw [<- Option.some_inj,<- h];rfl
 rw [this];rfl
def Kr (t:ByteArray) (Ls:List (List Sp)) (r:Int):AV:=if 0 <= r /\ r <= Ls.length then allA t (Ls.take r.toNat) else .dM [.v (.string ⟨#[]⟩),.v (.int .i64 6)]
theorem afd{G:Prop}(h:G:=by (refine Ev.Cj [0,1,4,5,11] 65536 [.tmp 4,.tmp 5] Tryd.func30 (abT _ rfl) (fun ct=>?_));all_goals(rcases(⟨_⟩:PLift _)with⟨h⟩;exact h)):G:=h
theorem Uc (vb vl fl vs fs:Nat) (Ls:List (List Sp)) (Ns:List Int) (t:ByteArray) (r:Int) (hx:∀ x ∈ Ls,x.length <= 100000000) (hb:t.size + rC Ls <= 1000000000) (hL:Ls.length <= 1000000) :
   dn env 65536 30 [.ptr 7000 vb 0 0,.v (.int .i64 r)] (iD 7000 7001 7002 vb vl fl vs fs Ls Ns t) (fun x h=>x = Kr t Ls r /\ ∃ iq:Nat,subs h (iD 7000 7001 7002 vb vl iq vs fs Ls Ns t)):=by
 have hrl:=bW Ls
 unfold Kr
 by_cases hr:0 <= r /\ r <= Ls.length
 · rw [if_pos hr]
   obtain ⟨h1,h2⟩:=hr
   have hA:=Tm t (Ls.take r.toNat) (by rw [List.length_take];omega) (fun x h=>hx x (List.mem_of_mem_take h)) (by have:=D8 Ls r.toNat;omega)
   unfold allA at hA ⊢
   have hcut:List.take (r.toNat - 0) (List.drop (0 + 0) (aX Ls)) = aX (Ls.take r.toNat):=by simp [aX]
   rw [<- hcut] at hA
   refine' afd
   repeat' (first | (with_reducible refine Ev.aJ h2 ?_) | (with_reducible refine Ev.aF h2 ?_) | (with_reducible refine Ev.aJ h1 ?_) | (with_reducible refine Ev.aF h1 ?_) | refine' Ev.zP | refine' Ev.zS | ((with_reducible refine Ev.kr (hs:=[29,77]) (fun Q hQ=>?_));refine' Ev.zR) | ((with_reducible refine Ev.kZ 29 ?_);refine Ev.il 29 [0,2] [.tmp 2] Tryd.func29 (eG _ rfl) (fun aW=>?_)) | ((with_reducible refine Ev.kZ 77 ?_);refine Ev.il 77 [0,1,4] [.tmp 4] Tryd.func77 (lF _ rfl) (fun aW=>?_)) | ((with_reducible refine Ev.ca0 ?_);(first | refine Ev.ca (hA) ?_);conv=>whnf) | ((with_reducible refine Ev.dG ?_);(first | refine Ev.dr 3 [29,77] [0,1,2,3,4,5,6,7,8,9,10,11,12,13,14,15] ?_);intro Q hQ;(simp only [Ev.aj,Ev.ak]);conv=>whnf) | refine' Ev.zT | fail)
   all_goals exact ⟨rfl,_,Ev.ah rfl rfl,Ev.ah rfl rfl,Ev.ah rfl rfl,trivial⟩
 · rw [if_neg hr]
   by_cases h1:0 <= r
   · have h2:¬ r <= Ls.length:=fun h2=>hr ⟨h1,h2⟩
     refine' afd
     repeat' (first | (with_reducible refine Ev.aP h2 ?_) | (with_reducible refine Ev.aK h2 ?_) | (with_reducible refine Ev.aJ h1 ?_) | (with_reducible refine Ev.aF h1 ?_) | refine' Ev.zP | refine' Ev.zS | ((with_reducible refine Ev.kr (hs:=[29,77]) (fun Q hQ=>?_));refine' Ev.zR) | ((with_reducible refine Ev.kZ 29 ?_);refine Ev.il 29 [0,2] [.tmp 2] Tryd.func29 (eG _ rfl) (fun aW=>?_)) | ((with_reducible refine Ev.kZ 77 ?_);refine Ev.il 77 [0,1,4] [.tmp 4] Tryd.func77 (lF _ rfl) (fun aW=>?_)) | ((with_reducible refine Ev.dG ?_);(first | refine Ev.dr 3 [29,77] [0,1,2,3,4,5,6,7,8,9,10,11,12,13,14,15] ?_);intro Q hQ;(simp only [Ev.aj,Ev.ak]);conv=>whnf) | refine' Ev.zT | fail)
     all_goals exact ⟨rfl,fl,Ev.ah rfl rfl,Ev.ah rfl rfl,Ev.ah rfl rfl,trivial⟩
   · refine' afd
     repeat' (first | (with_reducible refine Ev.aP h1 ?_) | (with_reducible refine Ev.aK h1 ?_) | refine' Ev.zP | refine' Ev.zS | ((with_reducible refine Ev.kr (hs:=[29,77]) (fun Q hQ=>?_));refine' Ev.zR) | ((with_reducible refine Ev.kZ 29 ?_);refine Ev.il 29 [0,2] [.tmp 2] Tryd.func29 (eG _ rfl) (fun aW=>?_)) | ((with_reducible refine Ev.kZ 77 ?_);refine Ev.il 77 [0,1,4] [.tmp 4] Tryd.func77 (lF _ rfl) (fun aW=>?_)) | ((with_reducible refine Ev.dG ?_);(first | refine Ev.dr 3 [29,77] [0,1,2,3,4,5,6,7,8,9,10,11,12,13,14,15] ?_);intro Q hQ;(simp only [Ev.aj,Ev.ak]);conv=>whnf) | refine' Ev.zT | fail)
     all_goals exact ⟨rfl,fl,Ev.ah rfl rfl,Ev.ah rfl rfl,Ev.ah rfl rfl,trivial⟩
def nI (Ls:List (List Sp)) (Ns:List Int) (a:List Sp) (r:Int):Int:=if 0 <= r /\ r <= Ls.length then (if aC a ≠ 0 then aC a else if iT a ≠ Ns.getD r.toNat 0 then 5 else 0) else 6
def BZ (Ls:List (List Sp)) (Ns:List Int) (a:List Sp) (r:Int):AV:=if nI Ls Ns a r = 0 then FD a (Ls.drop r.toNat) else .dM [nilA,.v (.int .i64 (nI Ls Ns a r))]
theorem jU (Ls:List (List Sp)) (i:Nat):jf (Ls.drop i) <= jf Ls:=by
 induction Ls generalizing i with
 | nil=>simp
 | cons x L ih =>
   cases i with
   | zero=>exact Nat.le_refl _
   | succ i=>rw [List.drop_succ_cons,(eF x L).1];have:=ih i;omega
theorem aal{G:Prop}(h:G:=by
 refine Ev.Cj [0,1,2,6,7,8,14,18,30] 65536 [.tmp 6,.tmp 7] Tryd.func33 (Ua _ rfl) (fun ct=>?_)
 repeat' (first | (with_reducible refine Ev.aJ h2 ?_) | (with_reducible refine Ev.aF h2 ?_) | (with_reducible refine Ev.aJ h1 ?_) | (with_reducible refine Ev.aF h1 ?_) | (with_reducible refine Ev.aJ (m1 _) ?_) | (with_reducible refine Ev.aF (m1 _) ?_) | refine' Ev.zP | refine' Ev.zS | ((with_reducible refine Ev.kr (hs:=[29,77]) (fun Q hQ=>?_));refine' Ev.zR) | ((with_reducible refine Ev.kZ 29 ?_);refine Ev.il 29 [0,2] [.tmp 2] Tryd.func29 (eG _ rfl) (fun aW=>?_)) | ((with_reducible refine Ev.kZ 77 ?_);refine Ev.il 77 [0,1,4] [.tmp 4] Tryd.func77 (lF _ rfl) (fun aW=>?_)) | ((with_reducible refine Ev.ca0 ?_);(first | refine Ev.ca (hM) ?_ | refine Ev.ca (hI) ?_ | refine Ev.ca (hT) ?_);conv=>whnf) | ((with_reducible refine Ev.dG ?_);(first | refine Ev.dr 6 [29,77] [0,2,3,4,5,6,7,8,9,1,10] ?_);intro Q hQ;(simp only [Ev.aj,Ev.ak]);conv=>whnf) | refine' Ev.zT | fail)
 all_goals(rcases(⟨_⟩:PLift _)with⟨h⟩;exact h)):G:=h
theorem acp{G:Prop}(h:G:=by (refine Ev.Cj [0,1,2,6,7,8,14,18,30] 65536 [.tmp 6,.tmp 7] Tryd.func33 (Ua _ rfl) (fun ct=>?_));all_goals(rcases(⟨_⟩:PLift _)with⟨h⟩;exact h)):G:=h
theorem aen{G:Prop}(h:G:=by (have hcut:List.take (Ls.length - r.toNat) (List.drop (0 + r.toNat) (aX Ls)) = aX (Ls.drop r.toNat):=by rw [Nat.zero_add,List.take_of_length_le (by simp [aX])];simp [aX]);all_goals(rcases(⟨_⟩:PLift _)with⟨h⟩;exact h)):G:=h
theorem Ud (vb vl fl vs fs:Nat) (Ls:List (List Sp)) (Ns:List Int) (t:ByteArray) (a:List Sp) (r:Int) (hN:Ns.length = Ls.length + 1) (hl:a.length + jf Ls <= 9999999) (ha:bT a <= 100000000) (hb:∀ x ∈ Ls,bT x <= 100000000) (hL:Ls.length <= 1000000) (ho:∀ s ∈ Ls,aC s = 0 -> aY dO s <= 1048576) :
   dn env 65536 33 [.ptr 7000 vb 0 0,.lst 3 (aT a),.v (.int .i64 r)] (iD 7000 7001 7002 vb vl fl vs fs Ls Ns t) (fun x h=>x = BZ Ls Ns a r /\ ∃ iq:Nat,subs h (iD 7000 7001 7002 vb vl iq vs fs Ls Ns t)):=by
 have hrl:=bW Ls
 have hil:=iI Ns
 have hsm:Small a:=dD (by omega)
 have hM:=dL a (by omega) hsm
 have hI:=fF a (by omega)
 have hT:=TU a (Ls.drop r.toNat) (by have:=jU Ls r.toNat;omega) ha (fun x h=>hb x (List.mem_of_mem_drop h)) (by rw [List.length_drop];omega) (fun s h=>ho s (List.mem_of_mem_drop h))
 refine' aen
 rw [<- hcut] at hT
 unfold BZ
 by_cases hr:0 <= r /\ r <= Ls.length
 · obtain ⟨h1,h2⟩:=hr
   obtain ⟨n,rfl⟩:=Int.eq_ofNat_of_zero_le h1
   have hd:∀ h:n < Ns.length,Ns.getD (n:Int).toNat 0 = Ns[n]'h:=fun h=>by rw [Int.toNat_natCast,List.getD_eq_getElem?_getD,List.getElem?_eq_getElem h];rfl
   have hrn:n < Ns.length:=by omega
   by_cases m0:aC a = 0
   · rw [m0] at hM
     by_cases m1:sumW (fun s=>kN s.k s.n) a = Ns[n]
     · have xU:iT a = Ns[n]:=m1
       have e:nI Ls Ns a n = 0:=by unfold nI;rw [if_pos ⟨h1,h2⟩,hd hrn,if_neg (by simpa using m0),if_neg (by simpa using xU)]
       rw [if_pos e]
       unfold FD at hT ⊢
       have m1:∀ h:n < Ns.length,sumW (fun s=>kN s.k s.n) a = Ns[n]'h:=fun _=>m1
       by_cases ht:Iw a (Ls.drop (n:Int).toNat) = 0
       · rw [ht,if_pos rfl] at hT ⊢
         refine' aal
         all_goals exact ⟨rfl,_,Ev.ah rfl rfl,Ev.ah rfl rfl,Ev.ah rfl rfl,trivial⟩
       · rw [if_neg ht] at hT ⊢
         refine' aal
         all_goals exact ⟨rfl,_,Ev.ah rfl rfl,Ev.ah rfl rfl,Ev.ah rfl rfl,trivial⟩
     · have xU:¬ iT a = Ns[n]:=m1
       have e:nI Ls Ns a n = 5:=by unfold nI;rw [if_pos ⟨h1,h2⟩,hd hrn,if_neg (by simpa using m0),if_pos xU]
       rw [if_neg (by rw [e];decide),e]
       have m1:∀ h:n < Ns.length,¬ sumW (fun s=>kN s.k s.n) a = Ns[n]'h:=fun _=>m1
       refine' acp
       repeat' (first | (with_reducible refine Ev.aJ h2 ?_) | (with_reducible refine Ev.aF h2 ?_) | (with_reducible refine Ev.aJ h1 ?_) | (with_reducible refine Ev.aF h1 ?_) | (with_reducible refine Ev.aP (m1 _) ?_) | (with_reducible refine Ev.aK (m1 _) ?_) | refine' Ev.zP | refine' Ev.zS | ((with_reducible refine Ev.kr (hs:=[29,77]) (fun Q hQ=>?_));refine' Ev.zR) | ((with_reducible refine Ev.kZ 29 ?_);refine Ev.il 29 [0,2] [.tmp 2] Tryd.func29 (eG _ rfl) (fun aW=>?_)) | ((with_reducible refine Ev.kZ 77 ?_);refine Ev.il 77 [0,1,4] [.tmp 4] Tryd.func77 (lF _ rfl) (fun aW=>?_)) | ((with_reducible refine Ev.ca0 ?_);(first | refine Ev.ca (hM) ?_ | refine Ev.ca (hI) ?_);conv=>whnf) | ((with_reducible refine Ev.dG ?_);(first | refine Ev.dr 6 [29,77] [0,2,3,4,5,6,7,8,9,1,10] ?_);intro Q hQ;(simp only [Ev.aj,Ev.ak]);conv=>whnf) | refine' Ev.zT | fail)
       all_goals exact ⟨rfl,fl,Ev.ah rfl rfl,Ev.ah rfl rfl,Ev.ah rfl rfl,trivial⟩
   · have e:nI Ls Ns a n = aC a:=by unfold nI;rw [if_pos ⟨h1,h2⟩,if_pos m0]
     rw [if_neg (by rw [e];exact m0),e]
     refine' acp
     repeat' (first | (with_reducible refine Ev.aJ h2 ?_) | (with_reducible refine Ev.aF h2 ?_) | (with_reducible refine Ev.aJ h1 ?_) | (with_reducible refine Ev.aF h1 ?_) | (with_reducible refine Ev.aP m0 ?_) | (with_reducible refine Ev.aK m0 ?_) | refine' Ev.zP | refine' Ev.zS | ((with_reducible refine Ev.kr (hs:=[29,77]) (fun Q hQ=>?_));refine' Ev.zR) | ((with_reducible refine Ev.kZ 29 ?_);refine Ev.il 29 [0,2] [.tmp 2] Tryd.func29 (eG _ rfl) (fun aW=>?_)) | ((with_reducible refine Ev.kZ 77 ?_);refine Ev.il 77 [0,1,4] [.tmp 4] Tryd.func77 (lF _ rfl) (fun aW=>?_)) | ((with_reducible refine Ev.ca0 ?_);(first | refine Ev.ca (hM) ?_ | refine Ev.ca (hI) ?_);conv=>whnf) | ((with_reducible refine Ev.dG ?_);(first | refine Ev.dr 6 [29,77] [0,2,3,4,5,6,7,8,9,1,10] ?_);intro Q hQ;(simp only [Ev.aj,Ev.ak]);conv=>whnf) | refine' Ev.zT | fail)
     all_goals exact ⟨rfl,fl,Ev.ah rfl rfl,Ev.ah rfl rfl,Ev.ah rfl rfl,trivial⟩
 · have e:nI Ls Ns a r = 6:=by unfold nI;rw [if_neg hr]
   rw [if_neg (by rw [e];decide),e]
   by_cases h1:0 <= r
   · have h2:¬ r <= Ls.length:=fun h2=>hr ⟨h1,h2⟩
     refine' acp
     repeat' (first | (with_reducible refine Ev.aP h2 ?_) | (with_reducible refine Ev.aK h2 ?_) | (with_reducible refine Ev.aJ h1 ?_) | (with_reducible refine Ev.aF h1 ?_) | refine' Ev.zP | refine' Ev.zS | ((with_reducible refine Ev.kr (hs:=[29,77]) (fun Q hQ=>?_));refine' Ev.zR) | ((with_reducible refine Ev.kZ 29 ?_);refine Ev.il 29 [0,2] [.tmp 2] Tryd.func29 (eG _ rfl) (fun aW=>?_)) | ((with_reducible refine Ev.kZ 77 ?_);refine Ev.il 77 [0,1,4] [.tmp 4] Tryd.func77 (lF _ rfl) (fun aW=>?_)) | ((with_reducible refine Ev.dG ?_);(first | refine Ev.dr 6 [29,77] [0,2,3,4,5,6,7,8,9,1,10] ?_);intro Q hQ;(simp only [Ev.aj,Ev.ak]);conv=>whnf) | refine' Ev.zT | fail)
     all_goals exact ⟨rfl,fl,Ev.ah rfl rfl,Ev.ah rfl rfl,Ev.ah rfl rfl,trivial⟩
   · refine' acp
     repeat' (first | (with_reducible refine Ev.aP h1 ?_) | (with_reducible refine Ev.aK h1 ?_) | refine' Ev.zP | refine' Ev.zS | ((with_reducible refine Ev.kr (hs:=[29,77]) (fun Q hQ=>?_));refine' Ev.zR) | ((with_reducible refine Ev.kZ 29 ?_);refine Ev.il 29 [0,2] [.tmp 2] Tryd.func29 (eG _ rfl) (fun aW=>?_)) | ((with_reducible refine Ev.kZ 77 ?_);refine Ev.il 77 [0,1,4] [.tmp 4] Tryd.func77 (lF _ rfl) (fun aW=>?_)) | ((with_reducible refine Ev.dG ?_);(first | refine Ev.dr 6 [29,77] [0,2,3,4,5,6,7,8,9,1,10] ?_);intro Q hQ;(simp only [Ev.aj,Ev.ak]);conv=>whnf) | refine' Ev.zT | fail)
     all_goals exact ⟨rfl,fl,Ev.ah rfl rfl,Ev.ah rfl rfl,Ev.ah rfl rfl,trivial⟩
def Cb (Ls:List (List Sp)) (Ns:List Int) (r s:Int):AV:=if 0 <= r /\ r <= s /\ s <= Ls.length then pW (dH (Ns.getD r.toNat 0)) ((Ls.drop r.toNat).take (s.toNat - r.toNat)) else .dM [nilA,.v (.int .i64 6)]
theorem lZ (Ls:List (List Sp)) (i:Nat):jf (Ls.take i) <= jf Ls /\ lK (Ls.take i) <= lK Ls:=by
 induction Ls generalizing i with
 | nil=>simp
 | cons x L ih =>
   cases i with
   | zero=>rw [List.take_zero];exact ⟨Nat.zero_le _,Nat.zero_le _⟩
   | succ i=>rw [List.take_succ_cons,(eF x L).1,(eF x L).2,(eF x _).1,(eF x _).2];have:=ih i;omega
theorem uo (Ls:List (List Sp)) (i:Nat):lK (Ls.drop i) <= lK Ls:=by
 induction Ls generalizing i with
 | nil=>simp
 | cons x L ih =>
   cases i with
   | zero=>exact Nat.le_refl _
   | succ i=>rw [List.drop_succ_cons,(eF x L).2];have:=ih i;omega
theorem aaj{G:Prop}(h:G:=by
 rw [hR] at hF ⊢
 refine Ev.Cj [0,1,2,6,7,22] 65536 [.tmp 6,.tmp 7] Tryd.func38 (Ub _ rfl) (fun ct=>?_)
 repeat' (first | (with_reducible refine Ev.aP h0' ?_) | (with_reducible refine Ev.aK h0' ?_) | (with_reducible refine Ev.aP h1' ?_) | (with_reducible refine Ev.aK h1' ?_) | (with_reducible refine Ev.aJ h2 ?_) | (with_reducible refine Ev.aF h2 ?_) | (with_reducible refine Ev.aJ hs0 ?_) | (with_reducible refine Ev.aF hs0 ?_) | refine' Ev.zP | refine' Ev.zS | ((with_reducible refine Ev.kr (hs:=[29,77]) (fun Q hQ=>?_));refine' Ev.zR) | ((with_reducible refine Ev.kZ 29 ?_);refine Ev.il 29 [0,2] [.tmp 2] Tryd.func29 (eG _ rfl) (fun aW=>?_)) | ((with_reducible refine Ev.kZ 77 ?_);refine Ev.il 77 [0,1,4] [.tmp 4] Tryd.func77 (lF _ rfl) (fun aW=>?_)) | ((with_reducible refine Ev.ca0 ?_);(first | refine Ev.ca (hF) ?_);conv=>whnf) | ((with_reducible refine Ev.dG ?_);(first | refine Ev.dr 3 [29,77] [0,1,2,3,4,5,6,7,8,9,10,11,12,13,14,15,16,17,18,19,20] ?_);intro Q hQ;(simp only [Ev.aj,Ev.ak]);conv=>whnf) | refine' Ev.zT | fail)
 all_goals(rcases(⟨_⟩:PLift _)with⟨h⟩;exact h)):G:=h
theorem ad4{G:Prop}(h:G:=by
 have hcut:List.take (s.toNat - (n:Int).toNat) (List.drop (0 + (n:Int).toNat) (aX Ls)) = aX ((Ls.drop (n:Int).toNat).take (s.toNat - (n:Int).toNat)):=by simp [aX]
 rw [<- hcut] at hF
 all_goals(rcases(⟨_⟩:PLift _)with⟨h⟩;exact h)):G:=h
theorem ae0{G:Prop}(h:G:=by (refine Ev.Cj [0,1,2,6,7,22] 65536 [.tmp 6,.tmp 7] Tryd.func38 (Ub _ rfl) (fun ct=>?_));all_goals(rcases(⟨_⟩:PLift _)with⟨h⟩;exact h)):G:=h
theorem Ue (vb vl fl vs fs:Nat) (Ls:List (List Sp)) (Ns:List Int) (t:ByteArray) (r s:Int) (hN:Ns.length = Ls.length + 1) (hn:∀ n ∈ Ns,0 <= n /\ n <= 1048576) (hl:jf Ls <= 9999999) (hb:lK Ls <= 100000000) (hL:Ls.length <= 1000000) :
   dn env 65536 38 [.ptr 7000 vb 0 0,.v (.int .i64 r),.v (.int .i64 s)] (iD 7000 7001 7002 vb vl fl vs fs Ls Ns t) (fun x h=>x = Cb Ls Ns r s /\ ∃ iq:Nat,subs h (iD 7000 7001 7002 vb vl iq vs fs Ls Ns t)):=by
 have hrl:=bW Ls
 have hil:=iI Ns
 unfold Cb
 by_cases hr:0 <= r /\ r <= s /\ s <= Ls.length
 · obtain ⟨h0,h1,h2⟩:=hr
   obtain ⟨n,rfl⟩:=Int.eq_ofNat_of_zero_le h0
   have hnn:(n:Int).toNat = n:=Int.toNat_natCast n
   have hrn:n < Ns.length:=by omega
   have hd:Ns.getD (n:Int).toNat 0 = Ns[n]'hrn:=by rw [hnn,List.getD_eq_getElem?_getD,List.getElem?_eq_getElem hrn];rfl
   rw [if_pos ⟨h0,h1,h2⟩,hd]
   have hF:=Pv Ns[n] (hn _ (List.getElem_mem hrn)) ((Ls.drop (n:Int).toNat).take (s.toNat - (n:Int).toNat)) (by have:=(lZ (Ls.drop (n:Int).toNat) (s.toNat - (n:Int).toNat)).1;have:=jU Ls (n:Int).toNat;omega) (by have:=(lZ (Ls.drop (n:Int).toNat) (s.toNat - (n:Int).toNat)).2;have:=uo Ls (n:Int).toNat;omega) (by simp;omega)
   refine' ad4
   have h0':¬ (n:Int) < 0:=by omega
   have h1':¬ s < (n:Int):=by omega
   have hs0:0 <= s:=by omega
   have hR:pW (dH Ns[n]) ((Ls.drop (n:Int).toNat).take (s.toNat - (n:Int).toNat)) = .dM [if (dR (dH Ns[n]) ((Ls.drop (n:Int).toNat).take (s.toNat - (n:Int).toNat))).2 = 0 then .lst 3 (aT (dR (dH Ns[n]) ((Ls.drop (n:Int).toNat).take (s.toNat - (n:Int).toNat))).1) else nilA,.v (.int .i64 (dR (dH Ns[n]) ((Ls.drop (n:Int).toNat).take (s.toNat - (n:Int).toNat))).2)]:=rfl
   generalize dR (dH Ns[n]) ((Ls.drop (n:Int).toNat).take (s.toNat - (n:Int).toNat)) = G at *
   by_cases hG:G.2 = 0
   · rw [if_pos hG] at hR
     refine' aaj
     all_goals exact ⟨rfl,_,Ev.ah rfl rfl,Ev.ah rfl rfl,Ev.ah rfl rfl,trivial⟩
   · rw [if_neg hG] at hR
     refine' aaj
     all_goals exact ⟨rfl,_,Ev.ah rfl rfl,Ev.ah rfl rfl,Ev.ah rfl rfl,trivial⟩
 · rw [if_neg hr]
   by_cases h0:r < 0
   · refine' ae0
     repeat' (first | (with_reducible refine Ev.aJ h0 ?_) | (with_reducible refine Ev.aF h0 ?_) | refine' Ev.zP | refine' Ev.zS | ((with_reducible refine Ev.kr (hs:=[29,77]) (fun Q hQ=>?_));refine' Ev.zR) | ((with_reducible refine Ev.kZ 29 ?_);refine Ev.il 29 [0,2] [.tmp 2] Tryd.func29 (eG _ rfl) (fun aW=>?_)) | ((with_reducible refine Ev.kZ 77 ?_);refine Ev.il 77 [0,1,4] [.tmp 4] Tryd.func77 (lF _ rfl) (fun aW=>?_)) | ((with_reducible refine Ev.dG ?_);(first | refine Ev.dr 3 [29,77] [0,1,2,3,4,5,6,7,8,9,10,11,12,13,14,15,16,17,18,19,20] ?_);intro Q hQ;(simp only [Ev.aj,Ev.ak]);conv=>whnf) | refine' Ev.zT | fail)
     all_goals exact ⟨rfl,fl,Ev.ah rfl rfl,Ev.ah rfl rfl,Ev.ah rfl rfl,trivial⟩
   · by_cases h1:s < r
     · refine' ae0
       repeat' (first | (with_reducible refine Ev.aP h0 ?_) | (with_reducible refine Ev.aK h0 ?_) | (with_reducible refine Ev.aJ h1 ?_) | (with_reducible refine Ev.aF h1 ?_) | refine' Ev.zP | refine' Ev.zS | ((with_reducible refine Ev.kr (hs:=[29,77]) (fun Q hQ=>?_));refine' Ev.zR) | ((with_reducible refine Ev.kZ 29 ?_);refine Ev.il 29 [0,2] [.tmp 2] Tryd.func29 (eG _ rfl) (fun aW=>?_)) | ((with_reducible refine Ev.kZ 77 ?_);refine Ev.il 77 [0,1,4] [.tmp 4] Tryd.func77 (lF _ rfl) (fun aW=>?_)) | ((with_reducible refine Ev.dG ?_);(first | refine Ev.dr 3 [29,77] [0,1,2,3,4,5,6,7,8,9,10,11,12,13,14,15,16,17,18,19,20] ?_);intro Q hQ;(simp only [Ev.aj,Ev.ak]);conv=>whnf) | refine' Ev.zT | fail)
       all_goals exact ⟨rfl,fl,Ev.ah rfl rfl,Ev.ah rfl rfl,Ev.ah rfl rfl,trivial⟩
     · have h2:¬ s <= Ls.length:=fun h2=>hr ⟨by omega,by omega,h2⟩
       have hs0:0 <= s:=by omega
       refine' ae0
       repeat' (first | (with_reducible refine Ev.aP h0 ?_) | (with_reducible refine Ev.aK h0 ?_) | (with_reducible refine Ev.aP h1 ?_) | (with_reducible refine Ev.aK h1 ?_) | (with_reducible refine Ev.aP h2 ?_) | (with_reducible refine Ev.aK h2 ?_) | (with_reducible refine Ev.aJ hs0 ?_) | (with_reducible refine Ev.aF hs0 ?_) | refine' Ev.zP | refine' Ev.zS | ((with_reducible refine Ev.kr (hs:=[29,77]) (fun Q hQ=>?_));refine' Ev.zR) | ((with_reducible refine Ev.kZ 29 ?_);refine Ev.il 29 [0,2] [.tmp 2] Tryd.func29 (eG _ rfl) (fun aW=>?_)) | ((with_reducible refine Ev.kZ 77 ?_);refine Ev.il 77 [0,1,4] [.tmp 4] Tryd.func77 (lF _ rfl) (fun aW=>?_)) | ((with_reducible refine Ev.dG ?_);(first | refine Ev.dr 3 [29,77] [0,1,2,3,4,5,6,7,8,9,10,11,12,13,14,15,16,17,18,19,20] ?_);intro Q hQ;(simp only [Ev.aj,Ev.ak]);conv=>whnf) | refine' Ev.zT | fail)
       all_goals exact ⟨rfl,fl,Ev.ah rfl rfl,Ev.ah rfl rfl,Ev.ah rfl rfl,trivial⟩
end Go.Proofs.YtadlnaljicikfaaDoor.aI
namespace Go.Proofs.YtadlnaljicikfaaDoor.aI
open Go Go.Lib
theorem PE {P:Program} {t e:TypeId} (he:P.underlying t = some (.slice e)) (A:Option Addr) (n c:Nat) (X Y:Operand) (w:World) :
   (do eqGuard .eql t X Y (.slice A n c) (.slice none 0 0);binOp .eql t (.slice A n c) (.slice none 0 0):Sem Value).run P w = .ok (.bool A.isNone) w:=by
 have key:(Op.equal t (.slice A n c) (.slice none 0 0)).run P w = .ok A.isNone w:=by
   have key:∀ d,(Op.equalIn (d + 1) t (.slice A n c) (.slice none 0 0)).run P w = .ok A.isNone w:=by
     intro d
     simp only [Op.equalIn,Sem.run_bind,run_underlying he,Result.andThen_ok]
     cases A <;> rfl
   exact key 9999
 simp only [Sem.run_bind,qP .eql t X Y (.slice A n c) (.slice none 0 0) (by simp) (by simp) w,Result.andThen_ok,binOp,key,Sem.run_pure]
namespace Ev
section
variable {E:Env} {nt:Nat}
theorem L9 {K:Exit -> St -> Prop} {sl:List (Nat × AV)} {hp:List (Nat × aG)} {ct id i j x t0 d t e u sz:Nat} {xs:List (List AV)} (he:E.P.underlying t = some (.slice e)) (hx:get sl x = some (.lst sz xs))
   (h1:xs = [] -> K .normal ⟨(d,.v (.bool true)) :: (t0,.lst sz xs) :: sl,hp,ct⟩) (h2:K .normal ⟨(d,.v (.bool false)) :: (t0,.lst sz xs) :: sl,hp,ct⟩) :
   Wp E nt (.reg id [⟨i,some t0,.move (.tmp x),none⟩,⟨j,some d,.binOp .eql t (.tmp t0) (.const (.slice none 0 0)) u,none⟩]) K ⟨sl,hp,ct⟩:=by
 intro c hc hok M0 w0 M J tm w inv hsz
 refine' ac4
 match L,hl with
 | [],hl=>simp at hlen
 | [p],hl=>simp at hlen
 | p :: q :: r :: L',hl=>simp at hlen
 | [p,q],hl =>
   simp only [insL] at hl
   split at hl
   case h_2=>cases hl
   rename_i a r ha hr
   split at hr
   case h_2=>cases hr
   rename_i a2 r2 ha2 hr2
   refine' ahc
   have hg1:o1.guard = none /\ i' = i /\ o1.dst = some t0 /\ o1.op = .move (.tmp x):=by
     simp only [insOf] at ha
     split at ha
     · rename_i hg;injection Option.some.inj ha with h1 h2 h3;exact ⟨hg,h1,h2,h3⟩
     · rw [Option.map_eq_some_iff] at ha;obtain ⟨t',_,h'⟩:=ha;injection h' with _ _ _ h4;cases h4
   have hg2:o2.guard = none /\ j' = j /\ o2.dst = some d /\ o2.op = .binOp .eql t (.tmp t0) (.const (.slice none 0 0)) u:=by
     simp only [insOf] at ha2
     split at ha2
     · rename_i hg;injection Option.some.inj ha2 with h1 h2 h3;exact ⟨hg,h1,h2,h3⟩
     · rw [Option.map_eq_some_iff] at ha2;obtain ⟨t',_,h'⟩:=ha2;injection h' with _ _ _ h4;cases h4
   obtain ⟨g1,rfl,g3,g4⟩:=hg1
   refine' ahg
   have hdst:∀ {q:Nat} {o:Oper},ops[q]? = some o -> ∀ t,o.dst = some t -> t < nt:=by
     intro q o hq t ht
     simp only [bQ,wz] at hok
     rw [List.all_eq_true] at hok
     have:=hok o (by rw [Array.mem_toList_iff];exact Array.mem_of_getElem? hq)
     rw [ht] at this;simpa using this
   have hd1:=hdst e1 t0 g3
   have hd2:=hdst e2 d k3
   obtain ⟨v,hv,hr⟩:=inv.slot x _ hx
   have hp:=hr.qh
   cases hp with
   | lst uu hn hcap hz hA hM hh =>
     rename_i A n cap
     refine' ahf
     refine .inl ?_
     have hev:(⟨tm,M0.d⟩:Act).eval (.tmp x) = .slice A n cap:=by simp [Act.eval,hv]
     unfold Oper.wp execOp
     rw [g4]
     simp only [hev,Sem.run_pure,Oper.upon_value]
     have afX:((⟨tm,M0.d⟩:Act).put o1.dst (.slice A n cap)) = ⟨tm.setIfInBounds t0 (.slice A n cap),M0.d⟩:=by rw [g3];rfl
     rw [afX]
     have i1:Inv E M0 w0 ct M J ⟨(t0,.lst sz xs) :: sl,hp,ct⟩ (tm.setIfInBounds t0 (.slice A n cap)) w:=by
       have:=Inv.put inv (d:=some t0) (x:=.lst sz xs) (v:=.slice A n cap) (ds:=[]) (.pure (.lst uu hn hcap hz hA hM hh)) (fun t ht=>by have e:=Option.some.inj ht;subst e;rw [hsz];exact hd1)
       exact this
     have w2:Region.wanted o2 (yielded ops (tm.setIfInBounds t0 (.slice A n cap))) = true:=by simp [Region.wanted,k1]
     rw [if_pos w2]
     refine .inl ?_
     have hev2:(⟨tm.setIfInBounds t0 (.slice A n cap),M0.d⟩:Act).eval (.tmp t0) = .slice A n cap:=by
       have:t0 < tm.size:=by rw [hsz];exact hd1
       simp [Act.eval,this]
     rw [k4]
     simp only [hev2]
     have hrun:=PE he A n cap (.tmp t0) (.const (.slice none 0 0)) w
     have aij:(⟨tm.setIfInBounds t0 (.slice A n cap),M0.d⟩:Act).eval (.const (.slice none 0 0)) = .slice none 0 0:=rfl
     rw [aij]
     rw [Sem.run_bind,hrun]
     simp only [Result.andThen_ok,Sem.run_pure,Oper.upon_value]
     have i2:∀ b:Bool,Inv E M0 w0 ct M J ⟨(d,.v (.bool b)) :: (t0,.lst sz xs) :: sl,hp,ct⟩ ((tm.setIfInBounds t0 (.slice A n cap)).setIfInBounds d (.bool b)) w:=fun b=>by
       have:=Inv.put i1 (d:=some d) (x:=.v (.bool b)) (v:=.bool b) (ds:=[]) (.pure (.v _)) (fun t ht=>by have e:=Option.some.inj ht;subst e;rw [Array.size_setIfInBounds,hsz];exact hd2)
       exact this
     have afY:∀ b:Bool,((⟨tm.setIfInBounds t0 (.slice A n cap),M0.d⟩:Act).put o2.dst (.bool b)) = ⟨(tm.setIfInBounds t0 (.slice A n cap)).setIfInBounds d (.bool b),M0.d⟩:=fun b=>by rw [k3];rfl
     rw [afY]
     cases hAn:A with
     | none =>
       have hnil:xs = []:=Decidable.byContradiction fun hne=>by
         obtain ⟨b,o,e⟩:=hA hne
         rw [hAn] at e;cases e
       refine ⟨_,M,J,h1 hnil,?_,?_,rfl⟩
       · subst hAn;exact i2 true
       · simp;exact hsz
     | some a =>
       refine ⟨_,M,J,h2,?_,?_,rfl⟩
       · subst hAn;exact i2 false
       · simp;exact hsz
end
end Ev
end Go.Proofs.YtadlnaljicikfaaDoor.aI
namespace Go.Proofs.YtadlnaljicikfaaDoor.aI
open Go
set_option maxRecDepth 100000
attribute [local irreducible] Ev.iH Ev.iR Ev.bY Ev.runK Ev.cu Ev.gK Ev.Side Ev.Wp Ev.Again Ev.To Ev.Fin
open Go.Lib Go.RowKit
theorem Uf:∀ c,Tryd.f75.body = some c -> comp c = (.seq (.reg 0 [I.n 0 2 I.sn]) (.seq (.seq (.reg 1 [I.n 0 3 (I.mv 0),I.n 1 4 (.binOp .eql 23 (.tmp 3) (.const (Value.slice none 0 0)) 23)]) (.cond (.tmp 4) (.seq (.reg 2 [I.n 0 2 I.sn]) .ret) .skip)) (.seq (.reg 3 [I.n 0 5 (.buildSlice 23 0 #[]),I.n 1 6 (I.mv 0),I.n 2 7 (I.ap 5 6 23 23),I.n 3 2 (I.sa 7)]) .ret))):=by
 intro c h
 have:c = Tryd.f75.body.get rfl:=by rw [<- Option.some_inj,<- h];rfl
 rw [this];rfl
theorem abU:∀ c,Tryd.f26.body = some c -> comp c = (.seq (.reg 0 [I.n 0 2 (.alloc 27)]) (.seq (.reg 1 [I.n 0 6 (I.mv 0),I.n 1 7 (I.nc 6),I.n 2 8 (I.fa 44 7 1),I.n 3 9 (I.ld 9 8),I.n 4 10 (.buildSlice 25 1 #[(0,.const (Value.int .i64 0))]),I.n 5 11 (.build 27 #[(0,.tmp 9),(1,.tmp 10)]),I.n 6 3 (.alloc 27),I.u 7 (I.st 27 3 11)]) (.seq (.seq (.reg 2 [I.n 0 12 (I.mv 0),I.n 1 13 (I.nc 12),I.n 2 14 (I.fa 44 13 0),I.n 3 15 (I.fa 42 14 0),I.n 4 16 (I.ld 22 15),I.n 5 17 (I.ln 16 22),I.n 6 18 (.move (.const (Value.int .i64 0)))]) (.block 0 (.loop (.seq (.reg 3 [I.n 0 19 (I.bo .lss 3 18 17 3)]) (.seq (.cond (.tmp 19) .skip (.exit 0)) (.seq (.block 1 (.seq (.reg 4 [I.n 0 20 (I.mv 18),I.n 1 21 (I.ia 22 16 18),I.n 2 22 (I.ld 23 21),I.n 3 4 (I.sa 20),I.n 4 5 (I.sa 22)]) (.seq (.reg 5 [I.n 0 23 (I.fa 27 3 1),I.n 1 24 (I.ld 25 23),I.n 2 25 (I.mv 4),I.n 3 26 (I.bc .add 3 25 1 3),I.n 4 27 (I.b1 25 26),I.n 5 28 (I.ap 24 27 25 25),I.n 6 29 (I.fa 27 3 1),I.u 7 (I.st 25 29 28)]) (.draw 6 [I.n 0 30 (I.fa 27 3 2),I.n 1 31 (I.ld 22 30),I.n 2 32 (I.mv 5),I.n 3 33 (I.c1 75 32 23),I.n 4 34 (I.b1 22 33),I.n 5 35 (I.ap 31 34 22 22),I.n 6 36 (I.fa 27 3 2),I.u 7 (I.st 22 36 35)] [[],[0],[],[2],[3],[1,4,3],[0,1,2,3,4,5],[6,5,5,0,1,2,3,4,5]])))) (.reg 7 [I.n 0 37 (I.bc .add 3 18 1 3),I.n 1 18 (I.mv 37)]))))))) (.seq (.reg 8 [I.n 0 38 (I.ld 27 3),I.u 1 (I.st 27 2 38)]) .ret)))):=by
 intro c h
 have:c = Tryd.f26.body.get rfl:=by rw [<- Option.some_inj,<- h];rfl
 rw [this];rfl
theorem Kt (l:List Sp) (hl:l.length <= 100000000):aO env 75 [.lst 3 (aT l)] (fun r hs=>r = .lst 3 (aT l) /\ hs = []):=by
 have hsl:=aV l
 have hu:env.P.underlying 23 = some (.slice 35):=Tryd.underlying23
 by_cases h0:l = []
 · subst h0
   refine aO.res (R:=fun r hs=>uy r (.lst 3 (aT [])) /\ hs = []) ?_ (fun r hs ⟨a,b⟩=>⟨_,⟨rfl,b⟩,a⟩)
   refine Ev.fn [0,2,4] 0 [.tmp 2] Tryd.func75 (Uf _ rfl) ?_
   repeat' (first | refine' Ev.zP | (with_reducible refine Ev.L9 hu rfl (fun h=>?_) ?_) | refine' Ev.zS | refine' Ev.zK | refine' Ev.zT | fail)
   · exact ⟨uy.nil 3,rfl⟩
   · exact ⟨uy.refl _,rfl⟩
 · have hne:aT l ≠ []:=by intro e;have:=congrArg List.length e;rw [hsl] at this;exact h0 (List.length_eq_zero_iff.1 (by simpa using this))
   refine Ev.fn [0,2,4] 0 [.tmp 2] Tryd.func75 (Uf _ rfl) ?_
   repeat' (first | refine' Ev.zP | (with_reducible refine Ev.L9 hu rfl (fun h=>absurd h hne) ?_) | refine' Ev.zS | refine' Ev.zK | refine' Ev.zT | fail)
   refine ⟨?_,rfl⟩
   show AV.lst 3 (List.take (0 + (aT l).length) (List.drop 0 (aT l))) = _
   rw [List.drop_zero,Nat.zero_add,List.take_length]
def iw (n:Nat):List Int:=(List.range (n + 1)).map fun i:Nat=>(i:Int)
theorem pX (n:Nat):(iw n).length = n + 1:=by simp [iw]
theorem Cc (n:Nat):ints (iw n) ++ List.take 1 (List.drop 0 [[AV.v (.int .i64 ((n + 1:Nat):Int))]]) = ints (iw (n + 1)):=by
 have:iw (n + 1) = iw n ++ [((n + 1:Nat):Int)]:=by
   unfold iw;rw [List.range_succ,List.map_append];rfl
 rw [this,Ie]
set_option maxHeartbeats 4000000 in
theorem PG (vb vl fl vs fs:Nat) (Ls:List (List Sp)) (Ns:List Int) (t:ByteArray) (hx:∀ x ∈ Ls,x.length <= 100000000) (hL:Ls.length <= 1000000) :
    dn env 65536 26 [.ptr 7000 vb 0 0] (iD 7000 7001 7002 vb vl fl vs fs Ls Ns t)
      (fun x h=>∃ v1 v2:Nat,x = .agg [.v (.string t),.own 66080 v1 0 (Ls.length + 1),.own 9100 v2 0 Ls.length] /\ subs h (iD 7000 7001 7002 vb vl fl vs fs Ls Ns t ++ [(66080,⟨1,3,v1,0,false,ints (iw Ls.length)⟩),(9100,⟨1,23,v2,0,false,aX Ls⟩)])):=by
  have hrl:=bW Ls
  refine Ev.Cj [0,2,3,4,5,16,17,18,19] 65536 [.cell 2 27] Tryd.func26 (abU _ rfl) (fun ct=>?_)
  repeat' (first | refine' Ev.zP | refine' Ev.zS | refine' Ev.zK | ((with_reducible refine Ev.dG ?_);(first | refine Ev.dr 6 [] [0,1,2,3,4,5,6,7] ?_);intro Q hQ;(simp only [Ev.aj,Ev.ak]);conv=>whnf) | refine' Ev.zT | fail)
  refine Ev.xI 66096 9100 1 23 2 rfl rfl rfl ?_
  refine Ev.loop (fun k st=>∃ (i c v0 v3 v1 v2:Nat),st = ⟨[(2,.ptr 65536 v0 0 0),(3,.ptr 66096 v3 0 0),(16,.own 7001 vl 0 Ls.length),(17,.v (.int .i64 Ls.length)),(18,.v (.int .i64 i))],
    iD 7000 7001 7002 vb vl fl vs fs Ls Ns t ++ [(65536,⟨3,27,v0,0,true,[[.v (.string ⟨#[]⟩),nilA,nilA]]⟩),(66096,⟨3,27,v3,0,true,[[.v (.string t),.own 66080 v1 0 (i + 1),.own 9100 v2 0 i]]⟩),(66080,⟨1,3,v1,0,false,ints (iw i)⟩),(9100,⟨1,23,v2,0,false,aX (Ls.take i)⟩)],c⟩ /\ k + i = Ls.length) ?_ ?_
  · refine Ev.zB ⟨Ls.length,0,?_,?_,?_,?_,?_,rfl,?_⟩
    omega
  rintro k s1 ⟨i,c,v0,v3,v1,v2,rfl,hk⟩
  have hil:=iI (iw i)
  rw [pX] at hil
  have htl:=bW (Ls.take i)
  rw [List.length_take] at htl
  by_cases hi:i < Ls.length
  · have hii:(i:Int) < (Ls.length:Int):=by omega
    obtain ⟨k',rfl⟩:∃ k',k = k' + 1:=⟨k - 1,by omega⟩
    have hw:IntKind.i64.wrap ((i:Int) + 1) = ((i + 1:Nat):Int):=by rw [bg (by omega)];omega
    have hC:=Kt Ls[i] (hx _ (List.getElem_mem hi))
    repeat' (first | (with_reducible refine Ev.aJ hii ?_) | (with_reducible refine Ev.aF hii ?_) | refine' Ev.zP | refine' Ev.zS | refine' Ev.zK | ((with_reducible refine Ev.ca0 ?_);(first | refine Ev.ca (hC) ?_);conv=>whnf) | ((with_reducible refine Ev.dG ?_);(first | refine Ev.dr 6 [] [0,1,2,3,4,5,6,7] ?_);intro Q hQ;(simp only [Ev.aj,Ev.ak]);conv=>whnf) | refine' Ev.zT | fail)
    have hr:=Cc i
    rw [<- hw] at hr
    have hs:aX (Ls.take i) ++ List.take 1 (List.drop 0 [[AV.lst 3 (aT Ls[i])]]) = aX (Ls.take (i + 1)):=by rw [um,List.take_succ_eq_append_getElem hi]
    refine Ev.zA (k') ⟨i + 1,?_,v0,v3,?_,?_,rfl,?_⟩ (by refine' Ev.zp <;> first | (first | exact hw | exact congrArg (fun e=>aG.mk 1 3 _ 0 false e) hr | exact congrArg (fun e=>aG.mk 1 23 _ 0 false e) hs | (simp;done) | rfl) | rfl | (refine' Ev.ze;(first | exact hw | exact congrArg (fun e=>aG.mk 1 3 _ 0 false e) hr | exact congrArg (fun e=>aG.mk 1 23 _ 0 false e) hs | (simp;done) | rfl)) | fail)
    omega
  · have hii:¬ (i:Int) < (Ls.length:Int):=by omega
    repeat' (first | (with_reducible refine Ev.aP hii ?_) | (with_reducible refine Ev.aK hii ?_) | refine' Ev.zP | refine' Ev.zS | refine' Ev.zK | ((with_reducible refine Ev.dG ?_);(first | refine Ev.dr 6 [] [0,1,2,3,4,5,6,7] ?_);intro Q hQ;(simp only [Ev.aj,Ev.ak]);conv=>whnf) | refine' Ev.zT | fail)
    have e:i = Ls.length:=by omega
    subst e
    rw [List.take_length]
    exact ⟨v1,v2,rfl,Ev.ah rfl rfl,Ev.ah rfl rfl,Ev.ah rfl rfl,Ev.ah rfl rfl,Ev.ah rfl rfl,trivial⟩
end Go.Proofs.YtadlnaljicikfaaDoor.aI
namespace Go.Proofs.YtadlnaljicikfaaDoor.aI
open Go Go.Lib
namespace Ev
theorem PK {E:Env} {nm:Nat} {f:FuncId} (a b:List AV) {x y:AV} {hp hp':List (Nat × aG)} {ct:Nat} {K:AV -> List (Nat × aG) -> Nat -> Prop}
   (hx:∀ K:AV -> List (Nat × aG) -> Prop,K y hp' -> oD hp deep x fun y m=>wF hp m fun hp'=>K y hp') (h:dK E nm f (a ++ y :: b) hp' ct K):dK E nm f (a ++ x :: b) hp ct K:=by
 obtain ⟨N,h⟩:=h
 refine ⟨N,fun M0 w0 c M J w vs inv hn hr=>?_⟩
 have hlt:a.length < vs.size:=by rw [hn];simp
 have hxa:(a ++ x :: b)[a.length]? = some x:=by simp
 have hrx:=hr a.length x vs[a.length] hxa (by simp [hlt])
 have hpu:=qy (sl:=[]) (ct:=0) (hx (fun p q=>p = y /\ q = hp') ⟨rfl,rfl⟩) (K':=fun p s=>p = y /\ s = (⟨[],hp',0⟩:St)) (fun p q ⟨e1,e2⟩=>⟨e1,by rw [e2]⟩)
 obtain ⟨y',s',M',⟨e1,e2⟩,hsub,i1,pr,hc⟩:=inv.pure hrx hpu
 subst e1;subst e2
 obtain ⟨p,q⟩:=h M0 w0 c M' J w vs i1 (by simpa using hn) (fun i z v hz hv=>by
   by_cases hi:i = a.length
   · subst hi
     have:(a ++ y' :: b)[a.length]? = some y':=by simp
     rw [this] at hz;obtain rfl:=Option.some.inj hz
     have hv2:vs[a.length]? = some vs[a.length]:=by simp [hlt]
     rw [hv2] at hv;obtain rfl:=Option.some.inj hv
     exact .pure pr
   · refine (hr i z v ?_ hv).mono hsub (iG.refl J)
     rw [<- hz]
     rcases Nat.lt_or_ge i a.length with h1 | h1
     · rw [List.getElem?_append_left h1,List.getElem?_append_left h1]
     · rw [List.getElem?_append_right h1,List.getElem?_append_right h1]
       obtain ⟨k,hk⟩:∃ k,i - a.length = k + 1:=⟨i - a.length - 1,by omega⟩
       rw [hk];rfl)
 refine ⟨p,q.mono ?_⟩
 rintro e w' ⟨v,r,hp1,c',M2,J',x1,x2,x3,x4,x5,x6⟩
 exact ⟨v,r,hp1,c',M2,J',x1,x2,x3,x4,hsub.trans x5,x6⟩
theorem Ei {E:Env} {nm:Nat} {f:FuncId} (a b:List AV) {hp:List (Nat × aG)} {ct r v off len sz ty fH:Nat} {es:List (List AV)} {K:AV -> List (Nat × aG) -> Nat -> Prop} (hk:get hp r = some ⟨sz,ty,v,fH,false,es⟩) (hl:off + len <= es.length)
   (h:dK E nm f (a ++ .lst sz ((es.drop off).take len) :: b) ((r,⟨sz,ty,v,max fH (min (off + len) es.length),false,es⟩) :: hp) ct K):dK E nm f (a ++ .own r v off len :: b) hp ct K:=by
 refine PK a b (fun K hK=>?_) h
 have q1:(Nat.beq v v && !false) = true:=by simp
 simp only [oD,deep,hk,kX]
 refine jB (sided ?_ (Side.of hl)) q1
 simp only [wF,hk,kX]
 exact hK
end Ev
theorem dn.mono {E:Env} {N:Nat} {f:FuncId} {args:List AV} {hp:List (Nat × aG)} {R R':AV -> List (Nat × aG) -> Prop} (hc:dn E N f args hp R) (h:∀ r hp1,R r hp1 -> R' r hp1):dn E N f args hp R':=by
 intro M0 w0 c M J w vs inv hn hr
 obtain ⟨a,b⟩:=hc M0 w0 c M J w vs inv hn hr
 refine ⟨a,b.mono ?_⟩
 rintro e w' ⟨v,r,hp1,c',M',J',x1,x2,x3⟩
 exact ⟨v,r,hp1,c',M',J',x1,h r hp1 x2,x3⟩
abbrev Ug (B L S:Nat) (r:Nat):Nat:=if r = B then 7000 else if r = L then 7001 else if r = S then 7002 else r
abbrev abV (B L S:Nat) (r:Nat):Nat:=if r = 7000 then B else if r = 7001 then L else if r = 7002 then S else r
theorem Uh {B L S vb vl fl vs fs:Nat} {Ls:List (List Sp)} {Ns:List Int} {t:ByteArray} (h1:L ≠ B) (h2:S ≠ B) (h3:S ≠ L):L6 (Ug B L S) (iD B L S vb vl fl vs fs Ls Ns t) = iD 7000 7001 7002 vb vl fl vs fs Ls Ns t:=by
 simp [L6,jK,vV,Ug,h1,h2,h3]
theorem Mc {B L S vb vl fl vs fs:Nat} {Ls:List (List Sp)} {Ns:List Int} {t:ByteArray} {q:Nat} (h:get (iD B L S vb vl fl vs fs Ls Ns t) q ≠ none):q = B ∨ q = L ∨ q = S:=by
 rw [au,au,au,get_nil] at h
 split at h
 · rename_i e;exact .inl e
 · split at h
   · rename_i e;exact .inr (.inl e)
   · split at h
     · rename_i e;exact .inr (.inr e)
     · exact absurd rfl h
section
variable {nm ct:Nat} {hp:List (Nat × aG)} {K:AV -> List (Nat × aG) -> Nat -> Prop} (B L S:Nat) (F:List (Nat × aG)) {vb vl fl vs fs:Nat} {Ls:List (List Sp)} {Ns:List Int} {t:ByteArray}
theorem XL {f:FuncId} {args args':List AV} {P:AV -> Nat -> Nat -> Nat -> List (List Sp) -> List Int -> Prop} (hne:L ≠ B /\ S ≠ B /\ S ≠ L)
   (hc:dn env 65536 f args' (iD 7000 7001 7002 vb vl fl vs fs Ls Ns t) fun r h=>∃ iW iq vs' kG Ns',P r iW iq vs' kG Ns' /\ subs h (iD 7000 7001 7002 vb iW iq vs' fs kG Ns' t)) (ha:jK (Ug B L S) args = args')
   (hs:subs hp (iD B L S vb vl fl vs fs Ls Ns t)) (hF:subs hp F) (hB:get F B = none /\ get F L = none /\ get F S = none)
   (hk:∀ r iW iq vs' kG Ns',P r iW iq vs' kG Ns' -> ∀ c',ct + 8 <= c' -> K (vV (abV B L S) r) (iD B L S vb iW iq vs' fs kG Ns' t ++ F) c'):Ev.dK env nm f args hp ct K:=by
 have hc':=iQ (R':=fun r h=>∃ iW iq vs' kG Ns',P r iW iq vs' kG Ns' /\ h = iD 7000 7001 7002 vb iW iq vs' fs kG Ns' t) hc (fun r h ⟨iW,iq,vs',kG,Ns',h1,h2⟩=>⟨_,⟨iW,iq,vs',kG,Ns',h1,rfl⟩,h2⟩)
 have out:∀ {vl fl vs:Nat} {Ls:List (List Sp)} {Ns:List Int} (q:Nat),get (iD B L S vb vl fl vs fs Ls Ns t) q ≠ none -> get F q = none:=by
   intro vl fl vs Ls Ns q h
   rcases Mc h with rfl | rfl | rfl
   · exact hB.1
   · exact hB.2.1
   · exact hB.2.2
 refine oz (Ug B L S) (abV B L S) F hc' ha (Uh hne.1 hne.2.1 hne.2.2) hs hF out ?_
 rintro r h1 ⟨iW,iq,vs',kG,Ns',hP,rfl⟩
 exact ⟨out,hk r iW iq vs' kG Ns' hP⟩
theorem Yd {w:List Sp} {e:Int} (hne:L ≠ B /\ S ≠ B /\ S ≠ L) (hw:w.length <= 100000000) (hb:bT w <= 1000000000) (hN:Ns.length = Ls.length + 1) (hL:Ls.length <= 1000000) (he:∀ h:Ns ≠ [],gq w (Ns.getLast h) = e)
   (hs:subs hp (iD B L S vb vl fl vs fs Ls Ns t)) (hF:subs hp F) (hB:get F B = none /\ get F L = none /\ get F S = none)
   (hk:∀ iW vs' c',ct + 8 <= c' -> K (.v (.int .i64 e)) (iD B L S vb iW fl vs' fs (Ls ++ if e = 0 then [norm w] else []) (Ns ++ if e = 0 then [outW w] else []) t ++ F) c'):Ev.dK env nm 25 [.ptr B vb 0 0,.lst 3 (aT w)] hp ct K:=by
 have hc:=PD vb vl fl vs fs Ls Ns t w hw hb hN hL
 have hne':Ns ≠ []:=by intro h;rw [h] at hN;simp at hN
 rw [he hne'] at hc
 refine XL (P:=fun r iW iq vs' kG Ns'=>r = .v (.int .i64 e) /\ iq = fl /\ kG = Ls ++ (if e = 0 then [norm w] else []) /\ Ns' = Ns ++ (if e = 0 then [outW w] else [])) B L S F hne (hc.mono ?_) (by simp [jK,vV]) hs hF hB ?_
 · rintro r h ⟨rfl,iW,vs',rfl⟩
   exact ⟨iW,fl,vs',_,_,⟨rfl,rfl,rfl,rfl⟩,⟨Ev.ah rfl rfl,Ev.ah rfl rfl,Ev.ah rfl rfl,trivial⟩⟩
 · rintro r iW iq vs' kG Ns' ⟨rfl,rfl,rfl,rfl⟩ c' hc'
   exact hk iW vs' c' hc'
theorem afg{G:Prop}(h:G:=by exact ⟨vl,iq,vs,Ls,Ns,⟨hX,rfl,rfl,rfl,rfl⟩,h'⟩):G:=h
theorem ag1{G:Prop}(h:G:=by rw [hp0];exact hk iq c' hc'):G:=h
theorem ail {r:Int} {X:AV} (hX:Kr t Ls r = X) (hp0:∀ ρ,vV ρ X = X) (hne:L ≠ B /\ S ≠ B /\ S ≠ L) (hx:∀ x ∈ Ls,x.length <= 100000000) (hb:t.size + rC Ls <= 1000000000) (hL:Ls.length <= 1000000)
   (hs:subs hp (iD B L S vb vl fl vs fs Ls Ns t)) (hF:subs hp F) (hB:get F B = none /\ get F L = none /\ get F S = none)
   (hk:∀ iq c',ct + 8 <= c' -> K X (iD B L S vb vl iq vs fs Ls Ns t ++ F) c'):Ev.dK env nm 30 [.ptr B vb 0 0,.v (.int .i64 r)] hp ct K:=by
 refine XL (P:=fun x iW iq vs' kG Ns'=>x = X /\ iW = vl /\ vs' = vs /\ kG = Ls /\ Ns' = Ns) B L S F hne ((Uc vb vl fl vs fs Ls Ns t r hx hb hL).mono ?_) (by simp [jK,vV]) hs hF hB ?_
 · rintro x h ⟨rfl,iq,h'⟩
   refine' afg
 · rintro r iW iq vs' kG Ns' ⟨rfl,rfl,rfl,rfl,rfl⟩ c' hc'
   refine' ag1
theorem agA {a:List Sp} {r:Int} {X:AV} (hX:BZ Ls Ns a r = X) (hp0:∀ ρ,vV ρ X = X) (hne:L ≠ B /\ S ≠ B /\ S ≠ L) (hN:Ns.length = Ls.length + 1) (hl:a.length + jf Ls <= 9999999) (ha:bT a <= 100000000) (hb:∀ x ∈ Ls,bT x <= 100000000) (hL:Ls.length <= 1000000) (ho:∀ s ∈ Ls,aC s = 0 -> aY dO s <= 1048576)
   (hs:subs hp (iD B L S vb vl fl vs fs Ls Ns t)) (hF:subs hp F) (hB:get F B = none /\ get F L = none /\ get F S = none)
   (hk:∀ iq c',ct + 8 <= c' -> K X (iD B L S vb vl iq vs fs Ls Ns t ++ F) c'):Ev.dK env nm 33 [.ptr B vb 0 0,.lst 3 (aT a),.v (.int .i64 r)] hp ct K:=by
 refine XL (P:=fun x iW iq vs' kG Ns'=>x = X /\ iW = vl /\ vs' = vs /\ kG = Ls /\ Ns' = Ns) B L S F hne ((Ud vb vl fl vs fs Ls Ns t a r hN hl ha hb hL ho).mono ?_) (by simp [jK,vV]) hs hF hB ?_
 · rintro x h ⟨rfl,iq,h'⟩
   refine' afg
 · rintro r iW iq vs' kG Ns' ⟨rfl,rfl,rfl,rfl,rfl⟩ c' hc'
   refine' ag1
theorem abW {r s:Int} {X:AV} (hX:Cb Ls Ns r s = X) (hp0:∀ ρ,vV ρ X = X) (hne:L ≠ B /\ S ≠ B /\ S ≠ L) (hN:Ns.length = Ls.length + 1) (hn:∀ n ∈ Ns,0 <= n /\ n <= 1048576) (hl:jf Ls <= 9999999) (hb:lK Ls <= 100000000) (hL:Ls.length <= 1000000)
   (hs:subs hp (iD B L S vb vl fl vs fs Ls Ns t)) (hF:subs hp F) (hB:get F B = none /\ get F L = none /\ get F S = none)
   (hk:∀ iq c',ct + 8 <= c' -> K X (iD B L S vb vl iq vs fs Ls Ns t ++ F) c'):Ev.dK env nm 38 [.ptr B vb 0 0,.v (.int .i64 r),.v (.int .i64 s)] hp ct K:=by
 refine XL (P:=fun x iW iq vs' kG Ns'=>x = X /\ iW = vl /\ vs' = vs /\ kG = Ls /\ Ns' = Ns) B L S F hne ((Ue vb vl fl vs fs Ls Ns t r s hN hn hl hb hL).mono ?_) (by simp [jK,vV]) hs hF hB ?_
 · rintro x h ⟨rfl,iq,h'⟩
   refine' afg
 · rintro r iW iq vs' kG Ns' ⟨rfl,rfl,rfl,rfl,rfl⟩ c' hc'
   refine' ag1
end
end Go.Proofs.YtadlnaljicikfaaDoor.aI
namespace Go.Proofs.YtadlnaljicikfaaDoor.aI
open Go
set_option maxRecDepth 100000
attribute [local irreducible] Ev.iH Ev.iR Ev.bY Ev.runK Ev.cu Ev.gK Ev.Side Ev.Wp Ev.Again Ev.To Ev.Fin
open Go.Lib Go.RowKit
theorem abX:∀ c,Tryd.f22.body = some c -> comp c = (.seq (.reg 0 [I.n 0 0 (I.sb false)]) (.seq (.reg 1 [I.n 0 8 (.call { callee:=.value (.func 24),args:=#[.const (Value.string { data:=#[97] })],argTypes:=#[9] }),I.n 1 7 (I.mv 8),I.n 2 9 (I.ex 7 0),I.n 3 10 (I.ex 7 1),I.n 4 1 (I.sa 9),I.n 5 2 (I.sa 10)]) (.seq (.seq (.reg 2 [I.n 0 11 (I.mv 1),I.n 1 12 (.binOp .eql 29 (.tmp 11) (.const (Value.pointer none)) 29),I.n 2 13 (I.mv 12),I.w 3 14 (I.mv 2) 13 false,I.w 4 15 (I.bc .neq 30 14 0 30) 13 false,I.n 5 16 (I.pb 13 true 15)]) (.cond (.tmp 16) (.seq (.reg 3 [I.n 0 0 (I.sb false)]) .ret) .skip)) (.seq (.reg 4 [I.n 0 17 (I.mv 1),I.n 1 18 (.build 35 #[(0,.const (Value.int .i64 2)),(2,.const (Value.string { data:=#[98] }))]),I.n 2 19 (.build 35 #[(0,.const (Value.int .i64 1)),(1,.const (Value.int .i64 1))]),I.n 3 20 (.buildSlice 23 2 #[(0,.tmp 18),(1,.tmp 19)]),I.n 4 21 (I.c2 25 17 20 29 23),I.n 5 3 (I.sa 21)]) (.seq (.reg 5 [I.n 0 22 (I.mv 1),I.n 1 23 (.build 35 #[(0,.const (Value.int .i64 3)),(1,.const (Value.int .i64 1))]),I.n 2 24 (.build 35 #[(0,.const (Value.int .i64 1)),(1,.const (Value.int .i64 1))]),I.n 3 25 (.buildSlice 23 2 #[(0,.tmp 23),(1,.tmp 24)]),I.n 4 26 (I.c2 25 22 25 29 23),I.n 5 4 (I.sa 26)]) (.seq (.reg 6 [I.n 0 28 (I.mv 1),I.n 1 29 (.call { callee:=.value (.func 38),args:=#[.tmp 28,.const (Value.int .i64 0),.const (Value.int .i64 2)],argTypes:=#[29,3,3] }),I.n 2 27 (I.mv 29),I.n 3 30 (I.ex 27 0),I.n 4 31 (I.ex 27 1),I.n 5 5 (I.sa 30),I.n 6 6 (I.sa 31)]) (.seq (.reg 7 [I.n 0 32 (I.mv 3),I.n 1 33 (I.bc .eql 30 32 0 30),I.n 2 34 (I.mv 33),I.w 3 35 (I.mv 4) 34 true,I.w 4 36 (I.bc .eql 30 35 0 30) 34 true,I.n 5 37 (I.pc 34 36 false),I.n 6 38 (I.mv 37),I.w 7 39 (I.mv 6) 38 true,I.w 8 40 (I.bc .eql 30 39 0 30) 38 true,I.n 9 41 (I.pc 38 40 false),I.n 10 42 (I.mv 41),I.w 11 43 (I.mv 5) 42 true,I.w 12 44 (I.ln 43 23) 42 true,I.w 13 45 (I.bc .eql 3 44 1 3) 42 true,I.n 14 46 (I.pc 42 45 false),I.n 15 47 (I.mv 46),I.w 16 48 (I.mv 5) 47 true,I.w 17 49 (I.ic 23 48 0) 47 true,I.w 18 50 (I.ld 35 49) 47 true,I.w 19 51 (.build 35 #[(0,.const (Value.int .i64 1)),(1,.const (Value.int .i64 1))]) 47 true,I.w 20 52 (I.bo .eql 35 50 51 35) 47 true,I.n 21 53 (I.pc 47 52 false),I.n 22 54 (I.mv 53),I.w 23 55 (I.mv 1) 54 true,I.w 24 56 (I.nc 55) 54 true,I.w 25 57 (I.fa 44 56 0) 54 true,I.w 26 58 (I.c1 29 57 42) 54 true,I.w 27 59 (I.bc .eql 3 58 2 3) 54 true,I.n 28 60 (I.pc 54 59 false),I.n 29 0 (I.sa 60)]) .ret))))))):=by
 intro c h
 have:c = Tryd.f22.body.get rfl:=by rw [<- Option.some_inj,<- h];rfl
 rw [this];rfl
namespace Ev
theorem Ku {E:Env} {nt:Nat} (id q r sz ty j0:Nat) {l:List Ins} {K:Exit -> St -> Prop} {sl:List (Nat × AV)} {hp:List (Nat × aG)} {ct v0 TA n0:Nat} {cs:List AV} (hg:get hp q = some ⟨n0,TA,v0,0,true,[cs]⟩) (hn:cs[j0]? = some nilA) (hr:get hp r = none)
 (h:Wp E nt (.reg id l) K ⟨sl,(q,⟨n0,TA,v0,0,true,[cs.set j0 (.own r ct 0 0)]⟩) :: (r,⟨sz,ty,ct,0,false,[]⟩) :: hp,ct + 8⟩):Wp E nt (.reg id l) K ⟨sl,hp,ct⟩:=xI q r sz ty j0 hg hn hr h
end Ev
theorem Ui {nm ct:Nat} {hp:List (Nat × aG)} {K:AV -> List (Nat × aG) -> Nat -> Prop} (B L S:Nat) (F:List (Nat × aG)) {vb vl fl vs fs:Nat} {Ls:List (List Sp)} {Ns:List Int} {t:ByteArray} {w:List Sp} (hne:L ≠ B /\ S ≠ B /\ S ≠ L) (hw:w.length <= 100000000) (hb:bT w <= 1000000000) (hN:Ns.length = Ls.length + 1) (hL:Ls.length <= 1000000) (he:∀ h:Ns ≠ [],gq w (Ns.getLast h) = 0)
   (hs:subs hp (iD B L S vb vl fl vs fs Ls Ns t)) (hF:subs hp F) (hB:get F B = none /\ get F L = none /\ get F S = none)
   (hk:∀ iW vs' c',ct + 8 <= c' -> K (.v (.int .i64 0)) (iD B L S vb iW fl vs' fs (Ls ++ [norm w]) (Ns ++ [outW w]) t ++ F) c'):Ev.dK env nm 25 [.ptr B vb 0 0,.lst 3 (aT w)] hp ct K :=
 Yd B L S F hne hw hb hN hL he hs hF hB (fun iW vs' c' h=>by rw [if_pos rfl,if_pos rfl];exact hk iW vs' c' h)
def Ye:List Sp:=[⟨2,0,⟨#[98]⟩⟩,⟨1,1,⟨#[]⟩⟩]
def sh2:List Sp:=[⟨3,1,⟨#[]⟩⟩,⟨1,1,⟨#[]⟩⟩]
theorem Uj:norm Ye = Ye:=by decide +kernel
theorem Uk:norm sh2 = sh2:=by decide +kernel
theorem abZ:Cb [Ye,sh2] [1,2,1] 0 2 = .dM [.lst 3 (aT [⟨1,1,⟨#[]⟩⟩]),.v (.int .i64 0)]:=by rfl
theorem FI:aO env 22 [] (fun r hs=>r = .v (.bool true) /\ hs = []):=by
 have hNew:=L8 ⟨#[97]⟩ (by decide) (by decide +kernel)
 have hc:cO ⟨#[97]⟩ = 1:=by decide +kernel
 rw [hc] at hNew
 have e1:outW Ye = 2:=by decide +kernel
 have e2:outW sh2 = 1:=by decide +kernel
 have g1:gq Ye 1 = 0:=by decide +kernel
 have g2:gq sh2 2 = 0:=by decide +kernel
 refine Ev.fn [0,1,2,3,4,5,6,16] 0 [.tmp 0] Tryd.func22 (abX _ rfl) ?_
 repeat' (first | (with_reducible refine Ev.Ku 2 512 9100 1 23 0 rfl rfl rfl ?_) | refine' Ev.zP | refine' Ev.zS | ((with_reducible refine Ev.kr (hs:=[25,38,29]) (fun Q hQ=>?_));refine' Ev.zR) | ((with_reducible refine Ev.kZ 29 ?_);refine Ev.il 29 [0,2] [.tmp 2] Tryd.func29 (eG _ rfl) (fun aW=>?_)) | ((refine Ev.mQ hNew rfl (by simp) ⟨rfl,rfl,trivial⟩ ?_);conv=>whnf) | ((((with_reducible refine Ev.gI ?_);refine Ev.Ei [_] [] rfl (by decide) ?_;refine Ui 512 9100 513 [] (Ls:=[]) (Ns:=[1]) (t:=⟨#[97]⟩) (w:=Ye) (by decide) (by decide) (by decide +kernel) rfl (by decide) (fun _=>g1) ⟨Ev.ah rfl rfl,Ev.ah rfl rfl,Ev.ah rfl rfl,trivial⟩ trivial ⟨rfl,rfl,rfl⟩ (fun iW vs' c' _=>?_);rw [Uj,e1];conv=>whnf));conv=>whnf) | ((((with_reducible refine Ev.gI ?_);refine Ev.Ei [_] [] rfl (by decide) ?_;refine Ui 512 9100 513 [] (Ls:=[Ye]) (Ns:=[1,2]) (t:=⟨#[97]⟩) (w:=sh2) (by decide) (by decide) (by decide +kernel) rfl (by decide) (fun _=>g2) ⟨Ev.ah rfl rfl,Ev.ah rfl rfl,Ev.ah rfl rfl,trivial⟩ trivial ⟨rfl,rfl,rfl⟩ (fun iW vs' c' _=>?_);rw [Uk,e2];conv=>whnf));conv=>whnf) | ((((with_reducible refine Ev.gI ?_);refine abW 512 9100 513 [] (Ls:=[Ye,sh2]) (Ns:=[1,2,1]) (t:=⟨#[97]⟩) abZ (fun _=>rfl) (by decide) rfl (by decide) (by decide) (by decide +kernel) (by decide) ⟨Ev.ah rfl rfl,Ev.ah rfl rfl,Ev.ah rfl rfl,trivial⟩ trivial ⟨rfl,rfl,rfl⟩ (fun iq c' _=>?_);conv=>whnf));conv=>whnf) | refine' Ev.zT | fail)
 exact ⟨rfl,rfl⟩
end Go.Proofs.YtadlnaljicikfaaDoor.aI
namespace Go.Proofs.YtadlnaljicikfaaDoor.aI
open Go Go.Lib
theorem Ul (l:List (List Sp)) (n:Int):Iq n l ≠ []:=by intro h;have:=xA l n;rw [h] at this;simp at this
theorem Ig:∀ (l:List (List Sp)) (n:Int) (h:Iq n l ≠ []),(Iq n l).getLast h = pq n l
 | [],n,h=>rfl
 | x :: l,n,h=>by
   show (n :: Iq (outW x) l).getLast _ = _
   rw [List.getLast_cons (Ul l _),Ig l];rfl
theorem Md:∀ (l:List (List Sp)) (n:Int) (x:List Sp),Iq n (l ++ [x]) = Iq n l ++ [outW x]
 | [],n,x=>rfl
 | y :: l,n,x=>by show n :: Iq (outW y) (l ++ [x]) = _;rw [Md l];rfl
theorem Ag:∀ (l:List (List Sp)) (n:Int) (i:Nat),i <= l.length -> (Iq n l).getD i 0 = pq n (l.take i)
 | l,n,0,_=>by cases l <;> rfl
 | [],n,i + 1,h=>by simp at h
 | x :: l,n,i + 1,h=>by
   show (Iq (outW x) l).getD i 0 = pq (outW x) (l.take i)
   exact Ag l (outW x) i (by simpa using h)
theorem Ih:∀ (l:List (List Sp)) (n:Int) (x:List Sp),pq n (l ++ [x]) = outW x
 | [],n,x=>rfl
 | y :: l,n,x=>Ih l (outW y) x
theorem Ah {n:Int} {x:List Sp} (h:qZ n x = 0):aC x = 0 /\ iT x = n /\ outW x <= 1048576 /\ UF x = true /\ gq x n = 0:=by
 unfold qZ at h
 by_cases m0:aC x = 0
 · rw [if_neg (by simpa using m0)] at h
   by_cases m1:iT x = n
   · rw [if_neg (by simpa using m1)] at h
     by_cases m2:1048576 < outW x
     · rw [if_pos m2] at h;cases h
     · rw [if_neg m2] at h
       by_cases m3:UF x = true
       · exact ⟨m0,m1,by omega,m3,by unfold gq;rw [if_neg (by simpa using m0),if_neg (by simpa using m1),if_neg m2]⟩
       · rw [if_neg m3] at h;cases h
   · rw [if_pos m1] at h;cases h
 · rw [if_pos m0] at h;exact absurd h m0
theorem Ej {n:Int} {l:List (List Sp)} (h:gW n l = 0) {i:Nat} (hi:i < l.length):qZ (pq n (l.take i)) l[i] = 0:=by
 have:=(nH h i).2
 rw [List.drop_eq_getElem_cons hi] at this
 simp only [gW] at this
 by_cases h0:qZ (pq n (l.take i)) l[i] = 0
 · exact h0
 · rw [if_neg h0] at this;exact absurd this h0
theorem PL {n:Int} {l:List (List Sp)} (h:gW n l = 0) {x:List Sp} (hx:x ∈ l):∃ m,qZ m x = 0:=by
 obtain ⟨i,hi,rfl⟩:=List.getElem_of_mem hx
 exact ⟨_,Ej h hi⟩
theorem XM {x:List Sp} (h:aC x = 0) (hl:x.length <= 1000000000) (ho:aY dO x <= 9000000000000000000):0 <= outW x /\ outW x = aY dO x:=by
 have o:=(oM.of h hl).1
 have e1:=ku x
 have e2:0 <= aY dO x:=by have:=bU o.all;omega
 rw [bg (by omega)] at e1
 omega
theorem FK {x:List Sp} (h:aC x = 0) (hl:x.length <= 10000000) (hb:bT x <= 100000000):0 <= outW x /\ outW x = aY dO x:=by
 have o:=(oM.of h (by omega)).1
 have f:=lq x o.all
 have b:=o.bnd
 exact XM h (by omega) (by omega)
theorem Em:∀ (l:List (List Sp)) (n:Int),gW n l = 0 -> (gG n l).2 = 0
 | [],n,_=>rfl
 | x :: l,n,h=>by
   simp only [gW] at h
   by_cases h0:qZ n x = 0
   · rw [if_pos h0] at h
     obtain ⟨a,b,c,d,e⟩:=Ah h0
     simp only [gG]
     rw [if_pos a,if_pos b]
     exact Em l _ h
   · rw [if_neg h0] at h;exact absurd h h0
end Go.Proofs.YtadlnaljicikfaaDoor.aI
namespace Go.Proofs.YtadlnaljicikfaaDoor.aI
open Go
set_option maxRecDepth 100000
attribute [local irreducible] Ev.iH Ev.iR Ev.bY Ev.runK Ev.cu Ev.gK Ev.Side Ev.Wp Ev.Again Ev.To Ev.Fin
open Go.Lib Go.RowKit
theorem Kv:∀ c,Tryd.f50.body = some c -> comp c = (.seq (.reg 0 [I.n 0 2 (.assign (.const (Value.pointer none))),I.n 1 3 (I.si 0)]) (.seq (.seq (.reg 1 [I.n 0 4 (I.mv 0),I.n 1 5 (I.c1 99 4 9),I.n 2 6 (.unOp .not 4 (.tmp 5))]) (.cond (.tmp 6) (.seq (.reg 2 [I.n 0 2 (.assign (.const (Value.pointer none))),I.n 1 3 (I.si 3)]) .ret) .skip)) (.seq (.seq (.reg 3 [I.n 0 7 (I.mv 0),I.n 1 8 (I.c1 70 7 9),I.n 2 9 (I.bc .gtr 3 8 1048576 3)]) (.cond (.tmp 9) (.seq (.reg 4 [I.n 0 2 (.assign (.const (Value.pointer none))),I.n 1 3 (I.si 4)]) .ret) .skip)) (.seq (.reg 5 [I.n 0 10 (I.mv 0),I.n 1 11 (I.b1 78 10),I.n 2 12 (.build 80 #[(0,.tmp 11)]),I.n 3 13 (.box 80 (.tmp 12)),I.n 4 2 (I.sa 13),I.n 5 3 (I.si 0)]) .ret)))):=by
 intro c h
 have:c = Tryd.f50.body.get rfl:=by rw [<- Option.some_inj,<- h];rfl
 rw [this];rfl
theorem FM:∀ c,Tryd.f51.body = some c -> comp c = (.seq (.reg 0 [I.n 0 4 (I.si 0)]) (.seq (.reg 1 [I.n 0 9 (I.mv 1),I.n 1 10 (I.c1 100 9 23),I.n 2 5 (I.sa 10)]) (.seq (.seq (.reg 2 [I.n 0 11 (I.mv 5),I.n 1 12 (I.bc .neq 30 11 0 30)]) (.cond (.tmp 12) (.seq (.reg 3 [I.n 0 13 (I.mv 5),I.n 1 4 (I.sa 13)]) .ret) .skip)) (.seq (.draw 4 [I.n 0 14 (I.mv 0),I.n 1 15 (I.nc 14),I.n 2 16 (I.fa 80 15 0),I.n 3 17 (I.ld 78 16),I.n 4 18 (I.mv 0),I.n 5 19 (I.nc 18),I.n 6 20 (I.fa 80 19 0),I.n 7 21 (I.ld 78 20),I.n 8 22 (I.ln 21 78),I.n 9 23 (I.bc .sub 3 22 1 3),I.n 10 24 (I.ia 78 17 23),I.n 11 25 (I.ld 9 24),I.n 12 6 (I.sa 25)] [[],[0],[1],[2],[],[4],[5],[6],[7],[8],[3,9],[10],[11,0,1,2,3,4,5,6,7,8,9,10,11]]) (.seq (.seq (.reg 5 [I.n 0 26 (I.mv 1),I.n 1 27 (I.c1 101 26 23),I.n 2 28 (I.mv 6),I.n 3 29 (I.c1 70 28 9),I.n 4 30 (I.bo .neq 3 27 29 3)]) (.cond (.tmp 30) (.seq (.reg 6 [I.n 0 4 (I.si 5)]) .ret) .skip)) (.seq (.seq (.reg 7 [I.n 0 31 (I.mv 1),I.n 1 32 (I.c1 102 31 23),I.n 2 33 (I.bc .gtr 3 32 1048576 3)]) (.cond (.tmp 33) (.seq (.reg 8 [I.n 0 4 (I.si 4)]) .ret) .skip)) (.seq (.reg 9 [I.n 0 35 (I.mv 1),I.n 1 36 (I.mv 6),I.n 2 37 (I.c2 103 35 36 23 9),I.n 3 34 (I.mv 37),I.n 4 38 (I.ex 34 0),I.n 5 39 (I.ex 34 1),I.n 6 7 (I.sa 38),I.n 7 8 (I.sa 39)]) (.seq (.reg 10 [I.n 0 40 (I.mv 0),I.n 1 41 (I.mv 0),I.n 2 42 (I.nc 41),I.n 3 43 (I.fa 80 42 0),I.n 4 44 (I.ld 78 43),I.n 5 45 (I.mv 7),I.n 6 46 (I.b1 78 45),I.n 7 47 (I.ap 44 46 78 78),I.n 8 48 (I.nc 40),I.n 9 49 (I.fa 80 48 0),I.u 10 (I.st 78 49 47)]) (.seq (.draw 11 [I.n 0 50 (I.mv 0),I.n 1 51 (I.mv 0),I.n 2 52 (I.nc 51),I.n 3 53 (I.fa 80 52 1),I.n 4 54 (I.ld 22 53),I.n 5 55 (I.mv 1),I.n 6 56 (I.c1 71 55 23),I.n 7 57 (I.b1 22 56),I.n 8 58 (I.ap 54 57 22 22),I.n 9 59 (I.nc 50),I.n 10 60 (I.fa 80 59 1),I.u 11 (I.st 22 60 58)] [[],[],[1],[2],[3],[],[5],[6],[4,7,6],[0,0,1,2,3,4,5,6,7,8],[9,0,1,2,3,4,5,6,7,8],[10,8,8,0,1,2,3,4,5,6,7,8]]) (.seq (.reg 12 [I.n 0 4 (I.si 0)]) .ret)))))))))):=by
 intro c h
 have:c = Tryd.f51.body.get rfl:=by rw [<- Option.some_inj,<- h];rfl
 rw [this];rfl
theorem yU:∀ c,Tryd.f53.body = some c -> comp c = (.seq (.reg 0 [I.n 0 4 (.assign (.const (Value.string { data:=#[] }))),I.n 1 5 (I.si 0)]) (.seq (.seq (.reg 1 [I.n 0 6 (I.mv 1),I.n 1 7 (I.bc .lss 3 6 0 3),I.n 2 8 (I.mv 7),I.w 3 9 (I.mv 1) 8 false,I.w 4 10 (I.mv 0) 8 false,I.w 5 11 (I.nc 10) 8 false,I.w 6 12 (I.fa 80 11 1) 8 false,I.w 7 13 (I.ld 22 12) 8 false,I.w 8 14 (I.ln 13 22) 8 false,I.w 9 15 (I.bo .gtr 3 9 14 3) 8 false,I.n 10 16 (I.pb 8 true 15)]) (.cond (.tmp 16) (.seq (.reg 2 [I.n 0 4 (.assign (.const (Value.string { data:=#[] }))),I.n 1 5 (I.si 6)]) .ret) .skip)) (.seq (.reg 3 [I.n 0 17 (I.mv 0),I.n 1 18 (I.nc 17),I.n 2 19 (I.fa 80 18 0),I.n 3 20 (I.ld 78 19),I.n 4 21 (I.mv 1),I.n 5 22 (I.ia 78 20 21),I.n 6 23 (I.ld 9 22),I.n 7 4 (I.sa 23),I.n 8 5 (I.si 0)]) .ret))):=by
 intro c h
 have:c = Tryd.f53.body.get rfl:=by rw [<- Option.some_inj,<- h];rfl
 rw [this];rfl
def PN (l:List ByteArray):List (List AV):=l.map fun t=>[.v (.string t)]
@[simp] theorem nJ (l:List ByteArray):(PN l).length = l.length:=by simp [PN]
theorem Um (Ts:List ByteArray) (t:ByteArray):PN Ts ++ List.take 1 (List.drop 0 [[AV.v (.string t)]]) = PN (Ts ++ [t]):=by simp [PN]
theorem yV {t:ByteArray}:validD t.data.toList = false ↔ bG t.data.toList < 0:=by
 constructor
 · intro h;rw [vH h];decide
 · intro h
   cases hv:validD t.data.toList with
   | false=>rfl
   | true=>rw [bH hv] at h;omega
theorem afe{G:Prop}(h:G:=by
 have hv:validD t.data.toList = true:=by
   cases hv:validD t.data.toList with
   | true=>rfl
   | false=>exact absurd (yV.1 hv) h0
 rw [hv] at hV
 all_goals(rcases(⟨_⟩:PLift _)with⟨h⟩;exact h)):G:=h
theorem XO (t:ByteArray) (ht:t.size <= 1000000000) (h:newE t = 0) :
   aO env 50 [.v (.string t)] (fun r hs=>r = .dM [.ptr 0 0 0 0,.v (.int .i64 0)] /\ hs = [⟨2,80,0,0,true,[[.own 1 1 0 1,nilA]]⟩,⟨1,9,1,0,false,[[.v (.string t)]]⟩]):=by
 have hC:=gU t ht
 have hV:=rZ t ht
 refine' aec
 refine' afe
 refine Ev.fnO [0,2,3,6,9] 0 [.tmp 2,.tmp 3] Tryd.func50 (Kv _ rfl) ?_
 repeat' (first | (with_reducible refine Ev.aP h1 ?_) | (with_reducible refine Ev.aK h1 ?_) | refine' Ev.zP | refine' Ev.zS | refine' Ev.zK | ((with_reducible refine Ev.ca0 ?_);(first | refine Ev.ca (hC) ?_ | refine Ev.ca (hV) ?_);conv=>whnf) | refine' Ev.zT | fail)
 refine Ev.IY [(2584,8),(2568,0)] (by simp) (fun F hF=>?_)
 conv=>whnf
 refine hF _ ?_
 exact ⟨rfl,rfl⟩
theorem Un (t:ByteArray) (ht:t.size <= 1000000000) (h:newE t ≠ 0) :
   aO env 50 [.v (.string t)] (fun r hs=>r = .dM [.v (.pointer none),.v (.int .i64 (newE t))] /\ hs = []):=by
 have hC:=gU t ht
 have hV:=rZ t ht
 unfold newE at h ⊢
 by_cases h0:bG t.data.toList < 0
 · rw [if_pos h0]
   rw [yV.2 h0] at hV
   refine Ev.fn [0,2,3,6,9] 0 [.tmp 2,.tmp 3] Tryd.func50 (Kv _ rfl) ?_
   repeat' (first | refine' Ev.zP | refine' Ev.zS | refine' Ev.zK | ((with_reducible refine Ev.ca0 ?_);(first | refine Ev.ca (hC) ?_ | refine Ev.ca (hV) ?_);conv=>whnf) | refine' Ev.zT | fail)
   exact ⟨rfl,rfl⟩
 · refine' afe
   by_cases h1:1048576 < bG t.data.toList
   · rw [if_neg h0,if_pos h1]
     refine Ev.fn [0,2,3,6,9] 0 [.tmp 2,.tmp 3] Tryd.func50 (Kv _ rfl) ?_
     repeat' (first | (with_reducible refine Ev.aJ h1 ?_) | (with_reducible refine Ev.aF h1 ?_) | refine' Ev.zP | refine' Ev.zS | refine' Ev.zK | ((with_reducible refine Ev.ca0 ?_);(first | refine Ev.ca (hC) ?_ | refine Ev.ca (hV) ?_);conv=>whnf) | refine' Ev.zT | fail)
     exact ⟨rfl,rfl⟩
   · rw [if_neg h0,if_neg h1] at h;exact absurd rfl h
abbrev jg (B T L vb vt ft vl fl:Nat) (Ts:List ByteArray) (Ls:List (List Sp)):List (Nat × aG) :=
 [(B,⟨2,80,vb,0,true,[[.own T vt 0 Ts.length,.own L vl 0 Ls.length]]⟩),(T,⟨1,9,vt,ft,false,PN Ts⟩),(L,⟨1,23,vl,fl,false,aX Ls⟩)]
set_option maxHeartbeats 4000000 in
theorem Kw (vb vt ft vl fl:Nat) (Ts:List ByteArray) (Ls:List (List Sp)) (u:ByteArray) (w:List Sp) (hw:w.length <= 100000000) (hb:bT w + u.size <= 1000000000) (hT:Ts.length = Ls.length + 1) (hL:Ls.length <= 1000000) (hu:∀ h:Ls.length < Ts.length,Ts[Ls.length] = u) :
    dn env 65536 51 [.ptr 7100 vb 0 0,.lst 3 (aT w)] (jg 7100 7101 7102 vb vt ft vl fl Ts Ls)
      (fun r h=>r = .v (.int .i64 (gq w (cO u))) /\ ∃ vT iW:Nat,subs h (jg 7100 7101 7102 vb vT ft iW fl (Ts ++ if gq w (cO u) = 0 then [oL w u] else []) (Ls ++ if gq w (cO u) = 0 then [norm w] else []))):=by
  have hsm:=dD (l:=w) (by omega)
  have hM:=fV w (by omega) hsm
  have hO:=qJ w (by omega) hsm
  have hI:=iO w (by omega)
  have hF:=iP w hw (by omega)
  have hC:=gU u (by omega)
  have hTo:=TD w u hw hb
  unfold toA at hTo
  have hrl:=bW Ls
  have htl:=nJ Ts
  have hwr:IntKind.i64.wrap ((Ts.length:Int) - 1) = (Ls.length:Int):=by rw [bg (by omega)];omega
  have hix:∀ h:(IntKind.i64.wrap ((Ts.length:Int) - 1)).toNat < Ts.length,Ts[(IntKind.i64.wrap ((Ts.length:Int) - 1)).toNat]'h = u:=fun h=>by
    have e:(IntKind.i64.wrap ((Ts.length:Int) - 1)).toNat = Ls.length:=by rw [hwr];omega
    have:=hu (by omega)
    rw [<- this];congr 1
  have hsd:(IntKind.i64.wrap ((Ts.length:Int) - 1)).toNat < Ts.length:=by rw [hwr];omega
  have hC':∀ h:(IntKind.i64.wrap ((Ts.length:Int) - 1)).toNat < Ts.length,aO env 70 [.v (.string (Ts[(IntKind.i64.wrap ((Ts.length:Int) - 1)).toNat]'h))] (fun r hs=>r = .v (.int .i64 (bG u.data.toList)) /\ hs = []):=fun h=>by rw [hix h];exact hC
  have agB:∀ h:(IntKind.i64.wrap ((Ts.length:Int) - 1)).toNat < Ts.length,aO env 103 [.lst 3 (aT w),.v (.string (Ts[(IntKind.i64.wrap ((Ts.length:Int) - 1)).toNat]'h))] (fun r hs=>r = .dM [.v (.string (oL w u)),.v (.int .i64 (lV w u))] /\ hs = []):=fun h=>by rw [hix h];exact hTo
  by_cases m0:aC w = 0
  · rw [m0] at hM
    by_cases m1:iT w = cO u
    · have xU:sumW (fun s=>kN s.k s.n) w = bG u.data.toList:=m1
      by_cases m2:1048576 < outW w
      · have he:gq w (cO u) = 4:=by unfold gq;rw [if_neg (by simpa using m0),if_neg (by simpa using m1),if_pos m2]
        rw [he,if_neg (by decide),if_neg (by decide),List.append_nil,List.append_nil]
        have m2:1048576 < sumW (fun s=>kQ s.k s.n s.t) w:=m2
        refine Ev.Cj [0,1,4,5,6,7,12,30,33] 65536 [.tmp 4] Tryd.func51 (FM _ rfl) (fun ct=>?_)
        repeat' (first | (with_reducible refine Ev.aJ m2 ?_) | (with_reducible refine Ev.aF m2 ?_) | (with_reducible refine Ev.aJ xU ?_) | (with_reducible refine Ev.aF xU ?_) | refine' Ev.zP | refine' Ev.zS | refine' Ev.zK | ((with_reducible refine Ev.ca0 ?_);(first | refine Ev.aU (hC' _) rfl rfl ?_ | refine Ev.ca (hM) ?_ | refine Ev.ca (hO) ?_ | refine Ev.ca (hI) ?_ | refine Ev.ca (hC' _) ?_);conv=>whnf) | ((with_reducible refine Ev.dG ?_);(first | refine Ev.dr 4 [] [0,1,2,3,4,5,6,7,8,9,10,11,12] ?_ | refine Ev.dr 11 [] [0,1,2,3,4,5,6,7,8,9,10,11] ?_);intro Q hQ;(simp only [Ev.aj,Ev.ak]);conv=>whnf) | refine' Ev.zT | fail)
        all_goals first
          | exact Ev.Side.of hsd
          | exact ⟨rfl,vt,vl,Ev.ah rfl rfl,Ev.ah rfl rfl,Ev.ah rfl rfl,trivial⟩
      · have he:gq w (cO u) = 0:=by unfold gq;rw [if_neg (by simpa using m0),if_neg (by simpa using m1),if_neg m2]
        rw [he,if_pos rfl,if_pos rfl]
        have m2:¬ 1048576 < sumW (fun s=>kQ s.k s.n s.t) w:=m2
        refine Ev.Cj [0,1,4,5,6,7,12,30,33] 65536 [.tmp 4] Tryd.func51 (FM _ rfl) (fun ct=>?_)
        repeat' (first | (with_reducible refine Ev.aP m2 ?_) | (with_reducible refine Ev.aK m2 ?_) | (with_reducible refine Ev.aJ xU ?_) | (with_reducible refine Ev.aF xU ?_) | refine' Ev.zP | refine' Ev.zS | refine' Ev.zK | ((with_reducible refine Ev.ca0 ?_);(first | refine Ev.aU (hC' _) rfl rfl ?_ | refine Ev.aU (agB _) rfl rfl ?_ | refine Ev.ca (hM) ?_ | refine Ev.ca (hO) ?_ | refine Ev.ca (hI) ?_ | refine Ev.ca (hF) ?_ | refine Ev.ca (hC' _) ?_ | refine Ev.ca (agB _) ?_);conv=>whnf) | ((with_reducible refine Ev.dG ?_);(first | refine Ev.dr 4 [] [0,1,2,3,4,5,6,7,8,9,10,11,12] ?_ | refine Ev.dr 11 [] [0,1,2,3,4,5,6,7,8,9,10,11] ?_);intro Q hQ;(simp only [Ev.aj,Ev.ak]);conv=>whnf) | refine' Ev.zT | fail)
        all_goals first
          | exact Ev.Side.of hsd
          | (refine ⟨rfl,?_⟩
             apply Exists.intro
             apply Exists.intro
             refine ⟨Ev.ah rfl ?_,Ev.ah rfl ?_,Ev.ah rfl ?_,trivial⟩
             · rw [List.length_append,List.length_append];rfl
             · rw [Um]
             · rw [um])
    · have he:gq w (cO u) = 5:=by unfold gq;rw [if_neg (by simpa using m0),if_pos m1]
      rw [he,if_neg (by decide),if_neg (by decide),List.append_nil,List.append_nil]
      have xU:¬ sumW (fun s=>kN s.k s.n) w = bG u.data.toList:=m1
      refine Ev.Cj [0,1,4,5,6,7,12,30,33] 65536 [.tmp 4] Tryd.func51 (FM _ rfl) (fun ct=>?_)
      repeat' (first | (with_reducible refine Ev.aP xU ?_) | (with_reducible refine Ev.aK xU ?_) | refine' Ev.zP | refine' Ev.zS | refine' Ev.zK | ((with_reducible refine Ev.ca0 ?_);(first | refine Ev.aU (hC' _) rfl rfl ?_ | refine Ev.ca (hM) ?_ | refine Ev.ca (hO) ?_ | refine Ev.ca (hI) ?_ | refine Ev.ca (hC' _) ?_);conv=>whnf) | ((with_reducible refine Ev.dG ?_);(first | refine Ev.dr 4 [] [0,1,2,3,4,5,6,7,8,9,10,11,12] ?_ | refine Ev.dr 11 [] [0,1,2,3,4,5,6,7,8,9,10,11] ?_);intro Q hQ;(simp only [Ev.aj,Ev.ak]);conv=>whnf) | refine' Ev.zT | fail)
      all_goals first
        | exact Ev.Side.of hsd
        | exact ⟨rfl,vt,vl,Ev.ah rfl rfl,Ev.ah rfl rfl,Ev.ah rfl rfl,trivial⟩
  · have he:gq w (cO u) = aC w:=by unfold gq;rw [if_pos m0]
    rw [he,if_neg m0,if_neg m0,List.append_nil,List.append_nil]
    refine Ev.Cj [0,1,4,5,6,7,12,30,33] 65536 [.tmp 4] Tryd.func51 (FM _ rfl) (fun ct=>?_)
    repeat' (first | (with_reducible refine Ev.aP m0 ?_) | (with_reducible refine Ev.aK m0 ?_) | refine' Ev.zP | refine' Ev.zS | refine' Ev.zK | ((with_reducible refine Ev.ca0 ?_);(first | refine Ev.ca (hM) ?_);conv=>whnf) | ((with_reducible refine Ev.dG ?_);(first | refine Ev.dr 4 [] [0,1,2,3,4,5,6,7,8,9,10,11,12] ?_ | refine Ev.dr 11 [] [0,1,2,3,4,5,6,7,8,9,10,11] ?_);intro Q hQ;(simp only [Ev.aj,Ev.ak]);conv=>whnf) | refine' Ev.zT | fail)
    all_goals exact ⟨rfl,vt,vl,Ev.ah rfl rfl,Ev.ah rfl rfl,Ev.ah rfl rfl,trivial⟩
def XP:Ev.Tr:=(.one 0 false (.one 1 false (.one 2 false (.one 3 false (.one 4 false (.one 5 false (.one 6 false (.one 8 false (.one 9 false (.one 10 false (.one 11 false (.one 12 false (.one 13 false (.one 14 false (.one 7 false (.one 15 false (.one 16 false (.one 17 false (.one 18 false (.one 19 false .fin))))))))))))))))))))
theorem Uo:∀ c,Tryd.f52.body = some c -> comp c = (.seq (.reg 0 [I.n 0 6 I.sn,I.n 1 7 (I.si 0)]) (.seq (.reg 1 [I.n 0 12 (I.mv 0),I.n 1 13 (I.mv 2),I.n 2 14 (I.c2 53 12 13 75 3),I.n 3 11 (I.mv 14),I.n 4 15 (I.ex 11 0),I.n 5 16 (I.ex 11 1),I.n 6 8 (I.sa 15),I.n 7 9 (I.sa 16)]) (.seq (.seq (.reg 2 [I.n 0 17 (I.mv 9),I.n 1 18 (I.bc .neq 30 17 0 30)]) (.cond (.tmp 18) (.seq (.reg 3 [I.n 0 19 (I.mv 9),I.n 1 6 I.sn,I.n 2 7 (I.sa 19)]) .ret) .skip)) (.seq (.reg 4 [I.n 0 20 (I.mv 1),I.n 1 21 (I.c1 100 20 23),I.n 2 10 (I.sa 21)]) (.seq (.seq (.reg 5 [I.n 0 22 (I.mv 10),I.n 1 23 (I.bc .neq 30 22 0 30)]) (.cond (.tmp 23) (.seq (.reg 6 [I.n 0 24 (I.mv 10),I.n 1 6 I.sn,I.n 2 7 (I.sa 24)]) .ret) .skip)) (.seq (.seq (.reg 7 [I.n 0 25 (I.mv 1),I.n 1 26 (I.c1 101 25 23),I.n 2 27 (I.mv 8),I.n 3 28 (I.c1 70 27 9),I.n 4 29 (I.bo .neq 3 26 28 3)]) (.cond (.tmp 29) (.seq (.reg 8 [I.n 0 6 I.sn,I.n 1 7 (I.si 5)]) .ret) .skip)) (.seq (.reg 9 [I.n 0 30 (I.mv 1),I.n 1 31 (I.mv 0),I.n 2 32 (I.nc 31),I.n 3 33 (I.fa 80 32 1),I.n 4 34 (I.ld 22 33),I.n 5 35 (I.mv 2),I.n 6 36 (.slice 22 (.tmp 34) (some (.tmp 35)) none none),I.n 7 37 (I.c2 104 30 36 23 22),I.n 8 38 (I.ex 37 0),I.n 9 39 (I.ex 37 1),I.n 10 6 (I.sa 38),I.n 11 7 (I.sa 39)]) .ret))))))):=by
 intro c h
 have:c = Tryd.f52.body.get rfl:=by rw [<- Option.some_inj,<- h];rfl
 rw [this];rfl
theorem Ur:∀ c,Tryd.f54.body = some c -> comp c = (.seq (.reg 0 [I.n 0 6 I.sn,I.n 1 7 (I.si 0)]) (.seq (.seq (.reg 1 [I.n 0 8 (I.mv 1),I.n 1 9 (I.bc .lss 3 8 0 3),I.n 2 10 (I.mv 9),I.w 3 11 (I.mv 2) 10 false,I.w 4 12 (I.mv 1) 10 false,I.w 5 13 (I.bo .lss 3 11 12 3) 10 false,I.n 6 14 (I.pb 10 true 13),I.n 7 15 (I.mv 14),I.w 8 16 (I.mv 2) 15 false,I.w 9 17 (I.mv 0) 15 false,I.w 10 18 (I.nc 17) 15 false,I.w 11 19 (I.fa 80 18 1) 15 false,I.w 12 20 (I.ld 22 19) 15 false,I.w 13 21 (I.ln 20 22) 15 false,I.w 14 22 (I.bo .gtr 3 16 21 3) 15 false,I.n 15 23 (I.pb 15 true 22)]) (.cond (.tmp 23) (.seq (.reg 2 [I.n 0 6 I.sn,I.n 1 7 (I.si 6)]) .ret) .skip)) (.seq (.draw 3 [I.n 0 24 (I.mv 0),I.n 1 25 (I.nc 24),I.n 2 26 (I.fa 80 25 0),I.n 3 27 (I.ld 78 26),I.n 4 28 (I.mv 1),I.n 5 29 (I.ia 78 27 28),I.n 6 30 (I.ld 9 29),I.n 7 31 (I.c1 70 30 9),I.n 8 32 (I.mv 0),I.n 9 33 (I.nc 32),I.n 10 34 (I.fa 80 33 1),I.n 11 35 (I.ld 22 34),I.n 12 36 (I.mv 1),I.n 13 37 (I.mv 2),I.n 14 38 (.slice 22 (.tmp 35) (some (.tmp 36)) (some (.tmp 37)) none),I.n 15 39 (I.c2 105 31 38 3 22),I.n 16 40 (I.ex 39 0),I.n 17 41 (I.ex 39 1),I.n 18 6 (I.sa 40),I.n 19 7 (I.sa 41)] [[],[0],[1],[2],[],[3,4],[5],[6],[],[8],[9],[10],[],[],[11,12,13],[7,14,7],[15],[15],[16,15,0,1,2,3,4,5,6,7,8,9,10,11,12,13,14,15,16,17],[17,18,0,1,2,3,4,5,6,7,8,9,10,11,12,13,14,15,16,17,18]]) .ret))):=by
 intro c h
 have:c = Tryd.f54.body.get rfl:=by rw [<- Option.some_inj,<- h];rfl
 rw [this];rfl
def Ii (Ts:List ByteArray) (Ls:List (List Sp)) (r:Int):AV:=if 0 <= r /\ r <= Ls.length then .dM [.v (.string (Ts.getD r.toNat ⟨#[]⟩)),.v (.int .i64 0)] else .dM [.v (.string ⟨#[]⟩),.v (.int .i64 6)]
theorem getD_at {α:Type} {l:List α} {n:Nat} {d:α} (h:n < l.length):l.getD n d = l[n]:=by rw [List.getD_eq_getElem?_getD,List.getElem?_eq_getElem h];rfl
theorem aff{G:Prop}(h:G:=by (refine Ev.Cj [0,1,4,5,16] 65536 [.tmp 4,.tmp 5] Tryd.func53 (yU _ rfl) (fun ct=>?_));all_goals(rcases(⟨_⟩:PLift _)with⟨h⟩;exact h)):G:=h
theorem PO (vb vt ft vl fl:Nat) (Ts:List ByteArray) (Ls:List (List Sp)) (r:Int) (hT:Ts.length = Ls.length + 1) :
   dn env 65536 53 [.ptr 7100 vb 0 0,.v (.int .i64 r)] (jg 7100 7101 7102 vb vt ft vl fl Ts Ls) (fun x h=>x = Ii Ts Ls r /\ subs h (jg 7100 7101 7102 vb vt ft vl fl Ts Ls)):=by
 have hrl:=bW Ls
 have htl:=nJ Ts
 unfold Ii
 by_cases h0:r < 0
 · rw [if_neg (by omega)]
   refine' aff
   repeat' (first | (with_reducible refine Ev.aJ h0 ?_) | (with_reducible refine Ev.aF h0 ?_) | refine' Ev.zP | refine' Ev.zS | refine' Ev.zK | refine' Ev.zT | fail)
   all_goals exact ⟨rfl,Ev.ah rfl rfl,Ev.ah rfl rfl,Ev.ah rfl rfl,trivial⟩
 · by_cases h1:(Ls.length:Int) < r
   · rw [if_neg (by omega)]
     refine' aff
     repeat' (first | (with_reducible refine Ev.aP h0 ?_) | (with_reducible refine Ev.aK h0 ?_) | (with_reducible refine Ev.aJ h1 ?_) | (with_reducible refine Ev.aF h1 ?_) | refine' Ev.zP | refine' Ev.zS | refine' Ev.zK | refine' Ev.zT | fail)
     all_goals exact ⟨rfl,Ev.ah rfl rfl,Ev.ah rfl rfl,Ev.ah rfl rfl,trivial⟩
   · obtain ⟨n,rfl⟩:=Int.eq_ofNat_of_zero_le (show 0 <= r by omega)
     have hn:n < Ts.length:=by omega
     rw [if_pos ⟨by omega,by omega⟩,Int.toNat_natCast,getD_at hn]
     refine' aff
     repeat' (first | (with_reducible refine Ev.aP h0 ?_) | (with_reducible refine Ev.aK h0 ?_) | (with_reducible refine Ev.aP h1 ?_) | (with_reducible refine Ev.aK h1 ?_) | refine' Ev.zP | refine' Ev.zS | refine' Ev.zK | refine' Ev.zT | fail)
     all_goals exact ⟨rfl,Ev.ah rfl rfl,Ev.ah rfl rfl,Ev.ah rfl rfl,trivial⟩
theorem aan{G:Prop}(h:G:=by
 refine Ev.Cj [0,1,2,6,7,8,9,10,18,23,29] 65536 [.tmp 6,.tmp 7] Tryd.func52 (Uo _ rfl) (fun ct=>?_)
 repeat' (first | (with_reducible refine Ev.aP h0 ?_) | (with_reducible refine Ev.aK h0 ?_) | (with_reducible refine Ev.aP h1 ?_) | (with_reducible refine Ev.aK h1 ?_) | (with_reducible refine Ev.aJ m1 ?_) | (with_reducible refine Ev.aF m1 ?_) | refine' Ev.zP | refine' Ev.zS | ((with_reducible refine Ev.kr (hs:=[53]) (fun Q hQ=>?_));refine' Ev.zR) | ((with_reducible refine Ev.kZ 53 ?_);refine Ev.il 53 [0,1,4,5,16] [.tmp 4,.tmp 5] Tryd.func53 (yU _ rfl) (fun aW=>?_)) | ((with_reducible refine Ev.ca0 ?_);(first | refine Ev.ca (hM) ?_ | refine Ev.ca (hI) ?_ | refine Ev.ca (hC) ?_ | refine Ev.ca (hTh) ?_);conv=>whnf) | refine' Ev.zT | fail)
 all_goals(rcases(⟨_⟩:PLift _)with⟨h⟩;exact h)):G:=h
theorem acg{G:Prop}(h:G:=by (refine Ev.Cj [0,1,2,6,7,8,9,10,18,23,29] 65536 [.tmp 6,.tmp 7] Tryd.func52 (Uo _ rfl) (fun ct=>?_));all_goals(rcases(⟨_⟩:PLift _)with⟨h⟩;exact h)):G:=h
theorem ada{G:Prop}(h:G:=by
 obtain ⟨n,rfl⟩:=Int.eq_ofNat_of_zero_le (show 0 <= r by omega)
 have hn:n < Ts.length:=by omega
 have hd:(Ts.map cO).getD (n:Int).toNat 0 = cO Ts[n]:=by rw [Int.toNat_natCast,getD_at (by simpa using hn)];simp
 all_goals(rcases(⟨_⟩:PLift _)with⟨h⟩;exact h)):G:=h
theorem PS (vb vt ft vl fl:Nat) (Ts:List ByteArray) (Ls:List (List Sp)) (a:List Sp) (r:Int) (hT:Ts.length = Ls.length + 1) (hts:∀ t ∈ Ts,t.size <= 1000000000) (hl:a.length + jf Ls <= 9999999) (ha:bT a <= 100000000) (hb:∀ x ∈ Ls,bT x <= 100000000) (hL:Ls.length <= 1000000) (ho:∀ s ∈ Ls,aC s = 0 -> aY dO s <= 1048576) :
   dn env 65536 52 [.ptr 7100 vb 0 0,.lst 3 (aT a),.v (.int .i64 r)] (jg 7100 7101 7102 vb vt ft vl fl Ts Ls) (fun x h=>x = BZ Ls (Ts.map cO) a r /\ ∃ iq:Nat,subs h (jg 7100 7101 7102 vb vt ft vl iq Ts Ls)):=by
 have hrl:=bW Ls
 have htl:=nJ Ts
 have hsm:Small a:=dD (by omega)
 have hM:=fV a (by omega) hsm
 have hI:=iO a (by omega)
 have hTh:=Pz a (Ls.drop r.toNat) (by have:=jU Ls r.toNat;omega) ha (fun x h=>hb x (List.mem_of_mem_drop h)) (by rw [List.length_drop];omega) (fun s h=>ho s (List.mem_of_mem_drop h))
 refine' aen
 rw [<- hcut] at hTh
 unfold BZ
 by_cases h0:r < 0
 · have e:nI Ls (Ts.map cO) a r = 6:=by unfold nI;rw [if_neg (by omega)]
   rw [if_neg (by rw [e];decide),e]
   refine' acg
   repeat' (first | (with_reducible refine Ev.aJ h0 ?_) | (with_reducible refine Ev.aF h0 ?_) | refine' Ev.zP | refine' Ev.zS | ((with_reducible refine Ev.kr (hs:=[53]) (fun Q hQ=>?_));refine' Ev.zR) | ((with_reducible refine Ev.kZ 53 ?_);refine Ev.il 53 [0,1,4,5,16] [.tmp 4,.tmp 5] Tryd.func53 (yU _ rfl) (fun aW=>?_)) | refine' Ev.zT | fail)
   all_goals exact ⟨rfl,fl,Ev.ah rfl rfl,Ev.ah rfl rfl,Ev.ah rfl rfl,trivial⟩
 · by_cases h1:(Ls.length:Int) < r
   · have e:nI Ls (Ts.map cO) a r = 6:=by unfold nI;rw [if_neg (by omega)]
     rw [if_neg (by rw [e];decide),e]
     refine' acg
     repeat' (first | (with_reducible refine Ev.aP h0 ?_) | (with_reducible refine Ev.aK h0 ?_) | (with_reducible refine Ev.aJ h1 ?_) | (with_reducible refine Ev.aF h1 ?_) | refine' Ev.zP | refine' Ev.zS | ((with_reducible refine Ev.kr (hs:=[53]) (fun Q hQ=>?_));refine' Ev.zR) | ((with_reducible refine Ev.kZ 53 ?_);refine Ev.il 53 [0,1,4,5,16] [.tmp 4,.tmp 5] Tryd.func53 (yU _ rfl) (fun aW=>?_)) | refine' Ev.zT | fail)
     all_goals exact ⟨rfl,fl,Ev.ah rfl rfl,Ev.ah rfl rfl,Ev.ah rfl rfl,trivial⟩
   · refine' ada
     have hC:=gU Ts[n] (hts _ (List.getElem_mem hn))
     by_cases m0:aC a = 0
     · rw [m0] at hM
       by_cases m1:sumW (fun s=>kN s.k s.n) a = bG Ts[n].data.toList
       · have xU:iT a = cO Ts[n]:=m1
         have e:nI Ls (Ts.map cO) a n = 0:=by unfold nI;rw [if_pos ⟨by omega,by omega⟩,hd,if_neg (by simpa using m0),if_neg (by simpa using xU)]
         rw [if_pos e]
         unfold FD at hTh ⊢
         by_cases ht:Iw a (Ls.drop (n:Int).toNat) = 0
         · rw [ht,if_pos rfl] at hTh ⊢
           refine' aan
           all_goals exact ⟨rfl,_,Ev.ah rfl rfl,Ev.ah rfl rfl,Ev.ah rfl rfl,trivial⟩
         · rw [if_neg ht] at hTh ⊢
           refine' aan
           all_goals exact ⟨rfl,_,Ev.ah rfl rfl,Ev.ah rfl rfl,Ev.ah rfl rfl,trivial⟩
       · have xU:¬ iT a = cO Ts[n]:=m1
         have e:nI Ls (Ts.map cO) a n = 5:=by unfold nI;rw [if_pos ⟨by omega,by omega⟩,hd,if_neg (by simpa using m0),if_pos xU]
         rw [if_neg (by rw [e];decide),e]
         refine' acg
         repeat' (first | (with_reducible refine Ev.aP h0 ?_) | (with_reducible refine Ev.aK h0 ?_) | (with_reducible refine Ev.aP h1 ?_) | (with_reducible refine Ev.aK h1 ?_) | (with_reducible refine Ev.aP m1 ?_) | (with_reducible refine Ev.aK m1 ?_) | refine' Ev.zP | refine' Ev.zS | ((with_reducible refine Ev.kr (hs:=[53]) (fun Q hQ=>?_));refine' Ev.zR) | ((with_reducible refine Ev.kZ 53 ?_);refine Ev.il 53 [0,1,4,5,16] [.tmp 4,.tmp 5] Tryd.func53 (yU _ rfl) (fun aW=>?_)) | ((with_reducible refine Ev.ca0 ?_);(first | refine Ev.ca (hM) ?_ | refine Ev.ca (hI) ?_ | refine Ev.ca (hC) ?_);conv=>whnf) | refine' Ev.zT | fail)
         all_goals exact ⟨rfl,fl,Ev.ah rfl rfl,Ev.ah rfl rfl,Ev.ah rfl rfl,trivial⟩
     · have e:nI Ls (Ts.map cO) a n = aC a:=by unfold nI;rw [if_pos ⟨by omega,by omega⟩,if_pos m0]
       rw [if_neg (by rw [e];exact m0),e]
       refine' acg
       repeat' (first | (with_reducible refine Ev.aP h0 ?_) | (with_reducible refine Ev.aK h0 ?_) | (with_reducible refine Ev.aP h1 ?_) | (with_reducible refine Ev.aK h1 ?_) | (with_reducible refine Ev.aP m0 ?_) | (with_reducible refine Ev.aK m0 ?_) | refine' Ev.zP | refine' Ev.zS | ((with_reducible refine Ev.kr (hs:=[53]) (fun Q hQ=>?_));refine' Ev.zR) | ((with_reducible refine Ev.kZ 53 ?_);refine Ev.il 53 [0,1,4,5,16] [.tmp 4,.tmp 5] Tryd.func53 (yU _ rfl) (fun aW=>?_)) | ((with_reducible refine Ev.ca0 ?_);(first | refine Ev.ca (hM) ?_);conv=>whnf) | refine' Ev.zT | fail)
       all_goals exact ⟨rfl,fl,Ev.ah rfl rfl,Ev.ah rfl rfl,Ev.ah rfl rfl,trivial⟩
theorem aag{G:Prop}(h:G:=by
 rw [hR] at hF ⊢
 refine Ev.Cj [0,1,2,6,7,23] 65536 [.tmp 6,.tmp 7] Tryd.func54 (Ur _ rfl) (fun ct=>?_)
 repeat' (first | (with_reducible refine Ev.aP h0 ?_) | (with_reducible refine Ev.aK h0 ?_) | (with_reducible refine Ev.aP h1 ?_) | (with_reducible refine Ev.aK h1 ?_) | (with_reducible refine Ev.aP h2 ?_) | (with_reducible refine Ev.aK h2 ?_) | refine' Ev.zP | refine' Ev.zS | refine' Ev.zK | ((with_reducible refine Ev.ca0 ?_);(first | refine Ev.ca (hC) ?_ | refine Ev.ca (hF) ?_);conv=>whnf) | ((with_reducible refine Ev.dG ?_);(first | refine Ev.WE 3 [] [[],[0],[0,1],[0,1,2],[],[0,1,2,3,4],[0,1,2,3,4,5],[0,1,2,3,4,5,6],[],[8],[8,9],[8,9,10],[],[],[8,9,10,11,12,13],[0,1,2,3,4,5,6,7,8,9,10,11,12,13,14],[0,1,2,3,4,5,6,7,8,9,10,11,12,13,14,15],[0,1,2,3,4,5,6,7,8,9,10,11,12,13,14,15],[0,1,2,3,4,5,6,7,8,9,10,11,12,13,14,15,16,17],[0,1,2,3,4,5,6,7,8,9,10,11,12,13,14,15,16,17,18]] XP ?_);intro Q hQ;(simp only [Ev.jX,Ev.jl,Ev.jm,Ev.jo,Ev.jY,Ev.jZ]);conv=>whnf) | ((with_reducible refine Ev.both ?_ ?_) <;> (conv=>whnf)) | exact True.intro | refine' Ev.zT | fail)
 all_goals(rcases(⟨_⟩:PLift _)with⟨h⟩;exact h)):G:=h
theorem adk{G:Prop}(h:G:=by
 rw [if_neg (by omega)]
 refine Ev.Cj [0,1,2,6,7,23] 65536 [.tmp 6,.tmp 7] Tryd.func54 (Ur _ rfl) (fun ct=>?_)
 all_goals(rcases(⟨_⟩:PLift _)with⟨h⟩;exact h)):G:=h
theorem PU (vb vt ft vl fl:Nat) (Ts:List ByteArray) (Ls:List (List Sp)) (r s:Int) (hT:Ts.length = Ls.length + 1) (hts:∀ t ∈ Ts,t.size <= 1000000000 /\ 0 <= cO t /\ cO t <= 1048576) (hl:jf Ls <= 9999999) (hb:lK Ls <= 100000000) (hL:Ls.length <= 1000000) (hx:∀ x ∈ Ls,x.length <= 1000000000 /\ Small x) :
   dn env 65536 54 [.ptr 7100 vb 0 0,.v (.int .i64 r),.v (.int .i64 s)] (jg 7100 7101 7102 vb vt ft vl fl Ts Ls) (fun x h=>x = Cb Ls (Ts.map cO) r s /\ ∃ iq:Nat,subs h (jg 7100 7101 7102 vb vt ft vl iq Ts Ls)):=by
 have hrl:=bW Ls
 have htl:=nJ Ts
 unfold Cb
 by_cases h0:r < 0
 · refine' adk
   repeat' (first | (with_reducible refine Ev.aJ h0 ?_) | (with_reducible refine Ev.aF h0 ?_) | refine' Ev.zP | refine' Ev.zS | refine' Ev.zK | ((with_reducible refine Ev.dG ?_);(first | refine Ev.drv 3 [] [(0,false),(1,false),(2,false),(3,false),(4,false),(5,false),(6,false),(8,false),(9,false),(10,false),(11,false),(12,false),(13,false),(14,true),(7,false),(15,false),(16,false),(17,false),(18,false),(19,false)] ?_);intro Q hQ;(simp only [Ev.bn,Ev.bC,Ev.dw]);conv=>whnf) | refine' Ev.zT | fail)
   all_goals exact ⟨rfl,fl,Ev.ah rfl rfl,Ev.ah rfl rfl,Ev.ah rfl rfl,trivial⟩
 · by_cases h1:s < r
   · refine' adk
     repeat' (first | (with_reducible refine Ev.aP h0 ?_) | (with_reducible refine Ev.aK h0 ?_) | (with_reducible refine Ev.aJ h1 ?_) | (with_reducible refine Ev.aF h1 ?_) | refine' Ev.zP | refine' Ev.zS | refine' Ev.zK | ((with_reducible refine Ev.dG ?_);(first | refine Ev.drv 3 [] [(0,false),(1,false),(2,false),(3,false),(4,false),(5,false),(6,false),(8,false),(9,false),(10,false),(11,false),(12,false),(13,false),(14,true),(7,false),(15,false),(16,false),(17,false),(18,false),(19,false)] ?_);intro Q hQ;(simp only [Ev.bn,Ev.bC,Ev.dw]);conv=>whnf) | refine' Ev.zT | fail)
     all_goals exact ⟨rfl,fl,Ev.ah rfl rfl,Ev.ah rfl rfl,Ev.ah rfl rfl,trivial⟩
   · by_cases h2:(Ls.length:Int) < s
     · refine' adk
       repeat' (first | (with_reducible refine Ev.aP h0 ?_) | (with_reducible refine Ev.aK h0 ?_) | (with_reducible refine Ev.aP h1 ?_) | (with_reducible refine Ev.aK h1 ?_) | (with_reducible refine Ev.aJ h2 ?_) | (with_reducible refine Ev.aF h2 ?_) | refine' Ev.zP | refine' Ev.zS | refine' Ev.zK | ((with_reducible refine Ev.dG ?_);(first | refine Ev.drv 3 [] [(0,false),(1,false),(2,false),(3,false),(4,false),(5,false),(6,false),(8,false),(9,false),(10,false),(11,false),(12,false),(13,false),(14,true),(7,false),(15,false),(16,false),(17,false),(18,false),(19,false)] ?_);intro Q hQ;(simp only [Ev.bn,Ev.bC,Ev.dw]);conv=>whnf) | refine' Ev.zT | fail)
       all_goals exact ⟨rfl,fl,Ev.ah rfl rfl,Ev.ah rfl rfl,Ev.ah rfl rfl,trivial⟩
     · refine' ada
       obtain ⟨t1,t2,t3⟩:=hts _ (List.getElem_mem hn)
       have hC:=gU Ts[n] t1
       rw [if_pos ⟨by omega,by omega,by omega⟩,hd]
       have hF:=J7 (cO Ts[n]) ⟨t2,t3⟩ ((Ls.drop (n:Int).toNat).take (s.toNat - (n:Int).toNat)) (by have:=(lZ (Ls.drop (n:Int).toNat) (s.toNat - (n:Int).toNat)).1;have:=jU Ls (n:Int).toNat;omega) (by have:=(lZ (Ls.drop (n:Int).toNat) (s.toNat - (n:Int).toNat)).2;have:=uo Ls (n:Int).toNat;omega) (by simp;omega) (fun x h=>hx x (List.mem_of_mem_drop (List.mem_of_mem_take h)))
       refine' ad4
       have hR:pW (dH (cO Ts[n])) ((Ls.drop (n:Int).toNat).take (s.toNat - (n:Int).toNat)) = .dM [if (dR (dH (cO Ts[n])) ((Ls.drop (n:Int).toNat).take (s.toNat - (n:Int).toNat))).2 = 0 then .lst 3 (aT (dR (dH (cO Ts[n])) ((Ls.drop (n:Int).toNat).take (s.toNat - (n:Int).toNat))).1) else nilA,.v (.int .i64 (dR (dH (cO Ts[n])) ((Ls.drop (n:Int).toNat).take (s.toNat - (n:Int).toNat))).2)]:=rfl
       generalize dR (dH (cO Ts[n])) ((Ls.drop (n:Int).toNat).take (s.toNat - (n:Int).toNat)) = G at *
       by_cases hG:G.2 = 0
       · rw [if_pos hG] at hR
         refine' aag
         all_goals exact ⟨rfl,_,Ev.ah rfl rfl,Ev.ah rfl rfl,Ev.ah rfl rfl,trivial⟩
       · rw [if_neg hG] at hR
         refine' aag
         all_goals exact ⟨rfl,_,Ev.ah rfl rfl,Ev.ah rfl rfl,Ev.ah rfl rfl,trivial⟩
def FN:Ev.Tr:=(.one 0 false (.one 3 false (.one 4 false (.one 5 false (.one 6 false (.one 7 false (.one 8 false (.one 9 false (.any (.alt 1 (.one 2 false (.one 10 false (.one 11 false (.one 12 false (.one 13 false (.one 14 false .fin)))))) (.alt 2 (.any (.alt 1 (.one 10 false (.one 11 false (.one 12 false (.one 13 false (.one 14 false .fin))))) (.alt 10 (.one 1 false (.one 11 false (.one 12 false (.one 13 false (.one 14 false .fin))))) .stop))) .stop)))))))))))
theorem acA:∀ c,Tryd.f55.body = some c -> comp c = (.seq (.reg 0 [I.n 0 2 (.alloc 27)]) (.seq (.reg 1 [I.n 0 5 (I.mv 0),I.n 1 6 (I.nc 5),I.n 2 7 (I.fa 80 6 0),I.n 3 8 (I.ld 78 7),I.n 4 9 (I.ic 78 8 0),I.n 5 10 (I.ld 9 9),I.n 6 11 (.buildSlice 25 1 #[(0,.const (Value.int .i64 0))]),I.n 7 12 (.build 27 #[(0,.tmp 10),(1,.tmp 11)]),I.n 8 3 (.alloc 27),I.u 9 (I.st 27 3 12)]) (.seq (.seq (.reg 2 [I.n 0 4 (I.si 0)]) (.block 0 (.loop (.seq (.seq (.reg 3 [I.n 0 13 (I.mv 4),I.n 1 14 (I.mv 0),I.n 2 15 (I.nc 14),I.n 3 16 (I.fa 80 15 1),I.n 4 17 (I.ld 22 16),I.n 5 18 (I.ln 17 22),I.n 6 19 (I.bo .lss 3 13 18 3)]) (.cond (.tmp 19) .skip (.exit 0))) (.seq (.block 1 (.seq (.reg 5 [I.n 0 22 (I.fa 27 3 1),I.n 1 23 (I.ld 25 22),I.n 2 24 (I.mv 4),I.n 3 25 (I.bc .add 3 24 1 3),I.n 4 26 (I.b1 25 25),I.n 5 27 (I.ap 23 26 25 25),I.n 6 28 (I.fa 27 3 1),I.u 7 (I.st 25 28 27)]) (.draw 6 [I.n 0 29 (I.fa 27 3 2),I.n 1 30 (I.ld 22 29),I.n 2 31 (.buildSlice 23 0 #[]),I.n 3 32 (I.mv 0),I.n 4 33 (I.nc 32),I.n 5 34 (I.fa 80 33 1),I.n 6 35 (I.ld 22 34),I.n 7 36 (I.mv 4),I.n 8 37 (I.ia 22 35 36),I.n 9 38 (I.ld 23 37),I.n 10 39 (I.ap 31 38 23 23),I.n 11 40 (I.b1 22 39),I.n 12 41 (I.ap 30 40 22 22),I.n 13 42 (I.fa 27 3 2),I.u 14 (I.st 22 42 41)] [[],[0],[],[],[3],[4],[5],[],[6,7],[8],[2,9],[10],[1,11,10],[0,1,2,3,4,5,6,7,8,9,10,11,12],[13,12,12,0,1,2,3,4,5,6,7,8,9,10,11,12]]))) (.reg 4 [I.n 0 20 (I.mv 4),I.n 1 21 (I.bc .add 3 20 1 3),I.n 2 4 (I.sa 21)])))))) (.seq (.reg 7 [I.n 0 43 (I.ld 27 3),I.u 1 (I.st 27 2 43)]) .ret)))):=by
 intro c h
 have:c = Tryd.f55.body.get rfl:=by rw [<- Option.some_inj,<- h];rfl
 rw [this];rfl
set_option maxHeartbeats 4000000 in
theorem Ky (vb vt ft vl fl:Nat) (Ts:List ByteArray) (Ls:List (List Sp)) (u:ByteArray) (hx:∀ x ∈ Ls,x.length <= 100000000) (hL:Ls.length <= 1000000) (hu:∀ h:0 < Ts.length,Ts[0] = u) (hT:0 < Ts.length) :
    dn env 65536 55 [.ptr 7100 vb 0 0] (jg 7100 7101 7102 vb vt ft vl fl Ts Ls)
      (fun x h=>∃ v1 v2:Nat,x = .agg [.v (.string u),.own 66096 v1 0 (Ls.length + 1),.own 9100 v2 0 Ls.length] /\ subs h (jg 7100 7101 7102 vb vt ft vl fl Ts Ls ++ [(66096,⟨1,3,v1,0,false,ints (iw Ls.length)⟩),(9100,⟨1,23,v2,0,false,aX Ls⟩)])):=by
  have hrl:=bW Ls
  have htl:=nJ Ts
  refine Ev.Cj [0,2,3,4,19] 65536 [.cell 2 27] Tryd.func55 (acA _ rfl) (fun ct=>?_)
  repeat' (first | refine' Ev.zP | refine' Ev.zS | refine' Ev.zK | ((with_reducible refine Ev.dG ?_);(first | refine Ev.WE 6 [] [[],[0],[],[],[3],[3,4],[3,4,5],[],[3,4,5,6,7],[3,4,5,6,7,8],[2,3,4,5,6,7,8,9],[2,3,4,5,6,7,8,9,10],[0,1,2,3,4,5,6,7,8,9,10,11],[0,1,2,3,4,5,6,7,8,9,10,11,12],[0,1,2,3,4,5,6,7,8,9,10,11,12,13]] FN ?_);intro Q hQ;(simp only [Ev.jX,Ev.jl,Ev.jm,Ev.jo,Ev.jY,Ev.jZ]);conv=>whnf) | ((with_reducible refine Ev.both ?_ ?_) <;> (conv=>whnf)) | exact True.intro | refine' Ev.zT | fail)
  refine Ev.xI 66112 9100 1 23 2 rfl rfl rfl ?_
  refine Ev.loop (fun k st=>∃ (i c v0 v3 v1 v2:Nat),st = ⟨[(0,.ptr 7100 vb 0 0),(2,.ptr 65536 v0 0 0),(3,.ptr 66112 v3 0 0),(4,.v (.int .i64 i))],
    jg 7100 7101 7102 vb vt ft vl fl Ts Ls ++ [(65536,⟨3,27,v0,0,true,[[.v (.string ⟨#[]⟩),nilA,nilA]]⟩),(66112,⟨3,27,v3,0,true,[[.v (.string u),.own 66096 v1 0 (i + 1),.own 9100 v2 0 i]]⟩),(66096,⟨1,3,v1,0,false,ints (iw i)⟩),(9100,⟨1,23,v2,0,false,aX (Ls.take i)⟩)],c⟩ /\ k + i = Ls.length) ?_ ?_
  · have e0:=hu hT
    refine Ev.zB ⟨Ls.length,0,?_,?_,?_,?_,?_,rfl,?_⟩ (by refine' Ev.zp <;> first | (first | (rw [<- e0];rfl) | (simp;done) | rfl) | rfl | (refine' Ev.ze;(first | (rw [<- e0];rfl) | (simp;done) | rfl)) | fail)
    omega
  rintro k s1 ⟨i,c,v0,v3,v1,v2,rfl,hk⟩
  have hil:=iI (iw i)
  rw [pX] at hil
  have htk:=bW (Ls.take i)
  rw [List.length_take] at htk
  by_cases hi:i < Ls.length
  · have hii:(i:Int) < (Ls.length:Int):=by omega
    obtain ⟨k',rfl⟩:∃ k',k = k' + 1:=⟨k - 1,by omega⟩
    have hw:IntKind.i64.wrap ((i:Int) + 1) = ((i + 1:Nat):Int):=by rw [bg (by omega)];omega
    have hxl:=hx _ (List.getElem_mem hi)
    have hsl:=aV Ls[i]
    have hr:=Cc i
    rw [<- hw] at hr
    have hq:List.take (0 + (aT Ls[i]).length) (List.drop 0 ([] ++ aT Ls[i])) = aT Ls[i]:=by rw [Nat.zero_add,List.drop_zero,List.nil_append,List.take_length]
    have hs:aX (Ls.take i) ++ List.take 1 (List.drop 0 [[AV.lst 3 (List.take (0 + (aT Ls[i]).length) (List.drop 0 ([] ++ aT Ls[i])))]]) = aX (Ls.take (i + 1)):=by rw [hq,um,List.take_succ_eq_append_getElem hi]
    repeat' (first | (with_reducible refine Ev.aJ hii ?_) | (with_reducible refine Ev.aF hii ?_) | refine' Ev.zP | refine' Ev.zS | refine' Ev.zK | ((with_reducible refine Ev.dG ?_);(first | refine Ev.WE 6 [] [[],[0],[],[],[3],[3,4],[3,4,5],[],[3,4,5,6,7],[3,4,5,6,7,8],[2,3,4,5,6,7,8,9],[2,3,4,5,6,7,8,9,10],[0,1,2,3,4,5,6,7,8,9,10,11],[0,1,2,3,4,5,6,7,8,9,10,11,12],[0,1,2,3,4,5,6,7,8,9,10,11,12,13]] FN ?_);intro Q hQ;(simp only [Ev.jX,Ev.jl,Ev.jm,Ev.jo,Ev.jY,Ev.jZ]);conv=>whnf) | ((with_reducible refine Ev.both ?_ ?_) <;> (conv=>whnf)) | exact True.intro | refine' Ev.zT | fail)
    · refine Ev.zA (k') ⟨i + 1,?_,v0,v3,?_,?_,rfl,?_⟩ (by refine' Ev.zp <;> first | (first | exact hw | exact congrArg (fun e=>aG.mk 1 3 _ 0 false e) hr | exact congrArg (fun e=>aG.mk 1 23 _ 0 false e) hs | (simp;done) | rfl) | rfl | (refine' Ev.ze;(first | exact hw | exact congrArg (fun e=>aG.mk 1 3 _ 0 false e) hr | exact congrArg (fun e=>aG.mk 1 23 _ 0 false e) hs | (simp;done) | rfl)) | fail)
      omega
    · refine Ev.zA (k') ⟨i + 1,?_,v0,v3,?_,?_,rfl,?_⟩ (by refine' Ev.zp <;> first | (first | exact hw | exact congrArg (fun e=>aG.mk 1 3 _ 0 false e) hr | exact congrArg (fun e=>aG.mk 1 23 _ 0 false e) hs | (simp;done) | rfl) | rfl | (refine' Ev.ze;(first | exact hw | exact congrArg (fun e=>aG.mk 1 3 _ 0 false e) hr | exact congrArg (fun e=>aG.mk 1 23 _ 0 false e) hs | (simp;done) | rfl)) | fail)
      omega
    · refine Ev.zA (k') ⟨i + 1,?_,v0,v3,?_,?_,rfl,?_⟩ (by refine' Ev.zp <;> first | (first | exact hw | exact congrArg (fun e=>aG.mk 1 3 _ 0 false e) hr | exact congrArg (fun e=>aG.mk 1 23 _ 0 false e) hs | (simp;done) | rfl) | rfl | (refine' Ev.ze;(first | exact hw | exact congrArg (fun e=>aG.mk 1 3 _ 0 false e) hr | exact congrArg (fun e=>aG.mk 1 23 _ 0 false e) hs | (simp;done) | rfl)) | fail)
      omega
  · have hii:¬ (i:Int) < (Ls.length:Int):=by omega
    repeat' (first | (with_reducible refine Ev.aP hii ?_) | (with_reducible refine Ev.aK hii ?_) | refine' Ev.zP | refine' Ev.zS | refine' Ev.zK | ((with_reducible refine Ev.dG ?_);(first | refine Ev.WE 6 [] [[],[0],[],[],[3],[3,4],[3,4,5],[],[3,4,5,6,7],[3,4,5,6,7,8],[2,3,4,5,6,7,8,9],[2,3,4,5,6,7,8,9,10],[0,1,2,3,4,5,6,7,8,9,10,11],[0,1,2,3,4,5,6,7,8,9,10,11,12],[0,1,2,3,4,5,6,7,8,9,10,11,12,13]] FN ?_);intro Q hQ;(simp only [Ev.jX,Ev.jl,Ev.jm,Ev.jo,Ev.jY,Ev.jZ]);conv=>whnf) | ((with_reducible refine Ev.both ?_ ?_) <;> (conv=>whnf)) | exact True.intro | refine' Ev.zT | fail)
    have e:i = Ls.length:=by omega
    subst e
    rw [List.take_length]
    exact ⟨v1,v2,rfl,Ev.ah rfl rfl,Ev.ah rfl rfl,Ev.ah rfl rfl,Ev.ah rfl rfl,Ev.ah rfl rfl,trivial⟩
theorem TI.last {a:List Sp} {L:List (List Sp)} (ho:∀ s ∈ L,aC s = 0 -> aY dO s <= 1048576):∀ (k i:Nat) (x:List Sp),k + i = L.length -> TI a L i x -> ∃ y,TI a L L.length y
 | 0,i,x,hk,h=>by
                        obtain rfl:i = L.length:=by omega
                        exact ⟨x,h⟩
 | k + 1,i,x,hk,h=>TI.last ho k (i + 1) _ (by omega) (h.next (by omega) ho).2.2
theorem Ij {a:List Sp} {L:List (List Sp)} (h:Iw a L = 0) (hl:a.length + jf L <= 9999999) (hb:bT a <= 100000000) (ho:∀ s ∈ L,aC s = 0 -> aY dO s <= 1048576):(FC (norm a) L).length <= 9999999 /\ bT (FC (norm a) L) <= 100000000 /\ aC (FC (norm a) L) = 0:=by
 obtain ⟨y,hy⟩:=TI.last ho L.length 0 _ (by omega) (TI.first h hl hb)
 have e:=hy.eq
 rw [List.drop_length] at e
 have e:y = FC (norm a) L:=e
 rw [<- e]
 exact ⟨by have:=hy.len;omega,hy.tb,hy.may⟩
theorem FP {k:Nat}:∀ (l:List (List Sp)),(∀ x ∈ l,x.length <= k) -> jf l <= k * l.length
 | [],_=>Nat.zero_le _
 | x :: l,h=>by
   rw [(eF x l).1,List.length_cons,Nat.mul_succ]
   have:=FP l (fun y hy=>h y (by simp [hy]))
   have:=h x (by simp)
   omega
structure FH (c:Lg) (n0:Int):Prop where
 seg:gW n0 c.dP = 0
 val:validD c.base.data.toList = true
 cnt:bG c.base.data.toList = n0
 n0b:0 <= n0 /\ n0 <= 1048576
 nl:c.dP.length <= 20
 each:∀ x ∈ c.dP,x.length <= 13 /\ bT x <= 312
 bs:c.base.size <= 4000
 tot:rC c.dP <= 10000
theorem FH.lens {c:Lg} {n0:Int} (h:FH c n0):jf c.dP <= 260:=by
 have:=FP (k:=13) c.dP (fun x hx=>(h.each x hx).1)
 have:=h.nl
 omega
theorem FH.ends {c:Lg} {n0:Int} (h:FH c n0) (i:Nat) (hi:i <= c.dP.length):0 <= pq n0 (c.dP.take i) /\ pq n0 (c.dP.take i) <= 1048576:=by
 cases i with
 | zero=>rw [List.take_zero];exact h.n0b
 | succ i =>
   have hlt:i < c.dP.length:=hi
   rw [List.take_succ_eq_append_getElem hlt,Ih]
   obtain ⟨a,b,c',d,e⟩:=Ah (Ej h.seg hlt)
   obtain ⟨e1,e2⟩:=h.each _ (List.getElem_mem hlt)
   exact ⟨(FK a (by omega) (by omega)).1,c'⟩
theorem FH.out {c:Lg} {n0:Int} (h:FH c n0):∀ x ∈ c.dP,aC x = 0 -> aY dO x <= 1048576:=fun x hx _=>by
 obtain ⟨m,hm⟩:=PL h.seg hx
 obtain ⟨a,b,c',d,e⟩:=Ah hm
 obtain ⟨e1,e2⟩:=h.each x hx
 have:=(FK a (by omega) (by omega)).2
 omega
theorem FH.szs {c:Lg} {n0:Int} (h:FH c n0):∀ n ∈ Iq n0 c.dP,0 <= n /\ n <= 1048576:=fun n hn=>by
 obtain ⟨i,hi,rfl⟩:=List.getElem_of_mem hn
 rw [xA] at hi
 have e:=Ag c.dP n0 i (by omega)
 rw [List.getD_eq_getElem?_getD,List.getElem?_eq_getElem (by rw [xA];exact hi)] at e
 have e:(Iq n0 c.dP)[i]'(by rw [xA];exact hi) = _:=e
 rw [e]
 exact h.ends i (by omega)
end Go.Proofs.YtadlnaljicikfaaDoor.aI
namespace Go.Proofs.YtadlnaljicikfaaDoor.aI
open Go Go.Lib
theorem xQ {l:List Sp} {t:ByteArray} (h:lV l t = 0) (hl:l.length <= 1000000000):fK l (pts t.data.toList) = kJ (iC l) (pts t.data.toList):=by
 obtain ⟨h1,h2,h3⟩:=ny h
 obtain ⟨o,e⟩:=oM.of h1 hl
 exact BJ l _ o.all (by omega)
theorem PV {b x:List Sp} {t:ByteArray} (hb:lV b t = 0) (hc:jr b x = 0) (lb:b.length <= 10000000) (lx:x.length <= 10000000) (tb:bT b <= 100000000) (tx:bT x <= 100000000) (ht:t.size <= 100000000) :
   lV (kF b x) t = 0 /\ lV x (oL b t) = 0 /\ oL (kF b x) t = oL x (oL b t):=by
 obtain ⟨h1,h2,h3⟩:=ny hb
 obtain ⟨c1,c2,c3⟩:=FB hc
 obtain ⟨m1,m2,m3⟩:=BX hc lb lx tb tx
 obtain ⟨s1,s2⟩:=kT hc lb lx tb
 obtain ⟨f1,f2,f3,f4⟩:=yM hb (by omega) (by omega)
 obtain ⟨ob,eb⟩:=oM.of c1 (by omega)
 obtain ⟨ox,ex⟩:=oM.of c2 (by omega)
 have g1:lV (kF b x) t = 0:=vK m1 h2 (by rw [m2];exact h3)
 have g2:lV x (oL b t) = 0:=vK c2 f1 (by rw [f3,c3])
 refine ⟨g1,g2,?_⟩
 have e1:oL (kF b x) t = txt (fK (kF b x) (pts t.data.toList)):=if_pos g1
 have e2:oL x (oL b t) = txt (fK x (pts (oL b t).data.toList)):=if_pos g2
 rw [e1,e2,xQ g1 (by omega),xQ g2 (by omega),f2,xQ hb (by omega)]
 have so:=ku b
 have fo:=lq b ob.all
 have bo:=ob.bnd
 rw [bg (by omega)] at so
 have hm:=(sN ob ox (by omega)).2.1
 have zb:=bU ob.all
 have zx:=bU ox.all
 rw [hm,pI _ _ _ (by omega) (by omega)]
theorem Ce:∀ (L:List (List Sp)) (b:List Sp) (t:ByteArray),lV b t = 0 -> gW (outW b) L = 0 -> b.length + jf L <= 1000000 -> bT b + lK L <= 1000000 -> t.size <= 1000000 ->
   (dR b L).2 = 0 /\ lV (dR b L).1 t = 0 /\ lC L (oL b t) = (0,oL (dR b L).1 t) /\ outW (dR b L).1 = pq (outW b) L /\ (dR b L).1.length <= b.length + jf L /\ bT (dR b L).1 <= bT b + lK L
 | [],b,t,hb,hs,hl,ht,hz=>⟨rfl,hb,rfl,rfl,Nat.le_add_right ..,Nat.le_add_right ..⟩
 | x :: L,b,t,hb,hs,hl,ht,hz=>by
   obtain ⟨l1,l2⟩:=eF x L
   rw [l1] at hl ⊢
   rw [l2] at ht ⊢
   simp only [gW] at hs
   by_cases h0:qZ (outW b) x = 0
   · rw [if_pos h0] at hs
     obtain ⟨s0,s1,s2,s3,s4⟩:=Ah h0
     have m1:=(ny hb).1
     have hc:jr b x = 0:=by unfold jr;rw [if_neg (by simpa using m1),if_neg (by simpa using s0),if_neg (by simpa using s1.symm)]
     obtain ⟨g1,g2,g3⟩:=PV hb hc (by omega) (by omega) (by omega) (by omega) (by omega)
     obtain ⟨c1,c2,c3⟩:=BX hc (by omega) (by omega) (by omega) (by omega)
     obtain ⟨d1,d2⟩:=kT hc (by omega) (by omega) (by omega)
     have hf:dR b (x :: L) = dR (kF b x) L:=by simp only [dR];rw [if_pos hc]
     obtain ⟨i1,i2,i3,i4,i5,i6⟩:=Ce L (kF b x) t g1 (by rw [c3];exact hs) (by omega) (by omega) hz
     rw [hf]
     refine ⟨i1,i2,?_,by rw [i4,c3];rfl,by omega,by omega⟩
     simp only [lC]
     rw [if_pos g2,<- g3];exact i3
   · rw [if_neg h0] at hs;exact absurd hs h0
theorem Ik {t:ByteArray} {m:Int} (hv:validD t.data.toList = true) (hc:bG t.data.toList = m) (hm:0 <= m /\ m <= 1048576):lV (dH m) t = 0 /\ oL (dH m) t = t:=by
 obtain ⟨k1,k2,k3⟩:=yT hm
 have hp:=bH hv
 have h0:lV (dH m) t = 0:=vK k1 hv (by rw [k3];omega)
 refine ⟨h0,?_⟩
 have e1:oL (dH m) t = txt (fK (dH m) (pts t.data.toList)):=if_pos h0
 rw [e1]
 unfold dH
 by_cases hz:m = 0
 · have:pts t.data.toList = []:=List.eq_nil_of_length_eq_zero (by omega)
   rw [if_pos hz]
   have e:=qN hv
   rw [this] at e
   exact e
 · rw [if_neg hz]
   show txt ((pts t.data.toList).take m.toNat ++ []) = t
   rw [List.append_nil,List.take_of_length_le (by omega),qN hv]
end Go.Proofs.YtadlnaljicikfaaDoor.aI
