/- A part of the proof: a calculus over values, and contracts of functions. No condition. -/
import Derived.Test.YtadlnaljicikfaaDoorZC10
set_option linter.unusedVariables false
set_option linter.unusedSimpArgs false
namespace Go.Proofs.YtadlnaljicikfaaDoor.aB
open Go
set_option maxRecDepth 100000
attribute [local irreducible] Ev.iE Ev.iG Ev.bW Ev.runK Ev.bY Ev.gq Ev.Side Ev.Wp Ev.Again Ev.To Ev.Fin
open Go.Lib Go.RowKit
def uO (a b:List Sp):Int:=if aH a ≠ 0 then aH a else if aH b ≠ 0 then aH b else if jV a ≠ jV b then 5 else 0
def YF (a b:List Sp):AV:=.dB [if uO a b = 0 then .lst 3 (bD (qN a b)) else nilA,.v (.int .i64 (uO a b))]
theorem F6 {a b:List Sp} {e:Int} (h:uO a b = e) (h0:e ≠ 0):YF a b = .dB [nilA,.v (.int .i64 e)]:=by
 unfold YF;rw [h,if_neg h0]
theorem RQ {a b:List Sp} (h:uO a b = 0):YF a b = .dB [.lst 3 (bD (qN a b)),.v (.int .i64 0)]:=by
 unfold YF;rw [h,if_pos rfl]
theorem aeL {a b:List Sp} (h:uO a b = 0):aH a = 0 /\ aH b = 0 /\ jV a = jV b:=by
 unfold uO at h
 by_cases ma:aH a = 0
 · rw [if_neg (by simpa using ma)] at h
   by_cases mb:aH b = 0
   · rw [if_neg (by simpa using mb)] at h
     by_cases ho:jV a = jV b
     · exact ⟨ma,mb,ho⟩
     · rw [if_pos ho] at h;cases h
   · rw [if_pos mb] at h;exact absurd h mb
 · rw [if_pos ma] at h;exact absurd h ma
theorem aak{G:Prop}(h:G:=by
 refine Ev.fnV [0,1,4,5,7,8,9,12,13,14,15,21,28,41,55,71,92] 0 [.cell 4 23,.tmp 5] Tryd.func36 (YD _ rfl) ?_
 refine Ev.H6 ?_
 repeat' (first | refine' Ev.zS | refine' Ev.zK | ((with_reducible refine Ev.dG ?_);(first | refine Ev.dr 18 [] [0,1,2,3,4,5,6,7,8] ?_ | refine Ev.dr 21 [] [0,1,2,3,4,5,6] ?_ | refine Ev.dr 13 [] [0,1,2,3,4,5,6,7,8,9] ?_ | refine Ev.dr 15 [] [0,1,5,2,3,4,6,7,8,9] ?_);intro Q hQ;(simp only [Ev.ak,Ev.au]);conv=>whnf) | refine' Ev.zT | fail)
 refine Ev.H6 ?_
 all_goals(rcases(⟨_⟩:PLift _)with⟨h⟩;exact h)):G:=h
theorem YG (a b:List Sp) (la:a.length <= 10000000) (lb:b.length <= 10000000) (ta:dw a <= 100000000) (tb:dw b <= 100000000) (sa:Small a) (sb:Small b) (hb:aH b = 0 -> bC dK b <= 1048576) :
   aA env 36 [.lst 3 (bD a),.lst 3 (bD b)] (fun r hs=>r = YF a b /\ hs = []):=by
 have hA:=dW a (by omega) sa
 have hB:=dW b (by omega) sb
 by_cases ma:aH a = 0
 · by_cases mb:aH b = 0
   · by_cases ho:sumW (fun s=>qo s.k s.n) a = sumW (fun s=>qo s.k s.n) b
     · have:uO a b = 0:=by unfold uO;rw [if_neg (by simpa using ma),if_neg (by simpa using mb),if_neg (by simpa [jV] using ho)]
       rw [RQ this]
       exact ajK a b la lb ta tb sa sb ma mb ho (hb mb)
     · have:uO a b = 5:=by unfold uO;rw [if_neg (by simpa using ma),if_neg (by simpa using mb),if_pos (by simpa [jV] using ho)]
       rw [F6 this (by decide)]
       have hIa:=gy a (by omega)
       have hIb:=gy b (by omega)
       rw [ma] at hA
       rw [mb] at hB
       refine' aak
       repeat' (first | refine' Ev.zP | refine' Ev.zS | refine' Ev.zK | (with_reducible refine Ev.oK 3 ?_) | ((with_reducible refine Ev.ca0 ?_);(first | refine Ev.ca (hA) ?_ | refine Ev.ca (hB) ?_);conv=>whnf) | ((with_reducible refine Ev.dG ?_);(first | refine Ev.dr 18 [] [0,1,2,3,4,5,6,7,8] ?_ | refine Ev.dr 21 [] [0,1,2,3,4,5,6] ?_ | refine Ev.dr 13 [] [0,1,2,3,4,5,6,7,8,9] ?_ | refine Ev.dr 15 [] [0,1,5,2,3,4,6,7,8,9] ?_);intro Q hQ;(simp only [Ev.ak,Ev.au]);conv=>whnf) | refine' Ev.zT | fail)
       refine Ev.H6 ?_
       repeat' (first | refine' Ev.zP | (with_reducible refine Ev.aV ho ?_) | (with_reducible refine Ev.aP ho ?_) | refine' Ev.zS | refine' Ev.zK | ((with_reducible refine Ev.ca0 ?_);(first | refine Ev.ca (hIa) ?_ | refine Ev.ca (hIb) ?_);conv=>whnf) | ((with_reducible refine Ev.dG ?_);(first | refine Ev.dr 18 [] [0,1,2,3,4,5,6,7,8] ?_ | refine Ev.dr 21 [] [0,1,2,3,4,5,6] ?_ | refine Ev.dr 13 [] [0,1,2,3,4,5,6,7,8,9] ?_ | refine Ev.dr 15 [] [0,1,5,2,3,4,6,7,8,9] ?_);intro Q hQ;(simp only [Ev.ak,Ev.au]);conv=>whnf) | refine' Ev.zT | fail)
       exact ⟨rfl,rfl⟩
   · have:uO a b = aH b:=by unfold uO;rw [if_neg (by simpa using ma),if_pos mb]
     rw [F6 this mb]
     rw [ma] at hA
     refine' aak
     repeat' (first | refine' Ev.zP | (with_reducible refine Ev.aV mb ?_) | (with_reducible refine Ev.aP mb ?_) | refine' Ev.zS | refine' Ev.zK | (with_reducible refine Ev.oK 3 ?_) | ((with_reducible refine Ev.ca0 ?_);(first | refine Ev.ca (hA) ?_ | refine Ev.ca (hB) ?_);conv=>whnf) | ((with_reducible refine Ev.dG ?_);(first | refine Ev.dr 18 [] [0,1,2,3,4,5,6,7,8] ?_ | refine Ev.dr 21 [] [0,1,2,3,4,5,6] ?_ | refine Ev.dr 13 [] [0,1,2,3,4,5,6,7,8,9] ?_ | refine Ev.dr 15 [] [0,1,5,2,3,4,6,7,8,9] ?_);intro Q hQ;(simp only [Ev.ak,Ev.au]);conv=>whnf) | refine' Ev.zT | fail)
     exact ⟨rfl,rfl⟩
 · have:uO a b = aH a:=by unfold uO;rw [if_pos ma]
   rw [F6 this ma]
   refine' aak
   repeat' (first | refine' Ev.zP | (with_reducible refine Ev.aV ma ?_) | (with_reducible refine Ev.aP ma ?_) | refine' Ev.zS | refine' Ev.zK | (with_reducible refine Ev.oK 3 ?_) | ((with_reducible refine Ev.ca0 ?_);(first | refine Ev.ca (hA) ?_ | refine Ev.ca (hB) ?_);conv=>whnf) | ((with_reducible refine Ev.dG ?_);(first | refine Ev.dr 18 [] [0,1,2,3,4,5,6,7,8] ?_ | refine Ev.dr 21 [] [0,1,2,3,4,5,6] ?_ | refine Ev.dr 13 [] [0,1,2,3,4,5,6,7,8,9] ?_ | refine Ev.dr 15 [] [0,1,5,2,3,4,6,7,8,9] ?_);intro Q hQ;(simp only [Ev.ak,Ev.au]);conv=>whnf) | refine' Ev.zT | fail)
   exact ⟨rfl,rfl⟩
theorem aeM:∀ c,Tryd.f112.body = some c -> comp c = (.seq (.reg 0 [I.n 0 6 I.sn,I.n 1 7 (I.si 0)]) (.seq (.seq (.reg 1 [I.n 0 13 (I.mv 1),I.n 1 14 (I.ln 13 22),I.n 2 15 (.move (.const (Value.int .i64 0)))]) (.block 0 (.loop (.seq (.reg 2 [I.n 0 16 (I.bo .lss 3 15 14 3)]) (.seq (.cond (.tmp 16) .skip (.exit 0)) (.seq (.block 1 (.seq (.reg 3 [I.n 0 17 (I.ia 22 13 15),I.n 1 18 (I.ld 23 17),I.n 2 9 (I.sa 18)]) (.seq (.reg 4 [I.n 0 20 (I.mv 2),I.n 1 21 (I.mv 0),I.n 2 22 (I.mv 9),I.n 3 23 (.call { callee:=.value (.tmp 20),args:=#[.tmp 21,.tmp 22],argTypes:=#[23,23] }),I.n 4 19 (I.mv 23),I.n 5 24 (I.ex 19 0),I.n 6 25 (I.ex 19 1),I.n 7 10 (I.sa 24),I.n 8 11 (I.sa 25)]) (.seq (.seq (.reg 5 [I.n 0 26 (I.mv 11),I.n 1 27 (I.bc .neq 30 26 0 30)]) (.cond (.tmp 27) (.seq (.reg 6 [I.n 0 12 I.sn]) (.seq (.reg 7 [I.n 0 28 (I.mv 12),I.n 1 29 (I.mv 11),I.n 2 6 (I.sa 28),I.n 3 7 (I.sa 29)]) .ret)) .skip)) (.reg 8 [I.n 0 30 (I.mv 10),I.n 1 0 (I.sa 30)]))))) (.reg 9 [I.n 0 31 (I.bc .add 3 15 1 3),I.n 1 15 (I.mv 31)]))))))) (.seq (.reg 10 [I.n 0 32 (I.mv 0),I.n 1 6 (I.sa 32),I.n 2 7 (I.si 0)]) .ret))):=by
 intro c h
 have:c = Tryd.f112.body.get rfl:=by rw [<- Option.some_inj,<- h];rfl
 rw [this];rfl
def dS:List Sp -> List (List Sp) -> List Sp × Int
 | b,[]=>(b,0)
 | b,x :: l=>if jh b x = 0 then dS (jR b x) l else ([],jh b x)
def vX (b:List Sp) (L:List (List Sp)):AV:=.dB [if (dS b L).2 = 0 then .lst 3 (bD (dS b L).1) else nilA,.v (.int .i64 (dS b L).2)]
def gI (L:List (List Sp)):Nat:=(L.map List.length).sum
def gZ (L:List (List Sp)):Nat:=(L.map dw).sum
theorem dL (x:List Sp) (L:List (List Sp)):gI (x :: L) = x.length + gI L /\ gZ (x :: L) = dw x + gZ L:=by simp [gI,gZ]
theorem KE {a b:List Sp} (h:jh a b = 0):aH a = 0 /\ aH b = 0 /\ outW a = jV b:=by
 unfold jh at h
 by_cases h1:aH a = 0
 · rw [if_neg (by simpa using h1)] at h
   by_cases h2:aH b = 0
   · rw [if_neg (by simpa using h2)] at h
     by_cases h3:outW a = jV b
     · exact ⟨h1,h2,h3⟩
     · rw [if_pos h3] at h;cases h
   · rw [if_pos h2] at h;exact absurd h h2
 · rw [if_pos h1] at h;exact absurd h h1
theorem l7 {a b:List Sp} (h:jh a b = 0) (la:a.length <= 10000000) (lb:b.length <= 10000000) (ta:dw a <= 100000000):(jR a b).length <= a.length + b.length /\ dw (jR a b) <= dw a + dw b:=by
 obtain ⟨h1,h2,h3⟩:=KE h
 have oa:=(qM.of h1 (by omega)).1
 have ob:=(qM.of h2 (by omega)).1
 have ho':bC dK a = bC dV b:=by
   have h1:=(qM.of h2 (by omega)).2
   have h2:=jf a
   have h3':=mV a oa.all
   have h4:=oa.bnd
   rw [aU (by omega)] at h2
   rw [<- h2,<- h1];exact h3
 exact (pG oa ob ho').2.2.2.2.2.2.2.2.2
theorem abl{G:Prop}(h:G:=by
 rw [RJ he] at hC
 simp only [dS,he,if_true] at hf
 obtain ⟨m1,m2⟩:=l7 he (by omega) (by omega) (by omega)
 repeat' (first | refine' Ev.zP | (with_reducible refine Ev.aK hii ?_) | (with_reducible refine Ev.aJ hii ?_) | refine' Ev.zS | refine' Ev.zK | ((with_reducible refine Ev.ca0 ?_);(first | refine Ev.ca (hC) ?_);conv=>whnf) | refine' Ev.zT | fail)
 refine Ev.zA (k') ⟨i + 1,?_,jR b L[i],rfl,?_⟩
 exact ⟨by omega,hf,by omega,by omega⟩):G:=h
theorem acr{G:Prop}(h:G:=by (repeat' (first | (with_reducible refine Ev.aV he ?_) | (with_reducible refine Ev.aP he ?_) | (with_reducible refine Ev.aK hii ?_) | (with_reducible refine Ev.aJ hii ?_) | refine' Ev.zP | refine' Ev.zS | refine' Ev.zK | ((with_reducible refine Ev.ca0 ?_);(first | refine Ev.ca (hC) ?_);conv=>whnf) | refine' Ev.zT | fail));all_goals(rcases(⟨_⟩:PLift _)with⟨h⟩;exact h)):G:=h
theorem aez{G:Prop}(h:G:=by
 rw [List.drop_of_length_le (by omega)] at hf
 refine' aas
 refine ⟨?_,rfl⟩
 unfold vX
 rw [<- hf];rfl):G:=h
theorem afm{G:Prop}(h:G:=by
 refine' adn
 rw [List.drop_eq_getElem_cons hi] at hf hl' hb'
 obtain ⟨l1,l2⟩:=dL L[i] (L.drop (i + 1))
 rw [l1] at hl'
 rw [l2] at hb'
 all_goals(rcases(⟨_⟩:PLift _)with⟨h⟩;exact h)):G:=h
theorem Vq (L:List (List Sp)) (base:List Sp) (hl:base.length + gI L <= 10000000) (hb:dw base + gZ L <= 100000000) (hL:L.length <= 10000000) :
   aA env 112 [.lst 3 (bD base),.lst 1 (aC L),.clo (.func 113) [] []] (fun r hs=>r = vX base L /\ hs = []):=by
 have hrl:=aW L
 refine Ev.fn [0,1,2,6,7,9,10,11,12,13,14,15,16,27] 0 [.tmp 6,.tmp 7] Tryd.func112 (aeM _ rfl) ?_
 refine' Ev.zW
 refine Ev.loop (fun k s=>∃ (i c:Nat) (b:List Sp),s = ⟨[(0,.lst 3 (bD b)),(2,.clo (.func 113) [] []),(13,.lst 1 (aC L)),(14,.v (.int .i64 L.length)),(15,.v (.int .i64 i))],[],c⟩ /\ k + i = L.length /\ dS b (L.drop i) = dS base L /\ b.length + gI (L.drop i) <= 10000000 /\ dw b + gZ (L.drop i) <= 100000000) ?_ ?_
 · refine Ev.zB ⟨L.length,0,?_,base,rfl,?_⟩
   exact ⟨by omega,rfl,hl,hb⟩
 rintro k s1 ⟨i,c,b,rfl,hk,hf,hl',hb'⟩
 by_cases hi:i < L.length
 · have hii:(i:Int) < (L.length:Int):=by omega
   refine' afm
   have hC:=YA b L[i] (by omega) (by omega) (by omega) (by omega) (fM (by omega)) (fM (by omega))
   by_cases he:jh b L[i] = 0
   · refine' abl
   · rw [sD rfl he] at hC
     simp only [dS,he,if_false] at hf
     refine' acr
     refine ⟨?_,rfl⟩
     unfold vX
     rw [<- hf,if_neg he];rfl
 · have hii:¬ (i:Int) < (L.length:Int):=by omega
   refine' aez
theorem YH:∀ c,Tryd.f63.body = some c -> comp c = (.seq (.reg 0 [I.n 0 4 I.sn,I.n 1 5 (I.si 0)]) (.seq (.reg 1 [I.n 0 9 (I.mv 0),I.n 1 10 (I.c1 111 9 3),I.n 2 8 (I.mv 10),I.n 3 11 (I.ex 8 0),I.n 4 12 (I.ex 8 1),I.n 5 6 (I.sa 11),I.n 6 7 (I.sa 12)]) (.seq (.seq (.reg 2 [I.n 0 13 (I.mv 7),I.n 1 14 (I.bc .neq 30 13 0 30)]) (.cond (.tmp 14) (.seq (.reg 3 [I.n 0 15 (I.mv 7),I.n 1 4 I.sn,I.n 2 5 (I.sa 15)]) .ret) .skip)) (.seq (.reg 4 [I.n 0 16 (I.mv 6),I.n 1 17 (I.mv 1),I.n 2 18 (.call { callee:=.value (.func 112),args:=#[.tmp 16,.tmp 17,.func 113],argTypes:=#[23,22,52] }),I.n 3 19 (I.ex 18 0),I.n 4 20 (I.ex 18 1),I.n 5 4 (I.sa 19),I.n 6 5 (I.sa 20)]) .ret)))):=by
 intro c h
 have:c = Tryd.f63.body.get rfl:=by rw [<- Option.some_inj,<- h];rfl
 rw [this];rfl
def dU (n:Int):List Sp:=if n = 0 then [] else [⟨1,n,⟨#[]⟩⟩]
theorem sF (n:Int):dw (dU n) = 0 /\ (dU n).length <= 1:=by
 unfold dU;split
 · exact ⟨rfl,by simp⟩
 · exact ⟨rfl,by simp⟩
theorem F7 (n:Int) (hn:0 <= n /\ n <= 1048576):aA env 111 [.v (.int .i64 n)] (fun r hs=>r = .dB [.lst 3 (bD (dU n)),.v (.int .i64 0)] /\ hs = []):=by
 refine aA.BJ (UW n) ?_
 have e:Dp n = 0:=by unfold Dp;rw [if_neg (by omega)]
 rw [e]
 unfold keepA dU
 rw [if_neg (by omega)]
 by_cases h:n = 0
 · rw [if_pos h,if_pos h];exact je.SY (je.nil 3) (je.refl _)
 · rw [if_neg h,if_neg h];exact je.refl _
theorem abx{G:Prop}(h:G:=by (repeat' (first | refine' Ev.zP | refine' Ev.zS | refine' Ev.zK | ((with_reducible refine Ev.ca0 ?_);(first | refine Ev.ca (hK) ?_ | refine Ev.ca (hF) ?_);conv=>whnf) | refine' Ev.zT | fail));all_goals(rcases(⟨_⟩:PLift _)with⟨h⟩;exact h)):G:=h
theorem Vr (n:Int) (hn:0 <= n /\ n <= 1048576) (L:List (List Sp)) (hl:gI L <= 9999999) (hb:gZ L <= 100000000) (hL:L.length <= 10000000) :
   aA env 63 [.v (.int .i64 n),.lst 1 (aC L)] (fun r hs=>r = vX (dU n) L /\ hs = []):=by
 have hK:=F7 n hn
 obtain ⟨k1,k2⟩:=sF n
 have hF:=Vq L (dU n) (by omega) (by omega) hL
 have hR:vX (dU n) L = .dB [if (dS (dU n) L).2 = 0 then .lst 3 (bD (dS (dU n) L).1) else nilA,.v (.int .i64 (dS (dU n) L).2)]:=rfl
 generalize dS (dU n) L = G at *
 by_cases hG:G.2 = 0
 · rw [if_pos hG] at hR
   rw [hR] at hF ⊢
   refine Ev.fn [0,1,4,5,6,7,14] 0 [.tmp 4,.tmp 5] Tryd.func63 (YH _ rfl) ?_
   refine' abx
   all_goals exact ⟨rfl,rfl⟩
 · rw [if_neg hG] at hR
   rw [hR] at hF ⊢
   refine Ev.fn [0,1,4,5,6,7,14] 0 [.tmp 4,.tmp 5] Tryd.func63 (YH _ rfl) ?_
   refine' abx
   all_goals exact ⟨rfl,rfl⟩
theorem aeN:∀ c,Tryd.f147.body = some c -> comp c = (.seq (.reg 0 [I.n 0 4 (I.si 0),I.n 1 5 (I.si 0)]) (.seq (.reg 1 [I.n 0 11 (I.mv 0),I.n 1 12 (I.c1 148 11 3),I.n 2 10 (I.mv 12),I.n 3 13 (I.ex 10 0),I.n 4 14 (I.ex 10 1),I.n 5 6 (I.sa 13),I.n 6 7 (I.sa 14)]) (.seq (.seq (.reg 2 [I.n 0 15 (I.mv 7),I.n 1 16 (I.bc .neq 30 15 0 30)]) (.cond (.tmp 16) (.seq (.reg 3 [I.n 0 17 (I.mv 7),I.n 1 4 (I.si 0),I.n 2 5 (I.sa 17)]) .ret) .skip)) (.seq (.seq (.reg 4 [I.n 0 8 (I.si 0)]) (.block 0 (.loop (.seq (.seq (.reg 5 [I.n 0 18 (I.mv 8),I.n 1 19 (I.mv 1),I.n 2 20 (I.ln 19 22),I.n 3 21 (I.bo .lss 3 18 20 3)]) (.cond (.tmp 21) .skip (.exit 0))) (.seq (.block 1 (.seq (.reg 7 [I.n 0 24 (I.mv 1),I.n 1 25 (I.mv 8),I.n 2 26 (I.ia 22 24 25),I.n 3 27 (I.ld 23 26),I.n 4 28 (I.c1 100 27 23),I.n 5 9 (I.sa 28)]) (.seq (.seq (.reg 8 [I.n 0 29 (I.mv 9),I.n 1 30 (I.bc .neq 30 29 0 30)]) (.cond (.tmp 30) (.seq (.reg 9 [I.n 0 31 (I.mv 9),I.n 1 4 (I.si 0),I.n 2 5 (I.sa 31)]) .ret) .skip)) (.seq (.seq (.reg 10 [I.n 0 32 (I.mv 1),I.n 1 33 (I.mv 8),I.n 2 34 (I.ia 22 32 33),I.n 3 35 (I.ld 23 34),I.n 4 36 (I.c1 101 35 23),I.n 5 37 (I.mv 0),I.n 6 38 (I.bo .neq 3 36 37 3)]) (.cond (.tmp 38) (.seq (.reg 11 [I.n 0 4 (I.si 0),I.n 1 5 (I.si 5)]) .ret) .skip)) (.reg 12 [I.n 0 39 (I.mv 1),I.n 1 40 (I.mv 8),I.n 2 41 (I.ia 22 39 40),I.n 3 42 (I.ld 23 41),I.n 4 43 (I.c1 102 42 23),I.n 5 0 (I.sa 43)]))))) (.reg 6 [I.n 0 22 (I.mv 8),I.n 1 23 (I.bc .add 3 22 1 3),I.n 2 8 (I.sa 23)])))))) (.seq (.reg 13 [I.n 0 44 (I.mv 0),I.n 1 4 (I.sa 44),I.n 2 5 (I.si 0)]) .ret))))):=by
 intro c h
 have:c = Tryd.f147.body.get rfl:=by rw [<- Option.some_inj,<- h];rfl
 rw [this];rfl
theorem RS:∀ c,Tryd.f105.body = some c -> comp c = (.seq (.reg 0 [I.n 0 4 I.sn,I.n 1 5 (I.si 0)]) (.seq (.reg 1 [I.n 0 12 (I.mv 0),I.n 1 13 (I.mv 1),I.n 2 14 (I.c2 147 12 13 3 22),I.n 3 11 (I.mv 14),I.n 4 15 (I.ex 11 0),I.n 5 16 (I.ex 11 1),I.n 6 6 (I.sa 15),I.n 7 7 (I.sa 16)]) (.seq (.seq (.reg 2 [I.n 0 17 (I.mv 7),I.n 1 18 (I.bc .neq 30 17 0 30)]) (.cond (.tmp 18) (.seq (.reg 3 [I.n 0 19 (I.mv 7),I.n 1 4 I.sn,I.n 2 5 (I.sa 19)]) .ret) .skip)) (.seq (.reg 4 [I.n 0 21 (I.mv 0),I.n 1 22 (I.c1 148 21 3),I.n 2 20 (I.mv 22),I.n 3 23 (I.ex 20 0),I.n 4 24 (I.ex 20 1),I.n 5 8 (I.sa 23),I.n 6 9 (I.sa 24)]) (.seq (.seq (.reg 5 [I.n 0 10 (I.si 0)]) (.block 0 (.loop (.seq (.seq (.reg 6 [I.n 0 25 (I.mv 10),I.n 1 26 (I.mv 1),I.n 2 27 (I.ln 26 22),I.n 3 28 (I.bo .lss 3 25 27 3)]) (.cond (.tmp 28) .skip (.exit 0))) (.seq (.block 1 (.reg 8 [I.n 0 32 (I.mv 8),I.n 1 33 (I.mv 1),I.n 2 34 (I.mv 10),I.n 3 35 (I.ia 22 33 34),I.n 4 36 (I.ld 23 35),I.n 5 37 (I.c2 149 32 36 23 23),I.n 6 31 (I.mv 37),I.n 7 38 (I.ex 31 0),I.n 8 39 (I.ex 31 1),I.n 9 8 (I.sa 38)])) (.reg 7 [I.n 0 29 (I.mv 10),I.n 1 30 (I.bc .add 3 29 1 3),I.n 2 10 (I.sa 30)])))))) (.seq (.reg 9 [I.n 0 40 (I.mv 8),I.n 1 4 (I.sa 40),I.n 2 5 (I.si 0)]) .ret)))))):=by
 intro c h
 have:c = Tryd.f105.body.get rfl:=by rw [<- Option.some_inj,<- h];rfl
 rw [this];rfl
def ig:Int -> List (List Sp) -> Int × Int
 | n,[]=>(n,0)
 | n,x :: l=>if aH x = 0 then (if jV x = n then ig (outW x) l else (0,5)) else (0,aH x)
def F8 (n:Int) (L:List (List Sp)):AV:=.dB [.v (.int .i64 (ig n L).1),.v (.int .i64 (ig n L).2)]
theorem Dy (n:Int) (hn:0 <= n /\ n <= 1048576):aA env 148 [.v (.int .i64 n)] (fun r hs=>r = .dB [.lst 3 (bD (dU n)),.v (.int .i64 0)] /\ hs = []):=by
 refine aA.BJ (L9 n) ?_
 have e:Dp n = 0:=by unfold Dp;rw [if_neg (by omega)]
 rw [e]
 unfold keepA dU
 rw [if_neg (by omega)]
 by_cases h:n = 0
 · rw [if_pos h,if_pos h];exact je.SY (je.nil 3) (je.refl _)
 · rw [if_neg h,if_neg h];exact je.refl _
theorem ael{G:Prop}(h:G:=by exact ⟨by unfold F8;rw [<- hf];rfl,rfl⟩):G:=h
theorem NK (n:Int) (hn:0 <= n /\ n <= 1048576) (L:List (List Sp)) (hb:∀ x ∈ L,x.length <= 1000000000 /\ Small x) (hL:L.length <= 10000000) :
   aA env 147 [.v (.int .i64 n),.lst 1 (aC L)] (fun r hs=>r = F8 n L /\ hs = []):=by
 have hK:=Dy n hn
 have hrl:=aW L
 refine Ev.fn [0,1,4,5,7,8,9,16,21,30,38] 0 [.tmp 4,.tmp 5] Tryd.func147 (aeN _ rfl) ?_
 repeat' (first | refine' Ev.zP | refine' Ev.zS | refine' Ev.zK | ((with_reducible refine Ev.ca0 ?_);(first | refine Ev.ca (hK) ?_);conv=>whnf) | refine' Ev.zT | fail)
 refine Ev.loop (fun k s=>∃ (i c:Nat) (m:Int),s = ⟨[(0,.v (.int .i64 m)),(1,.lst 1 (aC L)),(8,.v (.int .i64 i))],[],c⟩ /\ k + i = L.length /\ ig m (L.drop i) = ig n L) ?_ ?_
 · refine Ev.zB ⟨L.length,0,?_,n,rfl,?_⟩
   exact ⟨by omega,rfl⟩
 rintro k s1 ⟨i,c,m,rfl,hk,hf⟩
 by_cases hi:i < L.length
 · have hii:(i:Int) < ((aC L).length:Int):=by omega
   refine' adn
   rw [List.drop_eq_getElem_cons hi] at hf
   obtain ⟨b1,b2⟩:=hb L[i] (List.getElem_mem hi)
   have hM:=jr L[i] b1 b2
   have hI:=lN L[i] b1
   have hO:=kG L[i] b1 b2
   simp only [ig] at hf
   by_cases h1:aH L[i] = 0
   · rw [h1] at hM
     rw [if_pos h1] at hf
     by_cases h2:sumW (fun s=>qo s.k s.n) L[i] = m
     · rw [if_pos (show jV L[i] = m from h2)] at hf
       repeat' (first | refine' Ev.zP | (with_reducible refine Ev.aK h2 ?_) | (with_reducible refine Ev.aJ h2 ?_) | (with_reducible refine Ev.aK hii ?_) | (with_reducible refine Ev.aJ hii ?_) | refine' Ev.zS | refine' Ev.zK | ((with_reducible refine Ev.ca0 ?_);(first | refine Ev.ca (hM) ?_ | refine Ev.ca (hI) ?_ | refine Ev.ca (hO) ?_);conv=>whnf) | refine' Ev.zT | fail)
       refine Ev.zA (k') ⟨i + 1,?_,outW L[i],rfl,?_⟩
       exact ⟨by omega,hf⟩
     · rw [if_neg (show ¬ jV L[i] = m from h2)] at hf
       repeat' (first | refine' Ev.zP | (with_reducible refine Ev.aV h2 ?_) | (with_reducible refine Ev.aP h2 ?_) | (with_reducible refine Ev.aK hii ?_) | (with_reducible refine Ev.aJ hii ?_) | refine' Ev.zS | refine' Ev.zK | ((with_reducible refine Ev.ca0 ?_);(first | refine Ev.ca (hM) ?_ | refine Ev.ca (hI) ?_ | refine Ev.ca (hO) ?_);conv=>whnf) | refine' Ev.zT | fail)
       refine' ael
   · rw [if_neg h1] at hf
     repeat' (first | (with_reducible refine Ev.aV h1 ?_) | (with_reducible refine Ev.aP h1 ?_) | (with_reducible refine Ev.aK hii ?_) | (with_reducible refine Ev.aJ hii ?_) | refine' Ev.zP | refine' Ev.zS | refine' Ev.zK | ((with_reducible refine Ev.ca0 ?_);(first | refine Ev.ca (hM) ?_ | refine Ev.ca (hI) ?_ | refine Ev.ca (hO) ?_);conv=>whnf) | refine' Ev.zT | fail)
     refine' ael
 · have hii:¬ (i:Int) < ((aC L).length:Int):=by omega
   rw [List.drop_of_length_le (by omega)] at hf
   refine' aas
   refine' ael
theorem F9 {a b:List Sp} (h:jh a b = 0) (la:a.length <= 10000000) (lb:b.length <= 10000000) (ta:dw a <= 100000000) (tb:dw b <= 100000000) :
   aH (jR a b) = 0 /\ jV (jR a b) = jV a /\ outW (jR a b) = outW b:=by
 obtain ⟨h1,h2,h3⟩:=KE h
 obtain ⟨l1,l2⟩:=l7 h la lb ta
 have oa:=(qM.of h1 (by omega)).1
 have ob:=(qM.of h2 (by omega)).1
 have ea:=jf a
 have fa:=mV a oa.all
 have ba:=oa.bnd
 rw [aU (by omega)] at ea
 have eb:=jf b
 have fb:=mV b ob.all
 have bb:=ob.bnd
 rw [aU (by omega)] at eb
 have ib:=(qM.of h2 (by omega)).2
 have ia:=(qM.of h1 (by omega)).2
 obtain ⟨g1,g2,g3,g4,_⟩:=pG oa ob (by omega)
 obtain ⟨m1,m2⟩:=g1.ops.may (by omega)
 refine ⟨m1,by omega,?_⟩
 rw [jf,g4,eb]
 exact aU (by omega)
theorem fold_size:∀ (L:List (List Sp)) (b:List Sp),aH b = 0 -> b.length + gI L <= 10000000 -> dw b + gZ L <= 100000000 -> (dS b L).2 = (ig (outW b) L).2
 | [],b,_,_,_=>rfl
 | x :: L,b,hm,hl,hb=>by
   obtain ⟨l1,l2⟩:=dL x L
   rw [l1] at hl
   rw [l2] at hb
   simp only [dS,ig]
   by_cases h1:aH x = 0
   · rw [if_pos h1]
     by_cases h2:jV x = outW b
     · have he:jh b x = 0:=by unfold jh;rw [if_neg (by simpa using hm),if_neg (by simpa using h1),if_neg (by simpa using h2.symm)]
       obtain ⟨m1,m2,m3⟩:=F9 he (by omega) (by omega) (by omega) (by omega)
       obtain ⟨s1,s2⟩:=l7 he (by omega) (by omega) (by omega)
       rw [if_pos he,if_pos h2,fold_size L (jR b x) m1 (by omega) (by omega),m3]
     · have he:jh b x = 5:=by unfold jh;rw [if_neg (by simpa using hm),if_neg (by simpa using h1),if_pos (by simpa using fun e=>h2 (Eq.symm e))]
       rw [if_neg (by rw [he];decide),if_neg h2,he]
   · have he:jh b x = aH x:=by unfold jh;rw [if_neg (by simpa using hm),if_pos h1]
     rw [if_neg h1,if_neg (by rw [he];exact h1),he]
theorem sG {n:Int} (hn:0 <= n /\ n <= 1048576):aH (dU n) = 0 /\ outW (dU n) = n /\ jV (dU n) = n:=by
 unfold dU
 by_cases h:n = 0
 · rw [if_pos h,h];decide
 · rw [if_neg h]
   have e1:jV [(⟨1,n,⟨#[]⟩⟩:Sp)] = n:=by rw [PN];simp [bC,dV,qo];exact aU (by omega)
   have e2:outW [(⟨1,n,⟨#[]⟩⟩:Sp)] = n:=by rw [jf];simp [bC,dK,kW];exact aU (by omega)
   refine ⟨(gG _).2 ⟨fun s hs=>?_,by omega⟩,e2,e1⟩
   simp at hs;subst hs
   exact cu.keep (.inl rfl) (by simp only;omega) rfl
theorem P9 (n:Int) (hn:0 <= n /\ n <= 1048576) (L:List (List Sp)) (hl:gI L <= 9999999) (hb:gZ L <= 100000000) (hL:L.length <= 10000000) (hx:∀ x ∈ L,x.length <= 1000000000 /\ Small x) :
   aA env 105 [.v (.int .i64 n),.lst 1 (aC L)] (fun r hs=>r = vX (dU n) L /\ hs = []):=by
 have hK:=Dy n hn
 obtain ⟨k1,k2⟩:=sF n
 obtain ⟨k3,k4,k5⟩:=sG hn
 have hZ:=NK n hn L hx hL
 have hE:=fold_size L (dU n) k3 (by omega) (by omega)
 rw [k4] at hE
 unfold F8 at hZ
 have hrl:=aW L
 generalize hG:ig n L = G at *
 by_cases h0:G.2 = 0
 · rw [h0] at hZ hE
   refine Ev.fn [0,1,4,5,7,8,10,18,28] 0 [.tmp 4,.tmp 5] Tryd.func105 (RS _ rfl) ?_
   repeat' (first | refine' Ev.zP | refine' Ev.zS | refine' Ev.zK | ((with_reducible refine Ev.ca0 ?_);(first | refine Ev.ca (hZ) ?_ | refine Ev.ca (hK) ?_);conv=>whnf) | refine' Ev.zT | fail)
   refine Ev.loop (fun k s=>∃ (i c:Nat) (b:List Sp),s = ⟨[(1,.lst 1 (aC L)),(8,.lst 3 (bD b)),(10,.v (.int .i64 i))],[],c⟩ /\ k + i = L.length /\ dS b (L.drop i) = dS (dU n) L /\ b.length + gI (L.drop i) <= 10000000 /\ dw b + gZ (L.drop i) <= 100000000) ?_ ?_
   · refine Ev.zB ⟨L.length,0,?_,dU n,rfl,?_⟩
     exact ⟨by omega,rfl,by simp only [List.drop_zero];omega,by simp only [List.drop_zero];omega⟩
   rintro k s1 ⟨i,c,b,rfl,hk,hf,hl',hb'⟩
   by_cases hi:i < L.length
   · have hii:(i:Int) < ((aC L).length:Int):=by omega
     refine' afm
     have hC:=Vm b L[i] (by omega) (by omega) (by omega) (by omega) (fM (by omega)) (fM (by omega))
     have he:jh b L[i] = 0:=by
       refine Decidable.byContradiction fun hne=>?_
       simp only [dS,hne,if_false] at hf
       rw [<- hf] at hE
       exact hne hE
     refine' abl
   · have hii:¬ (i:Int) < ((aC L).length:Int):=by omega
     refine' aez
 · have hA:vX (dU n) L = .dB [nilA,.v (.int .i64 G.2)]:=by unfold vX;rw [hE,if_neg h0]
   rw [hA]
   refine Ev.fn [0,1,4,5,7,8,10,18,28] 0 [.tmp 4,.tmp 5] Tryd.func105 (RS _ rfl) ?_
   repeat' (first | (with_reducible refine Ev.aV h0 ?_) | (with_reducible refine Ev.aP h0 ?_) | refine' Ev.zP | refine' Ev.zS | refine' Ev.zK | ((with_reducible refine Ev.ca0 ?_);(first | refine Ev.ca (hZ) ?_ | refine Ev.ca (hK) ?_);conv=>whnf) | refine' Ev.zT | fail)
   exact ⟨rfl,rfl⟩
theorem aeO:∀ c,Tryd.f166.body = some c -> comp c = (.seq (.reg 0 [I.n 0 4 (I.si 0),I.n 1 5 (I.si 0)]) (.seq (.seq (.reg 1 [I.n 0 7 (I.mv 1),I.n 1 8 (I.c1 72 7 23),I.n 2 6 (I.sa 8)]) (.block 0 (.seq (.reg 2 [I.n 0 10 (I.mv 6),I.n 1 11 (I.bc .neq 30 10 0 30),I.n 2 9 (I.sa 11)]) (.cond (.tmp 9) (.seq (.reg 3 [I.n 0 12 (I.mv 6),I.n 1 4 (I.si 0),I.n 2 5 (I.sa 12)]) .ret) (.seq (.reg 4 [I.n 0 14 (I.mv 1),I.n 1 15 (I.c1 74 14 23),I.n 2 16 (I.mv 0),I.n 3 17 (I.bo .neq 3 15 16 3),I.n 4 13 (I.sa 17)]) (.cond (.tmp 13) (.seq (.reg 5 [I.n 0 4 (I.si 0),I.n 1 5 (I.si 5)]) .ret) .skip)))))) (.seq (.reg 6 [I.n 0 18 (I.mv 1),I.n 1 19 (I.c1 73 18 23),I.n 2 4 (I.sa 19),I.n 3 5 (I.si 0)]) .ret))):=by
 intro c h
 have:c = Tryd.f166.body.get rfl:=by rw [<- Option.some_inj,<- h];rfl
 rw [this];rfl
theorem aeP:∀ c,Tryd.f165.body = some c -> comp c = (.seq (.reg 0 [I.n 0 6 (I.si 0),I.n 1 7 (I.si 0)]) (.seq (.seq (.reg 1 [I.n 0 13 (I.mv 1),I.n 1 14 (I.ln 13 22),I.n 2 15 (.move (.const (Value.int .i64 0)))]) (.block 0 (.loop (.seq (.reg 2 [I.n 0 16 (I.bo .lss 3 15 14 3)]) (.seq (.cond (.tmp 16) .skip (.exit 0)) (.seq (.block 1 (.seq (.reg 3 [I.n 0 17 (I.ia 22 13 15),I.n 1 18 (I.ld 23 17),I.n 2 9 (I.sa 18)]) (.seq (.reg 4 [I.n 0 20 (I.mv 2),I.n 1 21 (I.mv 0),I.n 2 22 (I.mv 9),I.n 3 23 (.call { callee:=.value (.tmp 20),args:=#[.tmp 21,.tmp 22],argTypes:=#[3,23] }),I.n 4 19 (I.mv 23),I.n 5 24 (I.ex 19 0),I.n 6 25 (I.ex 19 1),I.n 7 10 (I.sa 24),I.n 8 11 (I.sa 25)]) (.seq (.seq (.reg 5 [I.n 0 26 (I.mv 11),I.n 1 27 (I.bc .neq 30 26 0 30)]) (.cond (.tmp 27) (.seq (.reg 6 [I.n 0 12 (I.si 0)]) (.seq (.reg 7 [I.n 0 28 (I.mv 12),I.n 1 29 (I.mv 11),I.n 2 6 (I.sa 28),I.n 3 7 (I.sa 29)]) .ret)) .skip)) (.reg 8 [I.n 0 30 (I.mv 10),I.n 1 0 (I.sa 30)]))))) (.reg 9 [I.n 0 31 (I.bc .add 3 15 1 3),I.n 1 15 (I.mv 31)]))))))) (.seq (.reg 10 [I.n 0 32 (I.mv 0),I.n 1 6 (I.sa 32),I.n 2 7 (I.si 0)]) .ret))):=by
 intro c h
 have:c = Tryd.f165.body.get rfl:=by rw [<- Option.some_inj,<- h];rfl
 rw [this];rfl
theorem aeQ:∀ c,Tryd.f157.body = some c -> comp c = (.seq (.reg 0 [I.n 0 4 (I.si 0),I.n 1 5 (I.si 0)]) (.seq (.seq (.reg 1 [I.n 0 9 (I.mv 0),I.n 1 10 (I.c1 111 9 3),I.n 2 8 (I.mv 10),I.n 3 11 (I.ex 8 0),I.n 4 12 (I.ex 8 1),I.n 5 6 (I.sa 11),I.n 6 7 (I.sa 12)]) (.seq (.reg 2 [I.n 0 13 (I.mv 7),I.n 1 14 (I.bc .neq 30 13 0 30)]) (.cond (.tmp 14) (.seq (.reg 3 [I.n 0 15 (I.mv 7),I.n 1 4 (I.si 0),I.n 2 5 (I.sa 15)]) .ret) .skip))) (.seq (.reg 4 [I.n 0 16 (I.mv 0),I.n 1 17 (I.mv 1),I.n 2 18 (.call { callee:=.value (.func 165),args:=#[.tmp 16,.tmp 17,.func 166],argTypes:=#[3,22,184] }),I.n 3 19 (I.ex 18 0),I.n 4 20 (I.ex 18 1),I.n 5 4 (I.sa 19),I.n 6 5 (I.sa 20)]) .ret))):=by
 intro c h
 have:c = Tryd.f157.body.get rfl:=by rw [<- Option.some_inj,<- h];rfl
 rw [this];rfl
def YI (n:Int) (x:List Sp):AV:=.dB [.v (.int .i64 (ig n [x]).1),.v (.int .i64 (ig n [x]).2)]
theorem aga{G:Prop}(h:G:=by (refine Ev.fn [0,1,4,5,6,9,13] 0 [.tmp 4,.tmp 5] Tryd.func166 (aeO _ rfl) ?_);all_goals(rcases(⟨_⟩:PLift _)with⟨h⟩;exact h)):G:=h
theorem Vs (n:Int) (x:List Sp) (hl:x.length <= 1000000000) (hs:Small x):aA env 166 [.v (.int .i64 n),.lst 3 (bD x)] (fun r hs=>r = YI n x /\ hs = []):=by
 have hM:=dW x hl hs
 have hI:=gy x hl
 have hO:=oP x hl hs
 unfold YI
 simp only [ig]
 by_cases h1:aH x = 0
 · rw [h1] at hM
   rw [if_pos h1]
   by_cases h2:sumW (fun s=>qo s.k s.n) x = n
   · rw [if_pos (show jV x = n from h2)]
     refine' aga
     repeat' (first | refine' Ev.zP | (with_reducible refine Ev.aK h2 ?_) | (with_reducible refine Ev.aJ h2 ?_) | refine' Ev.zS | refine' Ev.zK | ((with_reducible refine Ev.ca0 ?_);(first | refine Ev.ca (hM) ?_ | refine Ev.ca (hI) ?_ | refine Ev.ca (hO) ?_);conv=>whnf) | refine' Ev.zT | fail)
     exact ⟨rfl,rfl⟩
   · rw [if_neg (show ¬ jV x = n from h2)]
     refine' aga
     repeat' (first | refine' Ev.zP | (with_reducible refine Ev.aV h2 ?_) | (with_reducible refine Ev.aP h2 ?_) | refine' Ev.zS | refine' Ev.zK | ((with_reducible refine Ev.ca0 ?_);(first | refine Ev.ca (hM) ?_ | refine Ev.ca (hI) ?_ | refine Ev.ca (hO) ?_);conv=>whnf) | refine' Ev.zT | fail)
     exact ⟨rfl,rfl⟩
 · rw [if_neg h1]
   refine' aga
   repeat' (first | (with_reducible refine Ev.aV h1 ?_) | (with_reducible refine Ev.aP h1 ?_) | refine' Ev.zP | refine' Ev.zS | refine' Ev.zK | ((with_reducible refine Ev.ca0 ?_);(first | refine Ev.ca (hM) ?_ | refine Ev.ca (hI) ?_ | refine Ev.ca (hO) ?_);conv=>whnf) | refine' Ev.zT | fail)
   exact ⟨rfl,rfl⟩
theorem Qa (n:Int) (x:List Sp) (L:List (List Sp)):ig n (x :: L) = if (ig n [x]).2 = 0 then ig (ig n [x]).1 L else (0,(ig n [x]).2):=by
 by_cases h1:aH x = 0
 · by_cases h2:jV x = n
   · simp [ig,h1,h2]
   · simp [ig,h1,h2]
 · simp [ig,h1]
theorem Qb (L:List (List Sp)) (n:Int) (hL:L.length <= 10000000) (hb:∀ x ∈ L,x.length <= 1000000000 /\ Small x) :
   aA env 165 [.v (.int .i64 n),.lst 1 (aC L),.clo (.func 166) [] []] (fun r hs=>r = F8 n L /\ hs = []):=by
 have hrl:=aW L
 refine Ev.fn [0,1,2,6,7,9,10,11,12,13,14,15,16,27] 0 [.tmp 6,.tmp 7] Tryd.func165 (aeP _ rfl) ?_
 refine' Ev.zW
 refine Ev.loop (fun k s=>∃ (i c:Nat) (m:Int),s = ⟨[(0,.v (.int .i64 m)),(2,.clo (.func 166) [] []),(13,.lst 1 (aC L)),(14,.v (.int .i64 L.length)),(15,.v (.int .i64 i))],[],c⟩ /\ k + i = L.length /\ ig m (L.drop i) = ig n L) ?_ ?_
 · refine Ev.zB ⟨L.length,0,?_,n,rfl,?_⟩
   exact ⟨by omega,rfl⟩
 rintro k s1 ⟨i,c,m,rfl,hk,hf⟩
 by_cases hi:i < L.length
 · have hii:(i:Int) < (L.length:Int):=by omega
   refine' adn
   rw [List.drop_eq_getElem_cons hi,Qa] at hf
   obtain ⟨b1,b2⟩:=hb L[i] (List.getElem_mem hi)
   have hC:=Vs m L[i] b1 b2
   unfold YI at hC
   generalize ig m [L[i]] = G at *
   by_cases he:G.2 = 0
   · rw [he] at hC
     rw [if_pos he] at hf
     repeat' (first | refine' Ev.zP | (with_reducible refine Ev.aK hii ?_) | (with_reducible refine Ev.aJ hii ?_) | refine' Ev.zS | refine' Ev.zK | ((with_reducible refine Ev.ca0 ?_);(first | refine Ev.ca (hC) ?_);conv=>whnf) | refine' Ev.zT | fail)
     refine Ev.zA (k') ⟨i + 1,?_,G.1,rfl,?_⟩
     exact ⟨by omega,hf⟩
   · rw [if_neg he] at hf
     refine' acr
     refine' ael
 · have hii:¬ (i:Int) < (L.length:Int):=by omega
   rw [List.drop_of_length_le (by omega)] at hf
   refine' aas
   refine' ael
theorem NM (n:Int) (hn:0 <= n /\ n <= 1048576) (L:List (List Sp)) (hb:∀ x ∈ L,x.length <= 1000000000 /\ Small x) (hL:L.length <= 10000000) :
   aA env 157 [.v (.int .i64 n),.lst 1 (aC L)] (fun r hs=>r = F8 n L /\ hs = []):=by
 have hK:=F7 n hn
 have hF:=Qb L n hL hb
 unfold F8 at hF ⊢
 refine Ev.fn [0,1,4,5,7,14] 0 [.tmp 4,.tmp 5] Tryd.func157 (aeQ _ rfl) ?_
 refine' abx
 exact ⟨rfl,rfl⟩
theorem RU:∀ c,Tryd.f116.body = some c -> comp c = (.seq (.reg 0 [I.n 0 4 (I.si 0)]) (.seq (.seq (.reg 1 [I.n 0 8 (I.mv 0),I.n 1 9 (I.c1 72 8 23),I.n 2 5 (I.sa 9)]) (.seq (.reg 2 [I.n 0 10 (I.mv 5),I.n 1 11 (I.bc .neq 30 10 0 30)]) (.cond (.tmp 11) (.seq (.reg 3 [I.n 0 12 (I.mv 5),I.n 1 4 (I.sa 12)]) .ret) .skip))) (.seq (.reg 4 [I.n 0 14 (I.mv 0),I.n 1 15 (I.c1 74 14 23),I.n 2 16 (I.mv 1),I.n 3 17 (I.c2 157 15 16 3 22),I.n 4 13 (I.mv 17),I.n 5 18 (I.ex 13 0),I.n 6 19 (I.ex 13 1),I.n 7 6 (I.sa 18),I.n 8 7 (I.sa 19)]) (.seq (.reg 5 [I.n 0 20 (I.mv 7),I.n 1 4 (I.sa 20)]) .ret)))):=by
 intro c h
 have:c = Tryd.f116.body.get rfl:=by rw [<- Option.some_inj,<- h];rfl
 rw [this];rfl
def Zg (a:List Sp) (L:List (List Sp)):Int:=if aH a = 0 then (ig (jV a) L).2 else aH a
theorem Vt (a:List Sp) (L:List (List Sp)) (la:a.length <= 1000000000) (sa:Small a) (hb:∀ x ∈ L,x.length <= 1000000000 /\ Small x) (hL:L.length <= 10000000) :
   aA env 116 [.lst 3 (bD a),.lst 1 (aC L)] (fun r hs=>r = .v (.int .i64 (Zg a L)) /\ hs = []):=by
 have hM:=dW a la sa
 unfold Zg
 by_cases h1:aH a = 0
 · rw [if_pos h1]
   rw [h1] at hM
   obtain ⟨o1,o2⟩:=qM.of h1 la
   have hI:=gy a la
   have hn:0 <= jV a /\ jV a <= 1048576:=by
     have:=kH dV 1048576 a (fun s hs=>(o1.all s hs).dV)
     have:=o1.bnd
     omega
   have hZ:=NM (jV a) hn L hb hL
   unfold F8 at hZ
   refine Ev.fn [0,1,4,5,7,11] 0 [.tmp 4] Tryd.func116 (RU _ rfl) ?_
   repeat' (first | refine' Ev.zP | refine' Ev.zS | refine' Ev.zK | ((with_reducible refine Ev.ca0 ?_);(first | refine Ev.ca (hM) ?_ | refine Ev.ca (hI) ?_ | refine Ev.ca (hZ) ?_);conv=>whnf) | refine' Ev.zT | fail)
   exact ⟨rfl,rfl⟩
 · rw [if_neg h1]
   refine Ev.fn [0,1,4,5,7,11] 0 [.tmp 4] Tryd.func116 (RU _ rfl) ?_
   repeat' (first | (with_reducible refine Ev.aV h1 ?_) | (with_reducible refine Ev.aP h1 ?_) | refine' Ev.zP | refine' Ev.zS | refine' Ev.zK | ((with_reducible refine Ev.ca0 ?_);(first | refine Ev.ca (hM) ?_);conv=>whnf) | refine' Ev.zT | fail)
   exact ⟨rfl,rfl⟩
theorem YJ:∀ c,Tryd.f68.body = some c -> comp c = (.seq (.reg 0 [I.n 0 4 I.sn,I.n 1 5 (I.si 0)]) (.seq (.seq (.reg 1 [I.n 0 11 (I.mv 0),I.n 1 12 (I.mv 1),I.n 2 13 (I.c2 116 11 12 23 22),I.n 3 6 (I.sa 13)]) (.seq (.reg 2 [I.n 0 14 (I.mv 6),I.n 1 15 (I.bc .neq 30 14 0 30)]) (.cond (.tmp 15) (.seq (.reg 3 [I.n 0 16 (I.mv 6),I.n 1 4 I.sn,I.n 2 5 (I.sa 16)]) .ret) .skip))) (.seq (.reg 4 [I.n 0 17 (I.mv 0),I.n 1 18 (I.c1 35 17 23),I.n 2 7 (I.sa 18)]) (.seq (.seq (.reg 5 [I.n 0 19 (I.mv 1),I.n 1 20 (I.ln 19 22),I.n 2 21 (.move (.const (Value.int .i64 0)))]) (.block 0 (.loop (.seq (.reg 6 [I.n 0 22 (I.bo .lss 3 21 20 3)]) (.seq (.cond (.tmp 22) .skip (.exit 0)) (.seq (.block 1 (.seq (.reg 7 [I.n 0 23 (I.mv 21),I.n 1 8 (I.sa 23)]) (.seq (.reg 8 [I.n 0 24 (I.mv 1),I.n 1 25 (I.mv 8),I.n 2 26 (I.mv 8),I.n 3 27 (I.bc .add 3 26 1 3),I.n 4 28 (I.mv 8),I.n 5 29 (I.bc .add 3 28 1 3),I.n 6 30 (.slice 22 (.tmp 24) (some (.tmp 25)) (some (.tmp 27)) (some (.tmp 29))),I.n 7 31 (I.ln 30 22),I.n 8 32 (.move (.const (Value.int .i64 0)))]) (.block 2 (.loop (.seq (.reg 9 [I.n 0 33 (I.bo .lss 3 32 31 3)]) (.seq (.cond (.tmp 33) .skip (.exit 2)) (.seq (.block 3 (.seq (.reg 10 [I.n 0 34 (I.ia 22 30 32),I.n 1 35 (I.ld 23 34),I.n 2 10 (I.sa 35)]) (.reg 11 [I.n 0 37 (I.mv 7),I.n 1 38 (I.mv 10),I.n 2 39 (I.c2 36 37 38 23 23),I.n 3 36 (I.mv 39),I.n 4 40 (I.ex 36 0),I.n 5 41 (I.ex 36 1),I.n 6 7 (I.sa 40)]))) (.reg 12 [I.n 0 42 (I.bc .add 3 32 1 3),I.n 1 32 (I.mv 42)]))))))))) (.reg 13 [I.n 0 43 (I.bc .add 3 21 1 3),I.n 1 21 (I.mv 43)]))))))) (.seq (.reg 14 [I.n 0 44 (I.mv 7),I.n 1 4 (I.sa 44),I.n 2 5 (I.si 0)]) .ret))))):=by
 intro c h
 have:c = Tryd.f68.body.get rfl:=by rw [<- Option.some_inj,<- h];rfl
 rw [this];rfl
def sH:List Sp -> List (List Sp) -> List Sp
 | x,[]=>x
 | x,s :: L=>sH (qN x s) L
def ajL (a:List Sp) (L:List (List Sp)):AV:=.dB [if Zg a L = 0 then .lst 3 (bD (sH (norm a) L)) else nilA,.v (.int .i64 (Zg a L))]
theorem aeR {n:Int} {s:List Sp} {L:List (List Sp)} (h:(ig n (s :: L)).2 = 0):aH s = 0 /\ jV s = n /\ (ig (outW s) L).2 = 0:=by
 simp only [ig] at h
 by_cases h1:aH s = 0
 · rw [if_pos h1] at h
   by_cases h2:jV s = n
   · rw [if_pos h2] at h;exact ⟨h1,h2,h⟩
   · rw [if_neg h2] at h;simp at h
 · rw [if_neg h1] at h;exact absurd h h1
theorem YK {a b:List Sp} (h:uO a b = 0) (la:a.length <= 10000000) (lb:b.length <= 10000000) (hb:bC dK b <= 1048576) :
   aH (qN a b) = 0 /\ jV (qN a b) = outW b /\ (qN a b).length <= a.length + b.length /\ dw (qN a b) <= dw a:=by
 obtain ⟨h1,h2,h3⟩:=aeL h
 have oa:=(qM.of h1 (by omega)).1
 have ob:=(qM.of h2 (by omega)).1
 have hco:=FZ oa ob (YE h1 h2 la lb h3) hb
 have g4:=hco.2.2.2.2.2.2.2.2
 obtain ⟨g1,g2,g3,_⟩:=hco
 obtain ⟨m1,m2⟩:=g1.ops.may (by omega)
 have eb:=jf b
 have fb:0 <= bC dK b:=by have:=bI ob.all;omega
 rw [aU (by omega)] at eb
 exact ⟨m1,by omega,g4⟩
structure TI (a:List Sp) (L:List (List Sp)) (i:Nat) (x:List Sp):Prop where
 may:aH x = 0
 fit:(ig (jV x) (L.drop i)).2 = 0
 eq:sH x (L.drop i) = sH (norm a) L
 len:x.length + gI (L.drop i) <= 9999999
 tb:dw x <= 100000000
theorem TI.next {a:List Sp} {L:List (List Sp)} {i:Nat} {x:List Sp} (h:TI a L i x) (hi:i < L.length) (ho:∀ s ∈ L,aH s = 0 -> bC dK s <= 1048576):uO x L[i] = 0 /\ L[i].length <= 9999999 /\ TI a L (i + 1) (qN x L[i]):=by
 have hf:=h.fit
 have he:=h.eq
 have hl:=h.len
 have hm:=h.may
 rw [List.drop_eq_getElem_cons hi] at hf he hl
 obtain ⟨l1,l2⟩:=dL L[i] (L.drop (i + 1))
 rw [l1] at hl
 obtain ⟨f1,f2,f3⟩:=aeR hf
 have e0:uO x L[i] = 0:=by unfold uO;rw [if_neg (by simpa using hm),if_neg (by simpa using f1),if_neg (by simpa using f2.symm)]
 obtain ⟨m1,m2,m3,m4⟩:=YK e0 (by omega) (by omega) (ho _ (List.getElem_mem hi) f1)
 exact ⟨e0,by omega,m1,by rw [m2];exact f3,he,by omega,by have:=h.tb;omega⟩
theorem TI.first {a:List Sp} {L:List (List Sp)} (h:Zg a L = 0) (hl:a.length + gI L <= 9999999) (hb:dw a <= 100000000):TI a L 0 (norm a):=by
 unfold Zg at h
 by_cases h1:aH a = 0
 · rw [if_pos h1] at h
   obtain ⟨o1,o2⟩:=qM.of h1 (by omega)
   obtain ⟨n1,_,_,n4,_,n6,n7,_⟩:=o1.norm
   obtain ⟨m1,m2⟩:=n1.may (by omega)
   exact ⟨m1,by rw [m2,n4,<- o2];exact h,rfl,by rw [List.drop_zero];omega,by omega⟩
 · rw [if_neg h1] at h;exact absurd h h1
theorem YL {x:List Sp} {L:List (List Sp)} (h:x ∈ L):x.length <= gI L:=by
 induction L with
 | nil=>simp at h
 | cons y L ih =>
   rw [(dL y L).1]
   rcases List.mem_cons.1 h with rfl | h
   · omega
   · have:=ih h;omega
theorem ajM {es:List (List AV)} {x:List AV} {F:List AV -> Prop} (h:es = [x]) (k:F x):Ev.D5 es (Int.toNat 0) F:=by
 subst h;exact k
theorem YM (a:List Sp) (L:List (List Sp)) (hl:a.length + gI L <= 9999999) (ha:dw a <= 100000000) (hb:∀ x ∈ L,dw x <= 100000000) (hL:L.length <= 10000000) (ho:∀ s ∈ L,aH s = 0 -> bC dK s <= 1048576) :
   aA env 68 [.lst 3 (bD a),.lst 1 (aC L)] (fun r hs=>r = ajL a L /\ hs = []):=by
 have hrl:=aW L
 have hxl:∀ x ∈ L,x.length <= 1000000000 /\ Small x:=fun x hx=>⟨by have:=YL hx;omega,fM (by have:=hb x hx;omega)⟩
 have hM:=Vt a L (by omega) (fM (by omega)) hxl hL
 unfold ajL
 by_cases h0:Zg a L = 0
 · rw [if_pos h0,h0]
   rw [h0] at hM
   have hN:=Aw a (by omega) (by omega)
   refine Ev.fn [0,1,4,5,6,7,8,10,15,20,21,22,30,31,32,33] 0 [.tmp 4,.tmp 5] Tryd.func68 (YJ _ rfl) ?_
   repeat' (first | refine' Ev.zP | refine' Ev.zS | refine' Ev.zK | ((with_reducible refine Ev.ca0 ?_);(first | refine Ev.ca (hM) ?_ | refine Ev.ca (hN) ?_);conv=>whnf) | refine' Ev.zT | fail)
   refine Ev.loop (fun k s=>∃ (i c:Nat) (x:List Sp),s = ⟨[(1,.lst 1 (aC L)),(7,.lst 3 (bD x)),(20,.v (.int .i64 L.length)),(21,.v (.int .i64 i))],[],c⟩ /\ k + i = L.length /\ TI a L i x) ?_ ?_
   · refine Ev.zB ⟨L.length,0,?_,norm a,rfl,?_⟩
     exact ⟨by omega,TI.first h0 hl ha⟩
   rintro k s1 ⟨i,c,x,rfl,hk,hT⟩
   by_cases hi:i < L.length
   · have hii:(i:Int) < (L.length:Int):=by omega
     refine' adn
     have hw:IntKind.i64.wrap ((i:Int) + 1) = ((i + 1:Nat):Int):=by rw [aU (by omega)];omega
     obtain ⟨e0,l0,hN'⟩:=hT.next hi ho
     have hcut:List.take ((IntKind.i64.wrap ((i:Int) + 1)).toNat - (i:Int).toNat) (List.drop (i:Int).toNat (aC L)) = [[AV.lst 3 (bD L[i])]]:=by
       rw [hw,Int.toNat_natCast,Int.toNat_natCast,show i + 1 - i = 1 by omega,List.drop_eq_getElem_cons (by rw [hrl];exact hi)]
       simp [aC]
     have hp1:(0:Int) < ((List.take ((IntKind.i64.wrap ((i:Int) + 1)).toNat - (i:Int).toNat) (List.drop (i:Int).toNat (aC L))).length:Int):=by rw [hcut];first | (show (0:Int) < 1;omega) | (show ¬ IntKind.i64.wrap (0 + 1) < (1:Int);decide)
     have hp2:¬ IntKind.i64.wrap (0 + 1) < ((List.take ((IntKind.i64.wrap ((i:Int) + 1)).toNat - (i:Int).toNat) (List.drop (i:Int).toNat (aC L))).length:Int):=by rw [hcut];first | (show (0:Int) < 1;omega) | (show ¬ IntKind.i64.wrap (0 + 1) < (1:Int);decide)
     have hmem:=List.getElem_mem hi
     have hC:=YG x L[i] (by have:=hT.len;omega) (by omega) hT.tb (hb _ hmem) (fM (by have:=hT.tb;omega)) (fM (by have:=hb _ hmem;omega)) (ho _ hmem)
     rw [RQ e0] at hC
     repeat' (first | refine' Ev.zP | (with_reducible refine Ev.aK hii ?_) | (with_reducible refine Ev.aJ hii ?_) | (with_reducible refine Ev.aK hp1 ?_) | (with_reducible refine Ev.aJ hp1 ?_) | (with_reducible refine Ev.aV hp2 ?_) | (with_reducible refine Ev.aP hp2 ?_) | refine' Ev.zS | refine' Ev.zK | (with_reducible refine Ev.oK 2 ?_) | ((refine ajM hcut ?_);conv=>whnf) | ((with_reducible refine Ev.ca0 ?_);(first | refine Ev.ca (hC) ?_);conv=>whnf) | refine' Ev.zT | fail)
     refine Ev.zA (k') ⟨i + 1,?_,qN x L[i],rfl,?_⟩
     exact ⟨by omega,hN'⟩
   · have hii:¬ (i:Int) < (L.length:Int):=by omega
     have he:=hT.eq
     rw [List.drop_of_length_le (by omega)] at he
     refine' aas
     exact ⟨by rw [<- he];rfl,rfl⟩
 · rw [if_neg h0]
   refine Ev.fn [0,1,4,5,6,7,8,10,15,20,21,22,30,31,32,33] 0 [.tmp 4,.tmp 5] Tryd.func68 (YJ _ rfl) ?_
   repeat' (first | (with_reducible refine Ev.aV h0 ?_) | (with_reducible refine Ev.aP h0 ?_) | refine' Ev.zP | refine' Ev.zS | refine' Ev.zK | ((with_reducible refine Ev.ca0 ?_);(first | refine Ev.ca (hM) ?_);conv=>whnf) | refine' Ev.zT | fail)
   exact ⟨rfl,rfl⟩
abbrev AU (t:ByteArray):Int:=aN t.data.toList
def newE (t:ByteArray):Int:=if AU t < 0 then 3 else if 1048576 < AU t then 4 else 0
def NP (w:List Sp) (n:Int):Int:=if aH w ≠ 0 then aH w else if jV w ≠ n then 5 else if 1048576 < outW w then 4 else 0
def aeS (t:ByteArray) (Ls:List (List Sp)) (r:Int):AV:=if 0 <= r /\ r <= Ls.length then allA t (Ls.take r.toNat) else .dB [.v (.string ⟨#[]⟩),.v (.int .i64 6)]
theorem sJ (Ls:List (List Sp)) (a b:Nat):List.take b (List.drop a (aC Ls)) = aC ((Ls.drop a).take b):=by simp [aC]
theorem I5 (Ls:List (List Sp)) (i:Nat):gI (Ls.drop i) <= gI Ls:=by
 induction Ls generalizing i with
 | nil=>simp
 | cons x L ih =>
   cases i with
   | zero=>exact Nat.le_refl _
   | succ i=>rw [List.drop_succ_cons,(dL x L).1];have:=ih i;omega
def alC (Ls:List (List Sp)) (Ns:List Int) (r s:Int):AV:=if 0 <= r /\ r <= s /\ s <= Ls.length then vX (dU (Ns.getD r.toNat 0)) ((Ls.drop r.toNat).take (s.toNat - r.toNat)) else .dB [nilA,.v (.int .i64 6)]
theorem I7 (Ls:List (List Sp)) (i:Nat):gI (Ls.take i) <= gI Ls /\ gZ (Ls.take i) <= gZ Ls:=by
 induction Ls generalizing i with
 | nil=>simp
 | cons x L ih =>
   cases i with
   | zero=>rw [List.take_zero];exact ⟨Nat.zero_le _,Nat.zero_le _⟩
   | succ i=>rw [List.take_succ_cons,(dL x L).1,(dL x L).2,(dL x _).1,(dL x _).2];have:=ih i;omega
theorem I8 (Ls:List (List Sp)) (i:Nat):gZ (Ls.drop i) <= gZ Ls:=by
 induction Ls generalizing i with
 | nil=>simp
 | cons x L ih =>
   cases i with
   | zero=>exact Nat.le_refl _
   | succ i=>rw [List.drop_succ_cons,(dL x L).2];have:=ih i;omega
end Go.Proofs.YtadlnaljicikfaaDoor.aB
namespace Go.Proofs.YtadlnaljicikfaaDoor.aB
open Go Go.Lib
namespace Ev
section
variable {E:Env} {nt:Nat}
end
end Ev
end Go.Proofs.YtadlnaljicikfaaDoor.aB
namespace Go.Proofs.YtadlnaljicikfaaDoor.aB
open Go
set_option maxRecDepth 100000
attribute [local irreducible] Ev.iE Ev.iG Ev.bW Ev.runK Ev.bY Ev.gq Ev.Side Ev.Wp Ev.Again Ev.To Ev.Fin
open Go.Lib Go.RowKit
def sK (n:Nat):List Int:=(List.range (n + 1)).map fun i:Nat=>(i:Int)
theorem CS (n:Nat):(sK n).length = n + 1:=by simp [sK]
end Go.Proofs.YtadlnaljicikfaaDoor.aB
namespace Go.Proofs.YtadlnaljicikfaaDoor.aB
open Go Go.Lib
namespace Ev
end Ev
theorem iM.mono {E:Env} {N:Nat} {f:FuncId} {args:List AV} {hp:List (Nat × aG)} {R R':AV -> List (Nat × aG) -> Prop} (hc:iM E N f args hp R) (h:∀ r hp1,R r hp1 -> R' r hp1):iM E N f args hp R':=by
 intro M0 w0 c M J w vs inv hn hr
 obtain ⟨a,b⟩:=hc M0 w0 c M J w vs inv hn hr
 refine ⟨a,b.mono ?_⟩
 rintro e w' ⟨v,r,hp1,c',M',J',x1,x2,x3⟩
 exact ⟨v,r,hp1,c',M',J',x1,h r hp1 x2,x3⟩
section
variable {nm ct:Nat} {hp:List (Nat × aG)} {K:AV -> List (Nat × aG) -> Nat -> Prop} (B L S:Nat) (F:List (Nat × aG)) {vb vl fl vs fs:Nat} {Ls:List (List Sp)} {Ns:List Int} {t:ByteArray}
end
end Go.Proofs.YtadlnaljicikfaaDoor.aB
namespace Go.Proofs.YtadlnaljicikfaaDoor.aB
open Go
set_option maxRecDepth 100000
attribute [local irreducible] Ev.iE Ev.iG Ev.bW Ev.runK Ev.bY Ev.gq Ev.Side Ev.Wp Ev.Again Ev.To Ev.Fin
open Go.Lib Go.RowKit
namespace Ev
theorem ajN {E:Env} {nt:Nat} (id q r sz ty j0:Nat) {l:List Ins} {K:Exit -> St -> Prop} {sl:List (Nat × AV)} {hp:List (Nat × aG)} {ct v0 Yw n0:Nat} {cs:List AV} (hg:get hp q = some ⟨n0,Yw,v0,0,true,[cs]⟩) (hn:cs[j0]? = some nilA) (hr:get hp r = none)
 (h:Wp E nt (.reg id l) K ⟨sl,(q,⟨n0,Yw,v0,0,true,[cs.set j0 (.own r ct 0 0)]⟩) :: (r,⟨sz,ty,ct,0,false,[]⟩) :: hp,ct + 8⟩):Wp E nt (.reg id l) K ⟨sl,hp,ct⟩:=Ny q r sz ty j0 hg hn hr h
end Ev
end Go.Proofs.YtadlnaljicikfaaDoor.aB
namespace Go.Proofs.YtadlnaljicikfaaDoor.aB
open Go Go.Lib
theorem YN (l:List (List Sp)) (n:Int):Az n l ≠ []:=by intro h;have:=qx l n;rw [h] at this;simp at this
theorem NQ:∀ (l:List (List Sp)) (n:Int) (h:Az n l ≠ []),(Az n l).getLast h = dY n l
 | [],n,h=>rfl
 | x :: l,n,h=>by
   show (n :: Az (outW x) l).getLast _ = _
   rw [List.getLast_cons (YN l _),NQ l];rfl
theorem RV:∀ (l:List (List Sp)) (n:Int) (x:List Sp),Az n (l ++ [x]) = Az n l ++ [outW x]
 | [],n,x=>rfl
 | y :: l,n,x=>by show n :: Az (outW y) (l ++ [x]) = _;rw [RV l];rfl
theorem uF:∀ (l:List (List Sp)) (n:Int) (i:Nat),i <= l.length -> (Az n l).getD i 0 = dY n (l.take i)
 | l,n,0,_=>by cases l <;> rfl
 | [],n,i + 1,h=>by simp at h
 | x :: l,n,i + 1,h=>by
   show (Az (outW x) l).getD i 0 = dY (outW x) (l.take i)
   exact uF l (outW x) i (by simpa using h)
theorem NR:∀ (l:List (List Sp)) (n:Int) (x:List Sp),dY n (l ++ [x]) = outW x
 | [],n,x=>rfl
 | y :: l,n,x=>NR l (outW y) x
theorem xw {n:Int} {x:List Sp} (h:iq n x = 0):aH x = 0 /\ jV x = n /\ outW x <= 1048576 /\ GH x = true /\ NP x n = 0:=by
 unfold iq at h
 by_cases m0:aH x = 0
 · rw [if_neg (by simpa using m0)] at h
   by_cases m1:jV x = n
   · rw [if_neg (by simpa using m1)] at h
     by_cases m2:1048576 < outW x
     · rw [if_pos m2] at h;cases h
     · rw [if_neg m2] at h
       by_cases m3:GH x = true
       · exact ⟨m0,m1,by omega,m3,by unfold NP;rw [if_neg (by simpa using m0),if_neg (by simpa using m1),if_neg m2]⟩
       · rw [if_neg m3] at h;cases h
   · rw [if_pos m1] at h;cases h
 · rw [if_pos m0] at h;exact absurd h m0
theorem I9 {n:Int} {l:List (List Sp)} (h:dA n l = 0) {i:Nat} (hi:i < l.length):iq (dY n (l.take i)) l[i] = 0:=by
 have:=(gX h i).2
 rw [List.drop_eq_getElem_cons hi] at this
 simp only [dA] at this
 by_cases h0:iq (dY n (l.take i)) l[i] = 0
 · exact h0
 · rw [if_neg h0] at this;exact absurd this h0
theorem Ja {n:Int} {l:List (List Sp)} (h:dA n l = 0) {x:List Sp} (hx:x ∈ l):∃ m,iq m x = 0:=by
 obtain ⟨i,hi,rfl⟩:=List.getElem_of_mem hx
 exact ⟨_,I9 h hi⟩
theorem aeT {x:List Sp} (h:aH x = 0) (hl:x.length <= 1000000000) (ho:bC dK x <= 9000000000000000000):0 <= outW x /\ outW x = bC dK x:=by
 have o:=(qM.of h hl).1
 have e1:=jf x
 have e2:0 <= bC dK x:=by have:=bI o.all;omega
 rw [aU (by omega)] at e1
 omega
theorem yR {x:List Sp} (h:aH x = 0) (hl:x.length <= 10000000) (hb:dw x <= 100000000):0 <= outW x /\ outW x = bC dK x:=by
 have o:=(qM.of h (by omega)).1
 have f:=mV x o.all
 have b:=o.bnd
 exact aeT h (by omega) (by omega)
theorem Jb:∀ (l:List (List Sp)) (n:Int),dA n l = 0 -> (ig n l).2 = 0
 | [],n,_=>rfl
 | x :: l,n,h=>by
   simp only [dA] at h
   by_cases h0:iq n x = 0
   · rw [if_pos h0] at h
     obtain ⟨a,b,c,d,e⟩:=xw h0
     simp only [ig]
     rw [if_pos a,if_pos b]
     exact Jb l _ h
   · rw [if_neg h0] at h;exact absurd h h0
end Go.Proofs.YtadlnaljicikfaaDoor.aB
namespace Go.Proofs.YtadlnaljicikfaaDoor.aB
open Go
set_option maxRecDepth 100000
attribute [local irreducible] Ev.iE Ev.iG Ev.bW Ev.runK Ev.bY Ev.gq Ev.Side Ev.Wp Ev.Again Ev.To Ev.Fin
open Go.Lib Go.RowKit
theorem TI.last {a:List Sp} {L:List (List Sp)} (ho:∀ s ∈ L,aH s = 0 -> bC dK s <= 1048576):∀ (k i:Nat) (x:List Sp),k + i = L.length -> TI a L i x -> ∃ y,TI a L L.length y
 | 0,i,x,hk,h=>by
                        obtain rfl:i = L.length:=by omega
                        exact ⟨x,h⟩
 | k + 1,i,x,hk,h=>TI.last ho k (i + 1) _ (by omega) (h.next (by omega) ho).2.2
theorem YO {a:List Sp} {L:List (List Sp)} (h:Zg a L = 0) (hl:a.length + gI L <= 9999999) (hb:dw a <= 100000000) (ho:∀ s ∈ L,aH s = 0 -> bC dK s <= 1048576):(sH (norm a) L).length <= 9999999 /\ dw (sH (norm a) L) <= 100000000 /\ aH (sH (norm a) L) = 0:=by
 obtain ⟨y,hy⟩:=TI.last ho L.length 0 _ (by omega) (TI.first h hl hb)
 have e:=hy.eq
 rw [List.drop_length] at e
 have e:y = sH (norm a) L:=e
 rw [<- e]
 exact ⟨by have:=hy.len;omega,hy.tb,hy.may⟩
theorem Eo {k:Nat}:∀ (l:List (List Sp)),(∀ x ∈ l,x.length <= k) -> gI l <= k * l.length
 | [],_=>Nat.zero_le _
 | x :: l,h=>by
   rw [(dL x l).1,List.length_cons,Nat.mul_succ]
   have:=Eo l (fun y hy=>h y (by simp [hy]))
   have:=h x (by simp)
   omega
structure FH (c:Lg) (n0:Int):Prop where
 seg:dA n0 c.ah = 0
 val:validD c.base.data.toList = true
 cnt:aN c.base.data.toList = n0
 n0b:0 <= n0 /\ n0 <= 1048576
 nl:c.ah.length <= 20
 each:∀ x ∈ c.ah,x.length <= 13 /\ dw x <= 312
 bs:c.base.size <= 4000
 tot:gV c.ah <= 10000
theorem YP (t:ByteArray) (l:List (List Sp)):∀ x ∈ (jX t l).ah,x.length <= 13 /\ dw x <= 312:=by
 intro x hx
 refine' afq
 have hcc:=BX (t.extract 0 (min t.size 20))
 have hcw:=J5 l (n:=aN (lM (t.extract 0 (min t.size 20))).data.toList) (by omega)
 have hx:x ∈ (Ve l (aN (lM (t.extract 0 (min t.size 20))).data.toList)).map norm:=hx
 rw [List.mem_map] at hx
 obtain ⟨z,hz,rfl⟩:=hx
 obtain ⟨y,m,rfl,m1,m2⟩:=Ei hcw.1 z hz
 exact (MR y (by omega)).2
theorem YQ (t:ByteArray) (l:List (List Sp)):∃ n0,FH (jX t l) n0:=by
 obtain ⟨g1,g2,g3,g4,g5⟩:=NH t l
 obtain ⟨h1,h2,h3,h4,h5⟩:=dJ g1
 have hc:0 <= aN (jX t l).base.data.toList:=by
   unfold nP at g1
   exact Decidable.byContradiction fun h=>by rw [if_pos (by omega)] at g1;cases g1
 exact ⟨_,h5,h1,rfl,⟨hc,h2⟩,g5,YP t l,g3,g4⟩
theorem FH.lens {c:Lg} {n0:Int} (h:FH c n0):gI c.ah <= 260:=by
 have:=Eo (k:=13) c.ah (fun x hx=>(h.each x hx).1)
 have:=h.nl
 omega
theorem FH.ends {c:Lg} {n0:Int} (h:FH c n0) (i:Nat) (hi:i <= c.ah.length):0 <= dY n0 (c.ah.take i) /\ dY n0 (c.ah.take i) <= 1048576:=by
 cases i with
 | zero=>rw [List.take_zero];exact h.n0b
 | succ i =>
   have hlt:i < c.ah.length:=hi
   rw [List.take_succ_eq_append_getElem hlt,NR]
   obtain ⟨a,b,c',d,e⟩:=xw (I9 h.seg hlt)
   obtain ⟨e1,e2⟩:=h.each _ (List.getElem_mem hlt)
   exact ⟨(yR a (by omega) (by omega)).1,c'⟩
theorem FH.out {c:Lg} {n0:Int} (h:FH c n0):∀ x ∈ c.ah,aH x = 0 -> bC dK x <= 1048576:=fun x hx _=>by
 obtain ⟨m,hm⟩:=Ja h.seg hx
 obtain ⟨a,b,c',d,e⟩:=xw hm
 obtain ⟨e1,e2⟩:=h.each x hx
 have:=(yR a (by omega) (by omega)).2
 omega
theorem FH.szs {c:Lg} {n0:Int} (h:FH c n0):∀ n ∈ Az n0 c.ah,0 <= n /\ n <= 1048576:=fun n hn=>by
 obtain ⟨i,hi,rfl⟩:=List.getElem_of_mem hn
 rw [qx] at hi
 have e:=uF c.ah n0 i (by omega)
 rw [List.getD_eq_getElem?_getD,List.getElem?_eq_getElem (by rw [qx];exact hi)] at e
 have e:(Az n0 c.ah)[i]'(by rw [qx];exact hi) = _:=e
 rw [e]
 exact h.ends i (by omega)
end Go.Proofs.YtadlnaljicikfaaDoor.aB
namespace Go.Proofs.YtadlnaljicikfaaDoor.aB
open Go Go.Lib
theorem AX {l:List Sp} {t:ByteArray} (h:mP l t = 0) (hl:l.length <= 1000000000):fQ l (pts t.data.toList) = lD (dO l) (pts t.data.toList):=by
 obtain ⟨h1,h2,h3⟩:=o9 h
 obtain ⟨o,e⟩:=qM.of h1 hl
 exact FT l _ o.all (by omega)
theorem Vu {b x:List Sp} {t:ByteArray} (hb:mP b t = 0) (hc:jh b x = 0) (lb:b.length <= 10000000) (lx:x.length <= 10000000) (tb:dw b <= 100000000) (tx:dw x <= 100000000) (ht:t.size <= 100000000) :
   mP (jR b x) t = 0 /\ mP x (rM b t) = 0 /\ rM (jR b x) t = rM x (rM b t):=by
 obtain ⟨h1,h2,h3⟩:=o9 hb
 obtain ⟨c1,c2,c3⟩:=KE hc
 obtain ⟨m1,m2,m3⟩:=F9 hc lb lx tb tx
 obtain ⟨s1,s2⟩:=l7 hc lb lx tb
 obtain ⟨f1,f2,f3,f4⟩:=CB hb (by omega) (by omega)
 obtain ⟨ob,eb⟩:=qM.of c1 (by omega)
 obtain ⟨ox,ex⟩:=qM.of c2 (by omega)
 have g1:mP (jR b x) t = 0:=yL m1 h2 (by rw [m2];exact h3)
 have g2:mP x (rM b t) = 0:=yL c2 f1 (by rw [f3,c3])
 refine ⟨g1,g2,?_⟩
 have e1:rM (jR b x) t = txt (fQ (jR b x) (pts t.data.toList)):=if_pos g1
 have e2:rM x (rM b t) = txt (fQ x (pts (rM b t).data.toList)):=if_pos g2
 rw [e1,e2,AX g1 (by omega),AX g2 (by omega),f2,AX hb (by omega)]
 have so:=jf b
 have fo:=mV b ob.all
 have bo:=ob.bnd
 rw [aU (by omega)] at so
 have hm:=(pG ob ox (by omega)).2.1
 have zb:=bI ob.all
 have zx:=bI ox.all
 rw [hm,rU _ _ _ (by omega) (by omega)]
theorem yS:∀ (L:List (List Sp)) (b:List Sp) (t:ByteArray),mP b t = 0 -> dA (outW b) L = 0 -> b.length + gI L <= 1000000 -> dw b + gZ L <= 1000000 -> t.size <= 1000000 ->
   (dS b L).2 = 0 /\ mP (dS b L).1 t = 0 /\ jK L (rM b t) = (0,rM (dS b L).1 t) /\ outW (dS b L).1 = dY (outW b) L /\ (dS b L).1.length <= b.length + gI L /\ dw (dS b L).1 <= dw b + gZ L
 | [],b,t,hb,hs,hl,ht,hz=>⟨rfl,hb,rfl,rfl,Nat.le_add_right ..,Nat.le_add_right ..⟩
 | x :: L,b,t,hb,hs,hl,ht,hz=>by
   obtain ⟨l1,l2⟩:=dL x L
   rw [l1] at hl ⊢
   rw [l2] at ht ⊢
   simp only [dA] at hs
   by_cases h0:iq (outW b) x = 0
   · rw [if_pos h0] at hs
     obtain ⟨s0,s1,s2,s3,s4⟩:=xw h0
     have m1:=(o9 hb).1
     have hc:jh b x = 0:=by unfold jh;rw [if_neg (by simpa using m1),if_neg (by simpa using s0),if_neg (by simpa using s1.symm)]
     obtain ⟨g1,g2,g3⟩:=Vu hb hc (by omega) (by omega) (by omega) (by omega) (by omega)
     obtain ⟨c1,c2,c3⟩:=F9 hc (by omega) (by omega) (by omega) (by omega)
     obtain ⟨d1,d2⟩:=l7 hc (by omega) (by omega) (by omega)
     have hf:dS b (x :: L) = dS (jR b x) L:=by simp only [dS];rw [if_pos hc]
     obtain ⟨i1,i2,i3,i4,i5,i6⟩:=yS L (jR b x) t g1 (by rw [c3];exact hs) (by omega) (by omega) hz
     rw [hf]
     refine ⟨i1,i2,?_,by rw [i4,c3];rfl,by omega,by omega⟩
     simp only [jK]
     rw [if_pos g2,<- g3];exact i3
   · rw [if_neg h0] at hs;exact absurd hs h0
theorem Dz {t:ByteArray} {m:Int} (hv:validD t.data.toList = true) (hc:aN t.data.toList = m) (hm:0 <= m /\ m <= 1048576):mP (dU m) t = 0 /\ rM (dU m) t = t:=by
 obtain ⟨k1,k2,k3⟩:=sG hm
 have hp:=bU hv
 have h0:mP (dU m) t = 0:=yL k1 hv (by rw [k3];omega)
 refine ⟨h0,?_⟩
 have e1:rM (dU m) t = txt (fQ (dU m) (pts t.data.toList)):=if_pos h0
 rw [e1]
 unfold dU
 by_cases hz:m = 0
 · have:pts t.data.toList = []:=List.eq_nil_of_length_eq_zero (by omega)
   rw [if_pos hz]
   have e:=uD hv
   rw [this] at e
   exact e
 · rw [if_neg hz]
   show txt ((pts t.data.toList).take m.toNat ++ []) = t
   rw [List.append_nil,List.take_of_length_le (by omega),uD hv]
end Go.Proofs.YtadlnaljicikfaaDoor.aB
namespace Go.Proofs.YtadlnaljicikfaaDoor.aB
open Go
set_option maxRecDepth 100000
attribute [local irreducible] Ev.iE Ev.iG Ev.bW Ev.runK Ev.bY Ev.gq Ev.Side Ev.Wp Ev.Again Ev.To Ev.Fin
open Go.Lib Go.RowKit
theorem sN {l:List Int} (h:rises l = true):l.length <= 65536 /\ 1 <= l.length:=by
 unfold rises at h
 simp only [Bool.and_eq_true,decide_eq_true_eq,Bool.not_eq_true',List.isEmpty_eq_false_iff] at h
 exact ⟨h.1.2,List.length_pos_iff.2 h.1.1⟩
theorem ajO:∀ c,Tryd.f76.body = some c -> comp c = (.seq (.reg 0 [I.n 0 4 (I.sb false)]) (.seq (.seq (.reg 1 [I.n 0 6 (I.mv 0),I.n 1 7 (I.ln 6 25),I.n 2 8 (I.mv 1),I.n 3 9 (I.ln 8 25),I.n 4 10 (I.bo .neq 3 7 9 3)]) (.cond (.tmp 10) (.seq (.reg 2 [I.n 0 4 (I.sb false)]) .ret) .skip)) (.seq (.seq (.reg 3 [I.n 0 5 (I.si 0)]) (.block 0 (.loop (.seq (.seq (.reg 4 [I.n 0 11 (I.mv 5),I.n 1 12 (I.mv 0),I.n 2 13 (I.ln 12 25),I.n 3 14 (I.bo .lss 3 11 13 3)]) (.cond (.tmp 14) .skip (.exit 0))) (.seq (.block 1 (.seq (.draw 6 [I.n 0 17 (I.mv 0),I.n 1 18 (I.mv 5),I.n 2 19 (I.ia 25 17 18),I.n 3 20 (I.ld 3 19),I.n 4 21 (I.mv 1),I.n 5 22 (I.mv 5),I.n 6 23 (I.ia 25 21 22),I.n 7 24 (I.ld 3 23),I.n 8 25 (I.bo .neq 3 20 24 3)] [[],[],[0,1],[2],[],[],[4,5],[6],[3,7]]) (.cond (.tmp 25) (.seq (.reg 7 [I.n 0 4 (I.sb false)]) .ret) .skip))) (.reg 5 [I.n 0 15 (I.mv 5),I.n 1 16 (I.bc .add 3 15 1 3),I.n 2 5 (I.sa 16)])))))) (.seq (.reg 8 [I.n 0 4 (I.sb true)]) .ret)))):=by
 intro c h
 have:c = Tryd.f76.body.get rfl:=by rw [<- Option.some_inj,<- h];rfl
 rw [this];rfl
theorem KF (l m:List Int) (hl:l.length <= 1000000000):aA env 76 [.lst 1 (ints l),.lst 1 (ints m)] (fun r hs=>r = .v (.bool (decide (l = m))) /\ hs = []):=by
 have hsl:=bP l
 have hsm:=bP m
 refine Ev.fn [0,1,4,5,10,14,25] 0 [.tmp 4] Tryd.func76 (ajO _ rfl) ?_
 refine' aay
 rotate_left
 · refine' agc
 have hlen:l.length = m.length:=by omega
 refine Ev.loop (fun k s=>∃ i:Nat,s = ⟨[(0,.lst 1 (ints l)),(1,.lst 1 (ints m)),(4,.v (.bool false)),(5,.v (.int .i64 i))],[],0⟩ /\ k + i = l.length /\ l.take i = m.take i) ?_ ?_
 · refine' ad4
 rintro k s1 ⟨i,rfl,hk,hf⟩
 refine' aay
 · rename_i heq
   have hm':i < m.length:=by omega
   exact Ev.again (k - 1) ⟨[(0,_),(1,_),(4,_),(5,.v (.int .i64 ((i + 1:Nat):Int)))],[],0⟩ (by omega) ⟨rfl,rfl,rfl,Ev.eG rfl (by rw [Ev.wrap64];omega),trivial⟩ trivial (Nat.le_refl _) ⟨i + 1,rfl,by omega,by
     rw [List.take_succ_eq_append_getElem (by omega),List.take_succ_eq_append_getElem hm',hf,heq]⟩
 · refine' ae8
 · refine' adk
theorem ajP:∀ c,Tryd.f59.body = some c -> comp c = (.seq (.reg 0 [I.n 0 1 (.box 27 (.tmp 0)),I.n 1 2 (.alloc 27)]) (.seq (.draw 1 [I.n 0 8 (I.fa 27 1 0),I.n 1 9 (I.ld 9 8),I.n 2 10 (I.fa 27 1 0),I.n 3 11 (I.ld 9 10),I.n 4 12 (I.ln 11 9),I.n 5 13 (.call { callee:=.builtin .min,args:=#[.tmp 12,.const (Value.int .i64 60)],argTypes:=#[3,3] }),I.n 6 14 (.slice 9 (.tmp 9) none (some (.tmp 13)) none),I.n 7 15 (I.fa 27 1 1),I.n 8 16 (I.ld 25 15),I.n 9 17 (I.fa 27 1 1),I.n 10 18 (I.ld 25 17),I.n 11 19 (I.ln 18 25),I.n 12 20 (.call { callee:=.builtin .min,args:=#[.tmp 19,.const (Value.int .i64 9)],argTypes:=#[3,3] }),I.n 13 21 (.slice 25 (.tmp 16) none (some (.tmp 20)) none),I.n 14 22 (.build 27 #[(0,.tmp 14),(1,.tmp 21)]),I.n 15 3 (.alloc 27),I.u 16 (I.st 27 3 22)] [[],[0],[],[2],[3],[4],[1,5],[],[7],[],[9],[10],[11],[8,12],[6,13],[],[15,14,0,1,2,3,4,5,6,7,8,9,10,11,12,13,14,15]]) (.seq (.seq (.reg 2 [I.n 0 4 (I.si 0)]) (.block 0 (.loop (.seq (.seq (.reg 3 [I.n 0 23 (I.mv 4),I.n 1 24 (I.fa 27 1 2),I.n 2 25 (I.ld 22 24),I.n 3 26 (I.ln 25 22),I.n 4 27 (I.bo .lss 3 23 26 3),I.n 5 28 (I.mv 27),I.w 6 29 (I.mv 4) 28 true,I.w 7 30 (I.bc .lss 3 29 8 3) 28 true,I.n 8 31 (I.pc 28 30 false)]) (.cond (.tmp 31) .skip (.exit 0))) (.seq (.block 1 (.seq (.reg 5 [I.n 0 34 (.buildSlice 23 0 #[]),I.n 1 5 (I.sa 34)]) (.seq (.seq (.reg 6 [I.n 0 6 (I.si 0)]) (.block 2 (.loop (.seq (.seq (.reg 7 [I.n 0 35 (I.mv 6),I.n 1 36 (I.fa 27 1 2),I.n 2 37 (I.ld 22 36),I.n 3 38 (I.mv 4),I.n 4 39 (I.ia 22 37 38),I.n 5 40 (I.ld 23 39),I.n 6 41 (I.ln 40 23),I.n 7 42 (I.bo .lss 3 35 41 3),I.n 8 43 (I.mv 42),I.w 9 44 (I.mv 6) 43 true,I.w 10 45 (I.bc .lss 3 44 20 3) 43 true,I.n 11 46 (I.pc 43 45 false)]) (.cond (.tmp 46) .skip (.exit 2))) (.seq (.block 3 (.seq (.reg 9 [I.n 0 49 (I.fa 27 1 2),I.n 1 50 (I.ld 22 49),I.n 2 51 (I.mv 4),I.n 3 52 (I.ia 22 50 51),I.n 4 53 (I.ld 23 52),I.n 5 54 (I.mv 6),I.n 6 55 (I.ia 23 53 54),I.n 7 56 (I.ld 35 55),I.n 8 7 (.alloc 35),I.u 9 (I.st 35 7 56)]) (.seq (.reg 10 [I.n 0 57 (I.fa 35 7 2),I.n 1 58 (I.ld 9 57),I.n 2 59 (I.fa 35 7 2),I.n 3 60 (I.ld 9 59),I.n 4 61 (I.ln 60 9),I.n 5 62 (.call { callee:=.builtin .min,args:=#[.tmp 61,.const (Value.int .i64 60)],argTypes:=#[3,3] }),I.n 6 63 (.slice 9 (.tmp 58) none (some (.tmp 62)) none),I.n 7 64 (I.fa 35 7 2),I.u 8 (I.st 9 64 63)]) (.reg 11 [I.n 0 65 (I.mv 5),I.n 1 66 (I.ld 35 7),I.n 2 67 (I.b1 23 66),I.n 3 68 (I.ap 65 67 23 23),I.n 4 5 (I.sa 68)])))) (.reg 8 [I.n 0 47 (I.mv 6),I.n 1 48 (I.bc .add 3 47 1 3),I.n 2 6 (I.sa 48)])))))) (.reg 12 [I.n 0 69 (I.fa 27 3 2),I.n 1 70 (I.ld 22 69),I.n 2 71 (I.mv 5),I.n 3 72 (I.b1 22 71),I.n 4 73 (I.ap 70 72 22 22),I.n 5 74 (I.fa 27 3 2),I.u 6 (I.st 22 74 73)])))) (.reg 4 [I.n 0 32 (I.mv 4),I.n 1 33 (I.bc .add 3 32 1 3),I.n 2 4 (I.sa 33)])))))) (.seq (.reg 13 [I.n 0 75 (I.ld 27 3),I.u 1 (I.st 27 2 75)]) .ret)))):=by
 intro c h
 have:c = Tryd.f59.body.get rfl:=by rw [<- Option.some_inj,<- h];rfl
 rw [this];rfl
def jA (x:List Sp):List Sp:=(x.take 20).map (lT 60)
def uG (c:Lg):Lg:=⟨c.base.extract 0 (min c.base.size 60),c.revs.take 9,(c.ah.take 8).map jA⟩
theorem Qc (c:Lg):II (uG c) /\ (uG c).base.size + gV (uG c).ah <= 100000:=by
 have h1:(uG c).base.size <= 60:=by show (c.base.extract 0 (min c.base.size 60)).size <= 60;rw [ByteArray.size_extract];omega
 have h2:(uG c).revs.length <= 9:=by show (c.revs.take 9).length <= 9;rw [List.length_take];omega
 have h3:(uG c).ah.length <= 8:=by show ((c.ah.take 8).map jA).length <= 8;rw [List.length_map,List.length_take];omega
 have htb:∀ W:List (List Sp),gV (W.map jA) <= 1200 * W.length:=by
   intro W
   induction W with
   | nil=>simp [gV]
   | cons x W ih =>
     have h1:dw (jA x) <= 1200:=adK x
     rw [List.map_cons,rQ,List.length_cons,Nat.mul_succ];omega
 have h4:gV (uG c).ah <= 9600:=by
   have:=htb (c.ah.take 8)
   have h5:(c.ah.take 8).length <= 8:=by rw [List.length_take];omega
   show gV ((c.ah.take 8).map jA) <= _;omega
 refine ⟨⟨by omega,by omega,by omega,fun x hx=>?_⟩,by omega⟩
 obtain ⟨y,_,rfl⟩:=List.mem_map.1 hx
 exact ⟨by have:=J6 y;show ((y.take 20).map (lT 60)).length <= _;omega,Vf y⟩
set_option maxHeartbeats 8000000 in
theorem Qd (c:Lg):aA env 59 [kT c] (fun r hs=>je r (kT (uG c)) /\ hs = []):=by
  have hrl:=aW c.ah
  have hil:=bP c.revs
  have hx:(min (c.base.size:Int) 60).toNat = min c.base.size 60:=by omega
  refine Ev.fn [0,1,2,3,4,5,6,7,31,46] 0 [.cell 2 27] Tryd.func59 (ajP _ rfl) ?_
  repeat' (first | refine' Ev.zP | refine' Ev.zS | refine' Ev.zK | ((with_reducible refine Ev.dG ?_);(first | refine Ev.drv 1 [] [(0,false),(1,false),(2,false),(3,false),(4,false),(5,true),(6,true),(7,false),(8,false),(9,false),(10,false),(11,false),(12,true),(13,true),(14,true),(15,false),(16,false)] ?_);intro Q hQ;(simp only [Ev.aX,Ev.aY,Ev.bG]);conv=>whnf) | refine' Ev.zT | fail)
  have e9:List.take ((min ((ints c.revs).length:Int) 9).toNat - 0) (List.drop 0 (ints c.revs)) = ints (c.revs.take 9):=by
    rw [List.drop_zero,hil]
    have:(min (c.revs.length:Int) 9).toNat - 0 = min c.revs.length 9:=by omega
    rw [this]
    rcases Nat.le_total c.revs.length 9 with h | h
    · rw [Nat.min_eq_left h,List.take_of_length_le (by omega),List.take_of_length_le h]
    · rw [Nat.min_eq_right h];simp [ints,List.map_take]
  obtain ⟨B,hB⟩:∃ B,c.base.extract 0 (min (c.base.size:Int) 60).toNat = B:=⟨_,rfl⟩
  have hB2:(uG c).base = B:=by rw [<- hB,hx];rfl
  refine Ev.loop (fun k s=>∃ (i m w b:Nat) (sg:AV) (hz:List (Nat × aG)),s = ⟨[(1,.ptr 0 0 0 0),(2,.ptr 8 b 0 0),(3,.ptr 632 w 0 0),(4,.v (.int .i64 i))],
      (632,⟨3,27,w,0,true,[[.v (.string B),.lst 1 (ints (c.revs.take 9)),sg]]⟩) :: (8,⟨3,27,b,0,true,[[.v (.string ⟨#[]⟩),nilA,nilA]]⟩) :: (0,⟨3,27,0,0,true,[[.v (.string c.base),.lst 1 (ints c.revs),.lst 1 (aC c.ah)]]⟩) :: hz,m⟩ /\
      ((i = 0 /\ sg = nilA /\ hz = []) ∨ (0 < i /\ ∃ u,sg = .own 6176 u 0 i /\ hz = [(6176,⟨1,23,u,0,false,aC ((c.ah.take i).map jA)⟩)])) /\ k + i = 8 /\ i <= c.ah.length) ?_ ?_
  · have hb1:[[AV.v (.string (c.base.extract 0 (min (c.base.size:Int) 60).toNat)),AV.lst 1 (List.take ((min ((ints c.revs).length:Int) 9).toNat - 0) (List.drop 0 (ints c.revs))),nilA]] = [[AV.v (.string B),AV.lst 1 (ints (c.revs.take 9)),nilA]]:=by rw [hB,e9]
    refine Ev.zB ⟨8,0,?_,?_,?_,nilA,[],rfl,?_⟩ (by refine' Ev.zp <;> first | (first | (exact congrArg (fun n=>aG.mk 3 27 _ 0 true n) hb1) | rfl | (simp;done)) | rfl | (refine' Ev.ze;(first | (exact congrArg (fun n=>aG.mk 3 27 _ 0 true n) hb1) | rfl | (simp;done))) | fail)
    exact ⟨.inl ⟨rfl,rfl,rfl⟩,rfl,by omega⟩
  rintro k s1 ⟨i,m,w,b,sg,hz,rfl,hsg,hk,alr⟩
  by_cases hi:i < c.ah.length /\ i < 8
  · obtain ⟨hi,hi8⟩:=hi
    have hi1:(i:Int) < ((aC c.ah).length:Int):=by omega
    have hi2:(i:Int) < 8:=by omega
    have hxl:=bH c.ah[i]
    have hml:=aW ((c.ah.take i).map jA)
    rw [List.length_map,List.length_take] at hml
    have he:∀ (x:List Sp) (j:Nat) (h:j < x.length),(x.take (j + 1)).map (lT 60) = (x.take j).map (lT 60) ++ [lT 60 x[j]]:=fun x j h=>by rw [List.take_succ_eq_append_getElem h,List.map_append];rfl
    have hto:(c.ah.take (i + 1)).map jA = (c.ah.take i).map jA ++ [jA c.ah[i]]:=by rw [List.take_succ_eq_append_getElem hi,List.map_append];rfl
    rcases hsg with ⟨rfl,rfl,rfl⟩ | ⟨h0,u,rfl,rfl⟩
    · repeat' (first | refine' Ev.zP | (((with_reducible refine Ev.aJ hi1 ?_);conv=>whnf)) | (with_reducible refine Ev.aK hi1 ?_) | (((with_reducible refine Ev.aJ hi2 ?_);conv=>whnf)) | (with_reducible refine Ev.aK hi2 ?_) | refine' Ev.zS | refine' Ev.zK | ((with_reducible refine Ev.dG ?_);(first | refine Ev.drv 1 [] [(0,false),(1,false),(2,false),(3,false),(4,false),(5,true),(6,true),(7,false),(8,false),(9,false),(10,false),(11,false),(12,true),(13,true),(14,true),(15,false),(16,false)] ?_);intro Q hQ;(simp only [Ev.aX,Ev.aY,Ev.bG]);conv=>whnf) | refine' Ev.zT | fail)
      refine Ev.loop (fun k s=>∃ (j m v:Nat),s = ⟨[(1,.ptr 0 0 0 0),(2,.ptr 8 b 0 0),(3,.ptr 632 w 0 0),(4,.v (.int .i64 (0:Nat))),(5,.own 2560 v 0 j),(6,.v (.int .i64 j))],
        [(632,⟨3,27,w,0,true,[[.v (.string B),.lst 1 (ints (c.revs.take 9)),nilA]]⟩),(8,⟨3,27,b,0,true,[[.v (.string ⟨#[]⟩),nilA,nilA]]⟩),(0,⟨3,27,0,0,true,[[.v (.string c.base),.lst 1 (ints c.revs),.lst 1 (aC c.ah)]]⟩),(2560,⟨3,35,v,0,false,bD ((c.ah[0].take j).map (lT 60))⟩)],m⟩ /\ k + j = 20 /\ j <= c.ah[0].length) ?_ ?_
      · refine Ev.zB ⟨20,0,?_,?_,rfl,?_⟩
        exact ⟨rfl,by omega⟩
      rintro k2 s2 ⟨j,m2,v,rfl,hk2,hjl⟩
      have hlen:(bD ((c.ah[0].take j).map (lT 60))).length = j:=by simp;omega
      by_cases hj:j < c.ah[0].length /\ j < 20
      · obtain ⟨hj,anw⟩:=hj
        have hj1:(j:Int) < ((bD c.ah[0]).length:Int):=by omega
        have hj2:(j:Int) < 20:=by omega
        have hx2:(min (c.ah[0][j].t.size:Int) 60).toNat = min c.ah[0][j].t.size 60:=by omega
        repeat' (first | refine' Ev.zP | (((with_reducible refine Ev.aJ hj1 ?_);conv=>whnf)) | (with_reducible refine Ev.aK hj1 ?_) | (((with_reducible refine Ev.aJ hj2 ?_);conv=>whnf)) | (with_reducible refine Ev.aK hj2 ?_) | refine' Ev.zS | refine' Ev.zK | ((with_reducible refine Ev.dG ?_);(first | refine Ev.drv 1 [] [(0,false),(1,false),(2,false),(3,false),(4,false),(5,true),(6,true),(7,false),(8,false),(9,false),(10,false),(11,false),(12,true),(13,true),(14,true),(15,false),(16,false)] ?_);intro Q hQ;(simp only [Ev.aX,Ev.aY,Ev.bG]);conv=>whnf) | refine' Ev.zT | fail)
        refine Ev.zA (k2 - 1) ⟨j + 1,?_,?_,rfl,?_⟩ (by refine' Ev.zp <;> first | (first | exact wrap_succ (by omega) | (simp;done) | (rw [he _ _ hj];simp [bD,lT,sV,hx2];done) | rfl) | rfl | (refine' Ev.ze;(first | exact wrap_succ (by omega) | (simp;done) | (rw [he _ _ hj];simp [bD,lT,sV,hx2];done) | rfl)) | fail)
        exact ⟨by omega,by omega⟩
      · have hfin:(c.ah[0].take j).map (lT 60) = jA c.ah[0]:=by
          unfold jA
          rcases Nat.lt_or_ge j 20 with h | h
          · rw [List.take_of_length_le (by omega),List.take_of_length_le (by omega)]
          · rw [show j = 20 by omega]
        by_cases hj1:(j:Int) < ((bD c.ah[0]).length:Int)
        · have hj2:¬ (j:Int) < 20:=by omega
          repeat' (first | refine' Ev.zP | (((with_reducible refine Ev.aJ hj1 ?_);conv=>whnf)) | (with_reducible refine Ev.aK hj1 ?_) | (((with_reducible refine Ev.aP hj2 ?_);conv=>whnf)) | (with_reducible refine Ev.aV hj2 ?_) | refine' Ev.zS | refine' Ev.zK | ((with_reducible refine Ev.dG ?_);(first | refine Ev.drv 1 [] [(0,false),(1,false),(2,false),(3,false),(4,false),(5,true),(6,true),(7,false),(8,false),(9,false),(10,false),(11,false),(12,true),(13,true),(14,true),(15,false),(16,false)] ?_);intro Q hQ;(simp only [Ev.aX,Ev.aY,Ev.bG]);conv=>whnf) | refine' Ev.zT | fail)
          have hrow:AV.lst 3 (List.take j (List.drop 0 (bD ((c.ah[0].take j).map (lT 60))))) = AV.lst 3 (bD (jA c.ah[0])):=by rw [List.drop_zero,List.take_of_length_le (by omega),hfin]
          have hr2:List.take 1 (List.drop 0 [[AV.lst 3 (List.take j (List.drop 0 (bD ((c.ah[0].take j).map (lT 60)))))]]) = aC ((c.ah.take (0 + 1)).map jA):=by rw [hrow,hto];rfl
          refine Ev.zA (k - 1) ⟨0 + 1,?_,w,b,.own 6176 ?_ 0 (0 + 1),[(6176,⟨1,23,?_,0,false,aC ((c.ah.take (0 + 1)).map jA)⟩)],rfl,?_⟩ (by refine' Ev.zp <;> first | (first | exact wrap_succ (by omega) | (exact congrArg (fun n=>aG.mk 1 23 _ 0 false n) hr2) | rfl | (simp;done)) | rfl | (refine' Ev.ze;(first | exact wrap_succ (by omega) | (exact congrArg (fun n=>aG.mk 1 23 _ 0 false n) hr2) | rfl | (simp;done))) | fail)
          exact ⟨.inr ⟨by omega,_,rfl,rfl⟩,by omega,by omega⟩
        · repeat' (first | refine' Ev.zP | (((with_reducible refine Ev.aP hj1 ?_);conv=>whnf)) | (with_reducible refine Ev.aV hj1 ?_) | refine' Ev.zS | refine' Ev.zK | ((with_reducible refine Ev.dG ?_);(first | refine Ev.drv 1 [] [(0,false),(1,false),(2,false),(3,false),(4,false),(5,true),(6,true),(7,false),(8,false),(9,false),(10,false),(11,false),(12,true),(13,true),(14,true),(15,false),(16,false)] ?_);intro Q hQ;(simp only [Ev.aX,Ev.aY,Ev.bG]);conv=>whnf) | refine' Ev.zT | fail)
          have hrow:AV.lst 3 (List.take j (List.drop 0 (bD ((c.ah[0].take j).map (lT 60))))) = AV.lst 3 (bD (jA c.ah[0])):=by rw [List.drop_zero,List.take_of_length_le (by omega),hfin]
          have hr2:List.take 1 (List.drop 0 [[AV.lst 3 (List.take j (List.drop 0 (bD ((c.ah[0].take j).map (lT 60)))))]]) = aC ((c.ah.take (0 + 1)).map jA):=by rw [hrow,hto];rfl
          refine Ev.zA (k - 1) ⟨0 + 1,?_,w,b,.own 6176 ?_ 0 (0 + 1),[(6176,⟨1,23,?_,0,false,aC ((c.ah.take (0 + 1)).map jA)⟩)],rfl,?_⟩ (by refine' Ev.zp <;> first | (first | exact wrap_succ (by omega) | (exact congrArg (fun n=>aG.mk 1 23 _ 0 false n) hr2) | rfl | (simp;done)) | rfl | (refine' Ev.ze;(first | exact wrap_succ (by omega) | (exact congrArg (fun n=>aG.mk 1 23 _ 0 false n) hr2) | rfl | (simp;done))) | fail)
          exact ⟨.inr ⟨by omega,_,rfl,rfl⟩,by omega,by omega⟩
    · repeat' (first | refine' Ev.zP | (((with_reducible refine Ev.aJ hi1 ?_);conv=>whnf)) | (with_reducible refine Ev.aK hi1 ?_) | (((with_reducible refine Ev.aJ hi2 ?_);conv=>whnf)) | (with_reducible refine Ev.aK hi2 ?_) | refine' Ev.zS | refine' Ev.zK | ((with_reducible refine Ev.dG ?_);(first | refine Ev.drv 1 [] [(0,false),(1,false),(2,false),(3,false),(4,false),(5,true),(6,true),(7,false),(8,false),(9,false),(10,false),(11,false),(12,true),(13,true),(14,true),(15,false),(16,false)] ?_);intro Q hQ;(simp only [Ev.aX,Ev.aY,Ev.bG]);conv=>whnf) | refine' Ev.zT | fail)
      refine Ev.loop (fun k s=>∃ (j m v:Nat),s = ⟨[(1,.ptr 0 0 0 0),(2,.ptr 8 b 0 0),(3,.ptr 632 w 0 0),(4,.v (.int .i64 (i:Nat))),(5,.own 2560 v 0 j),(6,.v (.int .i64 j))],
        [(632,⟨3,27,w,0,true,[[.v (.string B),.lst 1 (ints (c.revs.take 9)),.own 6176 u 0 i]]⟩),(8,⟨3,27,b,0,true,[[.v (.string ⟨#[]⟩),nilA,nilA]]⟩),(0,⟨3,27,0,0,true,[[.v (.string c.base),.lst 1 (ints c.revs),.lst 1 (aC c.ah)]]⟩),(6176,⟨1,23,u,0,false,aC ((c.ah.take i).map jA)⟩),(2560,⟨3,35,v,0,false,bD ((c.ah[i].take j).map (lT 60))⟩)],m⟩ /\ k + j = 20 /\ j <= c.ah[i].length) ?_ ?_
      · refine Ev.zB ⟨20,0,?_,?_,rfl,?_⟩
        exact ⟨rfl,by omega⟩
      rintro k2 s2 ⟨j,m2,v,rfl,hk2,hjl⟩
      have hlen:(bD ((c.ah[i].take j).map (lT 60))).length = j:=by simp;omega
      by_cases hj:j < c.ah[i].length /\ j < 20
      · obtain ⟨hj,anw⟩:=hj
        have hj1:(j:Int) < ((bD c.ah[i]).length:Int):=by omega
        have hj2:(j:Int) < 20:=by omega
        have hx2:(min (c.ah[i][j].t.size:Int) 60).toNat = min c.ah[i][j].t.size 60:=by omega
        repeat' (first | refine' Ev.zP | (((with_reducible refine Ev.aJ hj1 ?_);conv=>whnf)) | (with_reducible refine Ev.aK hj1 ?_) | (((with_reducible refine Ev.aJ hj2 ?_);conv=>whnf)) | (with_reducible refine Ev.aK hj2 ?_) | refine' Ev.zS | refine' Ev.zK | ((with_reducible refine Ev.dG ?_);(first | refine Ev.drv 1 [] [(0,false),(1,false),(2,false),(3,false),(4,false),(5,true),(6,true),(7,false),(8,false),(9,false),(10,false),(11,false),(12,true),(13,true),(14,true),(15,false),(16,false)] ?_);intro Q hQ;(simp only [Ev.aX,Ev.aY,Ev.bG]);conv=>whnf) | refine' Ev.zT | fail)
        refine Ev.zA (k2 - 1) ⟨j + 1,?_,?_,rfl,?_⟩ (by refine' Ev.zp <;> first | (first | exact wrap_succ (by omega) | (simp;done) | (rw [he _ _ hj];simp [bD,lT,sV,hx2];done) | rfl) | rfl | (refine' Ev.ze;(first | exact wrap_succ (by omega) | (simp;done) | (rw [he _ _ hj];simp [bD,lT,sV,hx2];done) | rfl)) | fail)
        exact ⟨by omega,by omega⟩
      · have hfin:(c.ah[i].take j).map (lT 60) = jA c.ah[i]:=by
          unfold jA
          rcases Nat.lt_or_ge j 20 with h | h
          · rw [List.take_of_length_le (by omega),List.take_of_length_le (by omega)]
          · rw [show j = 20 by omega]
        by_cases hj1:(j:Int) < ((bD c.ah[i]).length:Int)
        · have hj2:¬ (j:Int) < 20:=by omega
          repeat' (first | refine' Ev.zP | (((with_reducible refine Ev.aJ hj1 ?_);conv=>whnf)) | (with_reducible refine Ev.aK hj1 ?_) | (((with_reducible refine Ev.aP hj2 ?_);conv=>whnf)) | (with_reducible refine Ev.aV hj2 ?_) | refine' Ev.zS | refine' Ev.zK | ((with_reducible refine Ev.dG ?_);(first | refine Ev.drv 1 [] [(0,false),(1,false),(2,false),(3,false),(4,false),(5,true),(6,true),(7,false),(8,false),(9,false),(10,false),(11,false),(12,true),(13,true),(14,true),(15,false),(16,false)] ?_);intro Q hQ;(simp only [Ev.aX,Ev.aY,Ev.bG]);conv=>whnf) | refine' Ev.zT | fail)
          have hrow:AV.lst 3 (List.take j (List.drop 0 (bD ((c.ah[i].take j).map (lT 60))))) = AV.lst 3 (bD (jA c.ah[i])):=by rw [List.drop_zero,List.take_of_length_le (by omega),hfin]
          have hr2:aC ((c.ah.take i).map jA) ++ List.take 1 (List.drop 0 [[AV.lst 3 (List.take j (List.drop 0 (bD ((c.ah[i].take j).map (lT 60)))))]]) = aC ((c.ah.take (i + 1)).map jA):=by rw [hrow,hto,lV];rfl
          refine Ev.zA (k - 1) ⟨i + 1,?_,w,b,.own 6176 ?_ 0 (i + 1),[(6176,⟨1,23,?_,0,false,aC ((c.ah.take (i + 1)).map jA)⟩)],rfl,?_⟩ (by refine' Ev.zp <;> first | (first | exact wrap_succ (by omega) | (exact congrArg (fun n=>aG.mk 1 23 _ 0 false n) hr2) | rfl | (simp;done)) | rfl | (refine' Ev.ze;(first | exact wrap_succ (by omega) | (exact congrArg (fun n=>aG.mk 1 23 _ 0 false n) hr2) | rfl | (simp;done))) | fail)
          exact ⟨.inr ⟨by omega,_,rfl,rfl⟩,by omega,by omega⟩
        · repeat' (first | refine' Ev.zP | (((with_reducible refine Ev.aP hj1 ?_);conv=>whnf)) | (with_reducible refine Ev.aV hj1 ?_) | refine' Ev.zS | refine' Ev.zK | ((with_reducible refine Ev.dG ?_);(first | refine Ev.drv 1 [] [(0,false),(1,false),(2,false),(3,false),(4,false),(5,true),(6,true),(7,false),(8,false),(9,false),(10,false),(11,false),(12,true),(13,true),(14,true),(15,false),(16,false)] ?_);intro Q hQ;(simp only [Ev.aX,Ev.aY,Ev.bG]);conv=>whnf) | refine' Ev.zT | fail)
          have hrow:AV.lst 3 (List.take j (List.drop 0 (bD ((c.ah[i].take j).map (lT 60))))) = AV.lst 3 (bD (jA c.ah[i])):=by rw [List.drop_zero,List.take_of_length_le (by omega),hfin]
          have hr2:aC ((c.ah.take i).map jA) ++ List.take 1 (List.drop 0 [[AV.lst 3 (List.take j (List.drop 0 (bD ((c.ah[i].take j).map (lT 60)))))]]) = aC ((c.ah.take (i + 1)).map jA):=by rw [hrow,hto,lV];rfl
          refine Ev.zA (k - 1) ⟨i + 1,?_,w,b,.own 6176 ?_ 0 (i + 1),[(6176,⟨1,23,?_,0,false,aC ((c.ah.take (i + 1)).map jA)⟩)],rfl,?_⟩ (by refine' Ev.zp <;> first | (first | exact wrap_succ (by omega) | (exact congrArg (fun n=>aG.mk 1 23 _ 0 false n) hr2) | rfl | (simp;done)) | rfl | (refine' Ev.ze;(first | exact wrap_succ (by omega) | (exact congrArg (fun n=>aG.mk 1 23 _ 0 false n) hr2) | rfl | (simp;done))) | fail)
          exact ⟨.inr ⟨by omega,_,rfl,rfl⟩,by omega,by omega⟩
  · have hT:c.ah.take 8 = c.ah.take i:=by
      rcases Nat.lt_or_ge i 8 with h | h
      · rw [List.take_of_length_le (by omega),List.take_of_length_le (by omega)]
      · rw [show i = 8 by omega]
    have hC:kT (uG c) = .agg [.v (.string B),.lst 1 (ints (c.revs.take 9)),.lst 1 (aC ((c.ah.take i).map jA))]:=by
      rw [<- hT,<- hB2];rfl
    rw [hC]
    by_cases hi1:(i:Int) < ((aC c.ah).length:Int)
    · have hi2:¬ (i:Int) < 8:=by omega
      rcases hsg with ⟨rfl,rfl,rfl⟩ | ⟨h0,u,rfl,rfl⟩
      · exfalso;omega
      · repeat' (first | refine' Ev.zP | (((with_reducible refine Ev.aJ hi1 ?_);conv=>whnf)) | (with_reducible refine Ev.aK hi1 ?_) | (((with_reducible refine Ev.aP hi2 ?_);conv=>whnf)) | (with_reducible refine Ev.aV hi2 ?_) | refine' Ev.zS | refine' Ev.zK | ((with_reducible refine Ev.dG ?_);(first | refine Ev.drv 1 [] [(0,false),(1,false),(2,false),(3,false),(4,false),(5,true),(6,true),(7,false),(8,false),(9,false),(10,false),(11,false),(12,true),(13,true),(14,true),(15,false),(16,false)] ?_);intro Q hQ;(simp only [Ev.aX,Ev.aY,Ev.bG]);conv=>whnf) | refine' Ev.zT | fail)
        have e:List.take i (List.drop 0 (aC ((c.ah.take i).map jA))) = aC ((c.ah.take i).map jA):=by rw [List.drop_zero,List.take_of_length_le (by rw [aW,List.length_map,List.length_take];omega)]
        refine ⟨je.JC (je.refl _) (je.refl _) ?_,rfl⟩
        rw [e];exact je.refl _
    · rcases hsg with ⟨rfl,rfl,rfl⟩ | ⟨h0,u,rfl,rfl⟩
      · repeat' (first | refine' Ev.zP | (((with_reducible refine Ev.aP hi1 ?_);conv=>whnf)) | (with_reducible refine Ev.aV hi1 ?_) | refine' Ev.zS | refine' Ev.zK | ((with_reducible refine Ev.dG ?_);(first | refine Ev.drv 1 [] [(0,false),(1,false),(2,false),(3,false),(4,false),(5,true),(6,true),(7,false),(8,false),(9,false),(10,false),(11,false),(12,true),(13,true),(14,true),(15,false),(16,false)] ?_);intro Q hQ;(simp only [Ev.aX,Ev.aY,Ev.bG]);conv=>whnf) | refine' Ev.zT | fail)
        exact ⟨je.JC (je.refl _) (je.refl _) (je.nil 1),rfl⟩
      · repeat' (first | refine' Ev.zP | (((with_reducible refine Ev.aP hi1 ?_);conv=>whnf)) | (with_reducible refine Ev.aV hi1 ?_) | refine' Ev.zS | refine' Ev.zK | ((with_reducible refine Ev.dG ?_);(first | refine Ev.drv 1 [] [(0,false),(1,false),(2,false),(3,false),(4,false),(5,true),(6,true),(7,false),(8,false),(9,false),(10,false),(11,false),(12,true),(13,true),(14,true),(15,false),(16,false)] ?_);intro Q hQ;(simp only [Ev.aX,Ev.aY,Ev.bG]);conv=>whnf) | refine' Ev.zT | fail)
        have e:List.take i (List.drop 0 (aC ((c.ah.take i).map jA))) = aC ((c.ah.take i).map jA):=by rw [List.drop_zero,List.take_of_length_le (by rw [aW,List.length_map,List.length_take];omega)]
        refine ⟨je.JC (je.refl _) (je.refl _) ?_,rfl⟩
        rw [e];exact je.refl _
theorem Qe (c:Lg):aA env 59 [kT c] (fun r hs=>r = kT (uG c) /\ hs = []) :=
 (Qd c).res (fun r hs h=>⟨_,⟨rfl,h.2⟩,h.1⟩)
theorem ajQ:∀ c,Tryd.f28.body = some c -> comp c = (.seq (.reg 0 [I.n 0 2 (.box 27 (.tmp 0)),I.n 1 3 (.box 27 (.tmp 1)),I.n 2 4 (I.sb false)]) (.seq (.seq (.reg 1 [I.n 0 6 (I.fa 27 2 0),I.n 1 7 (I.ld 9 6),I.n 2 8 (I.fa 27 3 0),I.n 3 9 (I.ld 9 8),I.n 4 10 (I.bo .neq 9 7 9 9),I.n 5 11 (I.mv 10),I.w 6 12 (I.fa 27 2 2) 11 false,I.w 7 13 (I.ld 22 12) 11 false,I.w 8 14 (I.ln 13 22) 11 false,I.w 9 15 (I.fa 27 3 2) 11 false,I.w 10 16 (I.ld 22 15) 11 false,I.w 11 17 (I.ln 16 22) 11 false,I.w 12 18 (I.bo .neq 3 14 17 3) 11 false,I.n 13 19 (I.pb 11 true 18),I.n 14 20 (I.mv 19),I.w 15 21 (I.fa 27 2 1) 20 false,I.w 16 22 (I.ld 25 21) 20 false,I.w 17 23 (I.fa 27 3 1) 20 false,I.w 18 24 (I.ld 25 23) 20 false,I.w 19 25 (I.c2 76 22 24 25 25) 20 false,I.w 20 26 (.unOp .not 4 (.tmp 25)) 20 false,I.n 21 27 (I.pb 20 true 26)]) (.cond (.tmp 27) (.seq (.reg 2 [I.n 0 4 (I.sb false)]) .ret) .skip)) (.seq (.seq (.reg 3 [I.n 0 5 (I.si 0)]) (.block 0 (.loop (.seq (.seq (.reg 4 [I.n 0 28 (I.mv 5),I.n 1 29 (I.fa 27 2 2),I.n 2 30 (I.ld 22 29),I.n 3 31 (I.ln 30 22),I.n 4 32 (I.bo .lss 3 28 31 3)]) (.cond (.tmp 32) .skip (.exit 0))) (.seq (.block 1 (.seq (.draw 6 [I.n 0 35 (I.fa 27 2 2),I.n 1 36 (I.ld 22 35),I.n 2 37 (I.mv 5),I.n 3 38 (I.ia 22 36 37),I.n 4 39 (I.ld 23 38),I.n 5 40 (I.fa 27 3 2),I.n 6 41 (I.ld 22 40),I.n 7 42 (I.mv 5),I.n 8 43 (I.ia 22 41 42),I.n 9 44 (I.ld 23 43),I.n 10 45 (I.c2 34 39 44 23 23),I.n 11 46 (.unOp .not 4 (.tmp 45))] [[],[0],[],[1,2],[3],[],[5],[],[6,7],[8],[4,9],[10]]) (.cond (.tmp 46) (.seq (.reg 7 [I.n 0 4 (I.sb false)]) .ret) .skip))) (.reg 5 [I.n 0 33 (I.mv 5),I.n 1 34 (I.bc .add 3 33 1 3),I.n 2 5 (I.sa 34)])))))) (.seq (.reg 8 [I.n 0 4 (I.sb true)]) .ret)))):=by
 intro c h
 have:c = Tryd.f28.body.get rfl:=by rw [<- Option.some_inj,<- h];rfl
 rw [this];rfl
def YR (c d:Lg):Bool:=decide (c.base = d.base /\ c.revs = d.revs /\ c.ah = d.ah)
theorem jB (c:Lg):YR c c = true:=decide_eq_true ⟨rfl,rfl,rfl⟩
set_option maxHeartbeats 1000000 in
theorem jC (c d:Lg) (hc:II c):aA env 28 [kT c,kT d] (fun r hs=>r = .v (.bool (YR c d)) /\ hs = []):=by
  have hR:=KF c.revs d.revs (by have:=hc.2.1;omega)
  have h1:=aW c.ah
  have h2:=aW d.ah
  have hcl:=hc.2.2.1
  refine Ev.fn [0,1,2,3,4,5,27,32,46] 0 [.tmp 4] Tryd.func28 (ajQ _ rfl) ?_
  repeat' (first | refine' Ev.zP | refine' Ev.zS | refine' Ev.zK | ((with_reducible refine Ev.ca0 ?_);(first | refine Ev.ca (hR) ?_);conv=>whnf) | ((with_reducible refine Ev.dG ?_);(first | refine Ev.dr 6 [] [0,1,2,3,4,5,6,7,8,9,10,11] ?_);intro Q hQ;(simp only [Ev.ak,Ev.au]);conv=>whnf) | refine' Ev.zT | fail)
  · rename_i e1 e2 e3
    have hlen:c.ah.length = d.ah.length:=by omega
    refine Ev.loop (fun k s=>∃ i ct:Nat,s = ⟨[(2,.ptr 0 0 0 0),(3,.ptr 8 8 0 0),(4,.v (.bool false)),(5,.v (.int .i64 i))],[(8,⟨3,27,8,0,true,[[.v (.string d.base),.lst 1 (ints d.revs),.lst 1 (aC d.ah)]]⟩),(0,⟨3,27,0,0,true,[[.v (.string c.base),.lst 1 (ints c.revs),.lst 1 (aC c.ah)]]⟩)],ct⟩ /\ k + i = c.ah.length /\ c.ah.take i = d.ah.take i) ?_ ?_
    · refine Ev.zB ⟨c.ah.length,0,?_,rfl,?_⟩
      exact ⟨by omega,rfl⟩
    rintro k s1 ⟨i,ct,rfl,hk,hf⟩
    by_cases hi:i < c.ah.length
    · have hi2:(i:Int) < ((aC c.ah).length:Int):=by omega
      have hid:i < d.ah.length:=by omega
      have hic:=hi
      have hS:=wO c.ah[i] d.ah[i] (by have:=(hc.2.2.2 _ (List.getElem_mem hi)).1;omega)
      repeat' (first | refine' Ev.zP | (((with_reducible refine Ev.aJ hi2 ?_);conv=>whnf)) | (with_reducible refine Ev.aK hi2 ?_) | refine' Ev.zS | refine' Ev.zK | ((with_reducible refine Ev.ca0 ?_);(first | refine Ev.ca (hS) ?_);conv=>whnf) | ((with_reducible refine Ev.dG ?_);(first | refine Ev.dr 6 [] [0,1,2,3,4,5,6,7,8,9,10,11] ?_);intro Q hQ;(simp only [Ev.ak,Ev.au]);conv=>whnf) | refine' Ev.zT | fail)
      · rename_i heq
        refine Ev.zA (k - 1) ⟨i + 1,?_,rfl,?_⟩
        exact ⟨by omega,by rw [List.take_succ_eq_append_getElem hic,List.take_succ_eq_append_getElem hid,hf,heq]⟩
      · rename_i hne
        exact ⟨Ev.jd (decide_eq_false (fun h=>hne (by simp only [h.2.2]))).symm,rfl⟩
    · have hi2:¬ (i:Int) < ((aC c.ah).length:Int):=by omega
      repeat' (first | refine' Ev.zP | (((with_reducible refine Ev.aP hi2 ?_);conv=>whnf)) | (with_reducible refine Ev.aV hi2 ?_) | refine' Ev.zS | refine' Ev.zK | ((with_reducible refine Ev.dG ?_);(first | refine Ev.dr 6 [] [0,1,2,3,4,5,6,7,8,9,10,11] ?_);intro Q hQ;(simp only [Ev.ak,Ev.au]);conv=>whnf) | refine' Ev.zT | fail)
      rw [List.take_of_length_le (by omega),List.take_of_length_le (by omega)] at hf
      exact ⟨Ev.jd (decide_eq_true ⟨e1,e3,hf⟩).symm,rfl⟩
  · rename_i e1 e2 e3
    exact ⟨Ev.jd (decide_eq_false (fun h=>e3 h.2.1)).symm,rfl⟩
  · rename_i e1 e2
    exact ⟨Ev.jd (decide_eq_false (fun h=>e2 (by rw [h1,h2,h.2.2]))).symm,rfl⟩
  · rename_i e1
    exact ⟨Ev.jd (decide_eq_false (fun h=>e1 h.1)).symm,rfl⟩
theorem Gf (t:ByteArray) (l:List (List Sp)):(jX t l).revs = sK (jX t l).ah.length:=by
 show (List.range (_ + 1)).map (fun (i:Nat)=>(i:Int)) = sK ((Ve l _).map norm).length
 rw [List.length_map];rfl
theorem FH.YS {c:Lg} {n0:Int} (hH:FH c n0) {i:Nat} (hi:i <= c.ah.length):aeS c.base c.ah i = .dB [.v (.string (jD c i)),.v (.int .i64 0)] /\ (jD c i).size <= 14000 /\ validD (jD c i).data.toList = true /\ aN (jD c i).data.toList = dY n0 (c.ah.take i) /\ jK (c.ah.take i) c.base = (0,jD c i):=by
 have hb:=hH.bs
 have ht:=hH.tot
 have htk:=wX c.ah i
 obtain ⟨u,u1,u2,u3,u4⟩:=xu (c.ah.take i) n0 c.base hH.val hH.cnt (gX hH.seg i).1 (fun x hx=>by have:=hH.each x (List.mem_of_mem_take hx);omega) (by omega)
 have e:jD c i = u:=by unfold jD;rw [u1]
 rw [e]
 refine ⟨?_,by omega,u2,u3,u1⟩
 unfold aeS allA Na
 rw [if_pos ⟨by omega,by omega⟩,Int.toNat_natCast,if_neg (by rw [hH.val];simp),u1]
theorem FH.Qs {c:Lg} {n0:Int} (hH:FH c n0) {r k:Nat} (hr:r <= k) (hk:k <= c.ah.length) :
   ∃ A,alC c.ah (Az n0 c.ah) r k = .dB [.lst 3 (bD A),.v (.int .i64 0)] /\ mP A (jD c r) = 0 /\ rM A (jD c r) = jD c k /\ A.length <= 261 /\ dw A <= 10000:=by
 obtain ⟨a1,a2,a3,a4,a5⟩:=hH.YS (i:=r) (by omega)
 obtain ⟨b1,b2,b3,b4,b5⟩:=hH.YS (i:=k) hk
 have hm:=hH.ends r (by omega)
 obtain ⟨k1,k2,k3⟩:=sG hm
 obtain ⟨k4,k5⟩:=sF (dY n0 (c.ah.take r))
 obtain ⟨e1,e2⟩:=Dz a3 a4 hm
 have hs:=(gX (gX hH.seg r).2 (k - r)).1
 have l1:=(I7 (c.ah.drop r) (k - r))
 have l2:=I5 c.ah r
 have l3:=I8 c.ah r
 have l4:=hH.lens
 have l5:gZ c.ah <= 10000:=hH.tot
 obtain ⟨f1,f2,f3,f4,f5,f6⟩:=yS ((c.ah.drop r).take (k - r)) (dU (dY n0 (c.ah.take r))) (jD c r) e1 (by rw [k2];exact hs) (by omega) (by omega) (by omega)
 rw [e2] at f3
 have hsp:c.ah.take k = c.ah.take r ++ (c.ah.drop r).take (k - r):=by
   have:=List.take_add (l:=c.ah) (i:=r) (j:=k - r)
   rw [show r + (k - r) = k by omega] at this
   exact this
 have hall:=vV (c.ah.take r) ((c.ah.drop r).take (k - r)) c.base (by rw [a5])
 rw [<- hsp,a5,b5,f3] at hall
 have hT:jD c k = rM (dS (dU (dY n0 (c.ah.take r))) ((c.ah.drop r).take (k - r))).1 (jD c r):=congrArg Prod.snd hall
 refine ⟨(dS (dU (dY n0 (c.ah.take r))) ((c.ah.drop r).take (k - r))).1,?_,f2,hT.symm,by omega,by omega⟩
 unfold alC vX
 rw [if_pos ⟨by omega,by omega,by omega⟩,Int.toNat_natCast,Int.toNat_natCast,uF _ _ _ (by omega),f1,if_pos rfl]
def xA:Ev.Tr:=(.one 0 false (.one 1 false (.one 2 false (.one 4 false (.one 5 false (.one 6 true (.any (.alt 3 (.any (.alt 7 (.one 8 true (.one 9 false (.one 10 false .fin))) (.alt 9 (.one 7 false (.one 8 true (.one 10 false .fin))) .stop))) (.alt 7 (.any (.alt 3 (.one 8 true (.one 9 false (.one 10 false .fin))) (.alt 9 (.one 3 false (.one 8 true (.one 10 false .fin))) .stop))) (.alt 9 (.any (.alt 3 (.one 7 false (.one 8 true (.one 10 false .fin))) (.alt 7 (.one 3 false (.one 8 true (.one 10 false .fin))) .stop))) .stop))))))))))
theorem YT:∀ c,Tryd.f60.body = some c -> comp c = (.seq (.reg 0 [I.n 0 3 (.box 27 (.tmp 0)),I.n 1 6 (.alloc 27),I.n 2 7 (I.si 0)]) (.seq (.reg 1 [I.n 0 17 (I.ld 27 3),I.n 1 18 (I.c1 67 17 27),I.n 2 16 (I.mv 18),I.n 3 19 (I.ex 16 0),I.n 4 20 (I.ex 16 1),I.n 5 8 (I.sa 19),I.n 6 9 (I.sa 20)]) (.seq (.seq (.reg 2 [I.n 0 21 (I.mv 9),I.n 1 22 (I.bc .neq 30 21 0 30)]) (.cond (.tmp 22) (.seq (.reg 3 [I.n 0 23 (.build 27 #[]),I.n 1 24 (I.mv 9),I.u 2 (I.st 27 6 23),I.n 3 7 (I.sa 24)]) .ret) .skip)) (.seq (.reg 4 [I.n 0 25 (I.fa 27 3 1),I.n 1 26 (I.ld 25 25),I.n 2 27 (I.mv 2),I.n 3 28 (I.c2 106 26 27 25 3),I.n 4 10 (I.sa 28)]) (.seq (.reg 5 [I.n 0 30 (I.ld 27 3),I.n 1 31 (I.mv 10),I.n 2 32 (I.c2 62 30 31 27 3),I.n 3 29 (I.mv 32),I.n 4 33 (I.ex 29 0),I.n 5 34 (I.ex 29 1),I.n 6 11 (I.sa 33),I.n 7 9 (I.sa 34)]) (.seq (.seq (.reg 6 [I.n 0 35 (I.mv 9),I.n 1 36 (I.bc .neq 30 35 0 30)]) (.cond (.tmp 36) (.seq (.reg 7 [I.n 0 37 (.build 27 #[]),I.n 1 38 (I.mv 9),I.u 2 (I.st 27 6 37),I.n 3 7 (I.sa 38)]) .ret) .skip)) (.seq (.reg 8 [I.n 0 39 (I.fa 27 3 1),I.n 1 40 (I.ld 25 39),I.n 2 41 (I.mv 1),I.n 3 42 (I.mv 2),I.n 4 43 (.call { callee:=.value (.func 107),args:=#[.tmp 40,.tmp 41,.tmp 42],argTypes:=#[25,25,3] }),I.n 5 12 (I.sa 43)]) (.seq (.draw 9 [I.n 0 44 (I.mv 11),I.n 1 45 (I.mv 12),I.n 2 46 (I.ln 45 25),I.n 3 47 (.makeSlice 25 (.tmp 46) (.tmp 46)),I.n 4 48 (I.mv 12),I.n 5 49 (I.ln 48 25),I.n 6 50 (I.bc .sub 3 49 1 3),I.n 7 51 (.makeSlice 22 (.tmp 50) (.tmp 50)),I.n 8 52 (.build 27 #[(0,.tmp 44),(1,.tmp 47),(2,.tmp 51)]),I.n 9 13 (.alloc 27),I.u 10 (I.st 27 13 52)] [[],[],[1],[2,2],[],[4],[5],[6,6],[0,3,7],[],[9,8,0,1,2,3,4,5,6,7,8,9]]) (.seq (.reg 10 [I.n 0 53 (I.fa 27 13 1),I.n 1 54 (I.ld 25 53),I.n 2 55 (I.mv 12),I.n 3 56 (.call { callee:=.builtin .copy,args:=#[.tmp 54,.tmp 55],argTypes:=#[25,25] })]) (.seq (.seq (.reg 11 [I.n 0 57 (I.fa 27 13 2),I.n 1 58 (I.ld 22 57),I.n 2 59 (I.ln 58 22),I.n 3 60 (.move (.const (Value.int .i64 0)))]) (.block 0 (.loop (.seq (.reg 12 [I.n 0 61 (I.bo .lss 3 60 59 3)]) (.seq (.cond (.tmp 61) .skip (.exit 0)) (.seq (.block 1 (.seq (.reg 13 [I.n 0 62 (I.mv 60),I.n 1 14 (I.sa 62)]) (.seq (.reg 14 [I.n 0 63 (I.mv 10),I.n 1 15 (I.sa 63)]) (.seq (.block 2 (.loop (.seq (.seq (.draw 15 [I.n 0 64 (I.fa 27 3 1),I.n 1 65 (I.ld 25 64),I.n 2 66 (I.mv 15),I.n 3 67 (I.ia 25 65 66),I.n 4 68 (I.ld 3 67),I.n 5 69 (I.mv 12),I.n 6 70 (I.mv 14),I.n 7 71 (I.bc .add 3 70 1 3),I.n 8 72 (I.ia 25 69 71),I.n 9 73 (I.ld 3 72),I.n 10 74 (I.bo .neq 3 68 73 3)] [[],[0],[],[1,2],[3],[],[],[6],[5,7],[8],[4,9]]) (.cond (.tmp 74) .skip (.exit 2))) (.block 3 (.reg 16 [I.n 0 75 (I.mv 15),I.n 1 76 (I.bc .add 3 75 1 3),I.n 2 15 (I.sa 76)]))))) (.seq (.seq (.draw 17 [I.n 0 78 (I.fa 27 13 2),I.n 1 79 (I.ld 22 78),I.n 2 80 (I.mv 14),I.n 3 81 (I.mv 8),I.n 4 82 (I.mv 10),I.n 5 83 (I.ia 25 81 82),I.n 6 84 (I.ld 3 83),I.n 7 85 (I.fa 27 3 2),I.n 8 86 (I.ld 22 85),I.n 9 87 (I.mv 10),I.n 10 88 (I.mv 15),I.n 11 89 (.slice 22 (.tmp 86) (some (.tmp 87)) (some (.tmp 88)) none),I.n 12 90 (I.c2 63 84 89 3 22),I.n 13 77 (I.mv 90),I.n 14 91 (I.ex 77 0),I.n 15 92 (I.ex 77 1),I.n 16 93 (I.ia 22 79 80),I.u 17 (I.st 23 93 91),I.n 18 9 (I.sa 92)] [[],[0],[],[],[],[3,4],[5],[],[7],[],[],[8,9,10],[6,11],[12],[13],[13],[1,2,0,1,2,3,4,5,6,7,8,9,10,11,12,13,14],[16,14,12,0,1,2,3,4,5,6,7,8,9,10,11,12,13,14],[15,17,0,1,2,3,4,5,6,7,8,9,10,11,12,13,14,15,16,17]]) (.seq (.reg 18 [I.n 0 94 (I.mv 9),I.n 1 95 (I.bc .neq 30 94 0 30)]) (.cond (.tmp 95) (.seq (.reg 19 [I.n 0 96 (.build 27 #[]),I.n 1 97 (I.mv 9),I.u 2 (I.st 27 6 96),I.n 3 7 (I.sa 97)]) .ret) .skip))) (.reg 20 [I.n 0 98 (I.mv 15),I.n 1 10 (I.sa 98)])))))) (.reg 21 [I.n 0 99 (I.bc .add 3 60 1 3),I.n 1 60 (I.mv 99)]))))))) (.seq (.reg 22 [I.n 0 100 (I.ld 27 13),I.u 1 (I.st 27 6 100),I.n 2 7 (I.si 0)]) .ret))))))))))):=by
 intro c h
 have:c = Tryd.f60.body.get rfl:=by rw [<- Option.some_inj,<- h];rfl
 rw [this];rfl
def ji (c:Lg) (a b:Nat):List Sp:=(dS (dU (dY (aN c.base.data.toList) (c.ah.take a))) ((c.ah.drop a).take (b - a))).1
def eH (c:Lg):List Nat -> List (List Sp)
 | a :: b :: l=>ji c a b :: eH c (b :: l)
 | _=>[]
def lu (c:Lg) (K:List Nat):Lg:=⟨jD c (K.headD 0),rC c.revs K,eH c K⟩
def lgE:Lg:=⟨⟨#[]⟩,[],[]⟩
structure xJ (c:Lg):Prop where
 s:II c
 e:nP c = 0
 b:c.base.size + gV c.ah <= 900000
 l:gI c.ah <= 900000
theorem vY:∀ (l:List Int) (w:Int),dM w l = true -> l.Pairwise (· < ·) /\ ∀ x ∈ l,w < x
 | [],_,_=>⟨List.Pairwise.nil,by simp⟩
 | y :: l,w,h=>by
   simp only [dM,Bool.and_eq_true,decide_eq_true_eq] at h
   obtain ⟨h1,h2⟩:=vY l y h.2
   refine ⟨List.pairwise_cons.2 ⟨h2,h1⟩,fun x hx=>?_⟩
   rcases List.mem_cons.1 hx with rfl | hx
   · exact h.1.1
   · have:=h2 x hx;omega
theorem xB (rs set:List Int) {fr:Nat} (h:fr < rs.length):∃ K,uq rs set fr rs.length = fr :: K /\ (fr :: K).Pairwise (· < ·) /\ (∀ i ∈ fr :: K,i < rs.length) /\ (fr :: K).getLast (by simp) = rs.length - 1:=by
 have hd:(List.range rs.length).drop fr = fr :: (List.range rs.length).drop (fr + 1):=by
   rw [List.drop_eq_getElem_cons (by simpa using h)];simp
 have e:uq rs set fr rs.length = fr :: ((List.range rs.length).drop (fr + 1)).filter (Gs rs set fr):=by
   unfold uq
   rw [hd,List.filter_cons,if_pos (by simp [Gs])]
 refine ⟨_,e,?_,fun i hi=>?_,?_⟩
 · rw [<- e];exact List.Pairwise.sublist ((List.filter_sublist).trans (List.drop_sublist _ _)) List.pairwise_lt_range
 · rw [<- e] at hi
   have:=List.mem_of_mem_drop (List.mem_filter.1 hi).1
   simpa using this
 · have hl:(List.range rs.length).drop fr = ((List.range (rs.length - 1)).drop fr) ++ [rs.length - 1]:=by
     have:List.range rs.length = List.range (rs.length - 1) ++ [rs.length - 1]:=by
       conv=>lhs;rw [show rs.length = rs.length - 1 + 1 by omega]
       exact List.range_succ
     rw [this,List.drop_append_of_le_length (by simp;omega)]
   have e2:fr :: ((List.range rs.length).drop (fr + 1)).filter (Gs rs set fr) = ((List.range (rs.length - 1)).drop fr).filter (Gs rs set fr) ++ [rs.length - 1]:=by
     rw [<- e];unfold uq
     rw [hl,List.filter_append,List.filter_cons,if_pos (by simp [Gs]),List.filter_nil]
   simp [e2]
theorem iC (c:Lg):∀ (a:Nat) (l:List Nat),(eH c (a :: l)).length = l.length
 | _,[]=>rfl
 | a,b :: l=>by simp only [eH,List.length_cons];rw [iC c b l]
theorem qB (c:Lg):∀ (a:Nat) (l:List Nat) {i:Nat} (h:i < (eH c (a :: l)).length),(eH c (a :: l))[i] = ji c ((a :: l).getD i 0) ((a :: l).getD (i + 1) 0)
 | a,b :: l,0,_=>rfl
 | a,b :: l,i + 1,h=>by
   have h':i < (eH c (b :: l)).length:=by simpa [eH] using h
   simpa [eH] using qB c b l h'
theorem NS:∀ (a b:List (List Sp)) (n:Int),dY n (a ++ b) = dY (dY n a) b
 | [],b,n=>rfl
 | x :: a,b,n=>NS a b (outW x)
theorem qC {c:Lg} (h:xJ c) (i:Nat):0 <= dY (aN c.base.data.toList) (c.ah.take i) /\ dY (aN c.base.data.toList) (c.ah.take i) <= 1048576:=by
 obtain ⟨z1,z2,z3,z4,z5⟩:=dJ h.e
 obtain ⟨g1,g2,g3,g4⟩:=kC h.e (fun x hx=>(h.s.2.2.2 x hx).1) (by have:=h.b;omega) i
 refine ⟨?_,Ry _ _ (gX z5 i).1 z2⟩
 rw [<- g3]
 have:=bU g2
 omega
theorem CU {c:Lg} (h:xJ c) {a b:Nat} (hab:a <= b) (hb:b <= c.ah.length) :
   (dS (dU (dY (aN c.base.data.toList) (c.ah.take a))) ((c.ah.drop a).take (b - a))).2 = 0 /\ mP (ji c a b) (jD c a) = 0 /\ rM (ji c a b) (jD c a) = jD c b /\
   outW (ji c a b) = dY (aN c.base.data.toList) (c.ah.take b) /\ (ji c a b).length <= 1 + gI ((c.ah.drop a).take (b - a)) /\ dw (ji c a b) <= gZ ((c.ah.drop a).take (b - a)) /\ gI ((c.ah.drop a).take (b - a)) <= gI c.ah /\ gZ ((c.ah.drop a).take (b - a)) <= gZ c.ah:=by
 obtain ⟨z1,z2,z3,z4,z5⟩:=dJ h.e
 have hx:∀ x ∈ c.ah,x.length <= 100000000:=fun x hx=>(h.s.2.2.2 x hx).1
 have hbb:=h.b
 have hll:=h.l
 have htt:gZ c.ah = gV c.ah:=rfl
 obtain ⟨g1,g2,g3,g4⟩:=kC h.e hx (by omega) a
 obtain ⟨i1,i2,i3,i4⟩:=kC h.e hx (by omega) b
 have hm:=qC h a
 obtain ⟨k1,k2,k3⟩:=sG hm
 obtain ⟨k4,k5⟩:=sF (dY (aN c.base.data.toList) (c.ah.take a))
 obtain ⟨e1,e2⟩:=Dz g2 g3 hm
 have hs:=(gX (gX z5 a).2 (b - a)).1
 have l1:=(I7 (c.ah.drop a) (b - a))
 have l2:=I5 c.ah a
 have l3:=I8 c.ah a
 obtain ⟨f1,f2,f3,f4,f5,f6⟩:=yS ((c.ah.drop a).take (b - a)) (dU (dY (aN c.base.data.toList) (c.ah.take a))) (jD c a) e1 (by rw [k2];exact hs) (by omega) (by omega) (by omega)
 rw [e2] at f3
 have hsp:c.ah.take b = c.ah.take a ++ (c.ah.drop a).take (b - a):=by
   have:=List.take_add (l:=c.ah) (i:=a) (j:=b - a)
   rw [show a + (b - a) = b by omega] at this
   exact this
 have hall:=vV (c.ah.take a) ((c.ah.drop a).take (b - a)) c.base (by rw [g1])
 rw [<- hsp,g1,i1,f3] at hall
 refine ⟨f1,f2,(congrArg Prod.snd hall).symm,?_,by show (dS _ _).1.length <= _;omega,by show dw (dS _ _).1 <= _;omega,by omega,by omega⟩
 rw [hsp,NS,<- k2];exact f4
theorem ad2{G:Prop}(h:G:=by
 obtain ⟨f1,-,-,-,-,-,f5,f6⟩:=CU h hab hb
 have hm:=qC h a
 have hbb:=h.b
 have hll:=h.l
 have htt:gZ c.ah = gV c.ah:=rfl
 have hs:jW c = Az (aN c.base.data.toList) c.ah:=if_pos h.e
 all_goals(rcases(⟨_⟩:PLift _)with⟨h⟩;exact h)):G:=h
theorem agd{G:Prop}(h:G:=by
 unfold vX at this
 rw [f1,if_pos rfl] at this
 rw [hs,uF _ _ _ (by omega)]
 exact this):G:=h
theorem NT {c:Lg} (h:xJ c) {a b:Nat} (hab:a <= b) (hb:b <= c.ah.length):aA env 63 [.v (.int .i64 ((jW c).getD a 0)),.lst 1 (aC ((c.ah.drop a).take (b - a)))] (fun r hs=>r = .dB [.lst 3 (bD (ji c a b)),.v (.int .i64 0)] /\ hs = []):=by
 refine' ad2
 have:=Vr _ hm ((c.ah.drop a).take (b - a)) (by omega) (by omega) (by have:=sN (dJ h.e).2.2.1;have:=(dJ h.e).2.2.2.1;simp;omega)
 refine' agd
set_option maxHeartbeats 4000000 in
theorem jZ (c:Lg) (set:List Int) (f:Int) (hO:xJ c) (hl2:set.length <= 100000000):aA env 60 [kT c,.lst 1 (ints set),.v (.int .i64 f)] (fun r hs=>r = .dB [kT (lu c (uq c.revs set (dh c.revs f) c.revs.length)),.v (.int .i64 0)] /\ hs = []):=by
  have hSz:=vS c hO.s
  rw [hO.e] at hSz
  obtain ⟨z1,z2,z3,z4,z5⟩:=dJ hO.e
  have hz3:c.revs.length <= 65536 /\ dM (-1) c.revs = true:=by
    unfold rises at z3;simp only [Bool.and_eq_true,decide_eq_true_eq] at z3;exact ⟨z3.1.2,z3.2⟩
  have hpw:=(vY _ _ hz3.2).1
  have hK:=Nw c.revs set f hO.s.2.1 hl2 (by omega) hpw
  have hFl:=FB c.revs f hO.s.2.1
  have hfr:dh c.revs f <= c.ah.length:=by have:=uo c.revs f;unfold dh;omega
  generalize dh c.revs f = fr at hFl hK hfr ⊢
  have hAt:=IZ hO.s hO.e (by have:=hO.b;omega) hfr
  obtain ⟨K,e0,k1,k2,k3⟩:=xB c.revs set (fr:=fr) (by omega)
  rw [e0] at hK ⊢
  have Zh:(fr :: K).length <= 65536:=by
    have:(fr :: K).length <= c.revs.length:=by
      rw [<- e0]
      have h1:=List.length_filter_le (Gs c.revs set fr) ((List.range c.revs.length).drop fr)
      unfold uq
      rw [List.length_drop,List.length_range] at h1;omega
    omega
  have hNl:(ints (rC c.revs (fr :: K))).length = K.length + 1:=by simp [rC]
  obtain ⟨N,hN⟩:∃ N,N = rC c.revs (fr :: K):=⟨_,rfl⟩
  rw [<- hN] at hK hNl
  have hm:2000000003 <= maxLen:=by decide
  rw [List.length_cons] at Zh
  have hw:IntKind.i64.wrap (((ints N).length:Int) - 1) = K.length:=by rw [hNl,aU (by omega)];omega
  have hw1:(((ints N).length:Int)).toNat = K.length + 1:=by rw [hNl];rfl
  have hw2:(IntKind.i64.wrap (((ints N).length:Int) - 1)).toNat = K.length:=by rw [hw];rfl
  unfold kT at *
  refine Ev.fn [0,1,2,3,6,7,8,9,10,11,12,13,14,15,22,36,59,60,61,74,95] 0 [.cell 6 27,.tmp 7] Tryd.func60 (YT _ rfl) ?_
  repeat' (first | refine' Ev.zP | (with_reducible refine Ev.join (a:=.draw 9 _ _) (fun s=>∃ v1 v2 vo w k,s = ⟨[(3,.ptr 0 0 0 0),(6,.ptr 8 w 0 0),(8,.lst 1 (ints (jW c))),(10,.v (.int .i64 fr)),(12,.lst 1 (ints N)),(13,.ptr 4680 vo 0 0)],[(0,⟨3,27,0,0,true,[[.v (.string c.base),.lst 1 (ints c.revs),.lst 1 (aC c.ah)]]⟩),(8,⟨3,27,w,0,true,[[.v (.string ⟨#[]⟩),nilA,nilA]]⟩),(4632,⟨1,3,v1,0,false,List.replicate (K.length + 1) [.v (.int .i64 0)]⟩),(4664,⟨1,23,v2,0,false,List.replicate K.length [nilA]⟩),(4680,⟨3,27,vo,0,true,[[.v (.string (jD c fr)),.own 4632 v1 0 (K.length + 1),.own 4664 v2 0 K.length]]⟩)],k⟩ /\ True) ?_ ?_) | refine' Ev.zS | refine' Ev.zK | ((with_reducible refine Ev.ca0 ?_);(first | refine Ev.ca (hSz) ?_ | refine Ev.ca (hFl) ?_ | refine Ev.ca (hAt) ?_ | refine Ev.ca (hK) ?_);conv=>whnf) | ((with_reducible refine Ev.dG ?_);(first | refine Ev.dr 15 [] [0,1,2,3,4,5,6,7,8,9,10] ?_ | refine Ev.dr 17 [] [0,1,2,3,4,5,6,7,8,9,10,11,12,13,14,15,16,17,18] ?_);intro Q hQ;(simp only [Ev.ak,Ev.au]);conv=>whnf) | ((with_reducible refine Ev.dG ?_);(first | refine Ev.dru 9 [] [[],[],[1],[1,2],[],[4],[4,5],[4,5,6],[0,1,2,3,4,5,6,7],[],[0,1,2,3,4,5,6,7,8,9]] xA ?_);intro Q hQ;(simp only [Ev.oM,Ev.lI,Ev.lJ,Ev.lK,Ev.oN,Ev.oO]);conv=>whnf) | ((with_reducible refine Ev.both ?_ ?_) <;> (conv=>whnf)) | exact True.intro | refine' Ev.zT | fail)
  case refine_2 =>
    rintro s1 ⟨v1,v2,vo,w,k,rfl,-⟩
    have f1:∀ y ∈ ints N,y.length = 1:=by intro y hy;simp [ints] at hy;obtain ⟨x,_,rfl⟩:=hy;rfl
    have hcp:ints N = List.take 0 (List.replicate (K.length + 1) [AV.v (.int .i64 0)]) ++ ints N ++ List.drop (0 + (K.length + 1)) (List.replicate (K.length + 1) [AV.v (.int .i64 0)]):=by simp
    have hSl:(eH c (fr :: K)).length = K.length:=iC c fr K
    repeat' (first | refine' Ev.zS | refine' Ev.zK | ((with_reducible refine Ev.dG ?_);(first | refine Ev.dr 15 [] [0,1,2,3,4,5,6,7,8,9,10] ?_ | refine Ev.dr 17 [] [0,1,2,3,4,5,6,7,8,9,10,11,12,13,14,15,16,17,18] ?_);intro Q hQ;(simp only [Ev.ak,Ev.au]);conv=>whnf) | ((with_reducible refine Ev.dG ?_);(first | refine Ev.dru 9 [] [[],[],[1],[1,2],[],[4],[4,5],[4,5,6],[0,1,2,3,4,5,6,7],[],[0,1,2,3,4,5,6,7,8,9]] xA ?_);intro Q hQ;(simp only [Ev.oM,Ev.lI,Ev.lJ,Ev.lK,Ev.oN,Ev.oO]);conv=>whnf) | ((with_reducible refine Ev.both ?_ ?_) <;> (conv=>whnf)) | exact True.intro | refine' Ev.zT | fail)
    · refine Ev.loop (fun k s=>∃ i c0:Nat,s = ⟨[(3,.ptr 0 0 0 0),(6,.ptr 8 w 0 0),(8,.lst 1 (ints (jW c))),(10,.v (.int .i64 ((fr :: K).getD i 0:Nat))),(12,.lst 1 (ints N)),(13,.ptr 4680 vo 0 0),(59,.v (.int .i64 K.length)),(60,.v (.int .i64 i))],[(0,⟨3,27,0,0,true,[[.v (.string c.base),.lst 1 (ints c.revs),.lst 1 (aC c.ah)]]⟩),(8,⟨3,27,w,0,true,[[.v (.string ⟨#[]⟩),nilA,nilA]]⟩),(4632,⟨1,3,v1,0,false,ints N⟩),(4664,⟨1,23,v2,0,false,aC ((eH c (fr :: K)).take i) ++ List.replicate (K.length - i) [nilA]⟩),(4680,⟨3,27,vo,0,true,[[.v (.string (jD c fr)),.own 4632 v1 0 (K.length + 1),.own 4664 v2 0 K.length]]⟩)],c0⟩ /\ k + i = K.length) ?_ ?_
      · refine Ev.zB ⟨K.length,0,?_,rfl,?_⟩ (by refine' Ev.zp <;> first | (first | exact congrArg (fun n=>aG.mk 1 3 _ 0 false n) hcp | rfl | (simp;done)) | rfl | (refine' Ev.ze;(first | exact congrArg (fun n=>aG.mk 1 3 _ 0 false n) hcp | rfl | (simp;done))) | fail)
        omega
      · rintro k s1 ⟨i,c0,rfl,hk⟩
        by_cases hi:i < K.length
        · have hii:(i:Int) < (K.length:Int):=by omega
          repeat' (first | (with_reducible first | refine Ev.aK hii ?_ | refine Ev.aV hii ?_ | refine Ev.aJ hii ?_ | refine Ev.aP hii ?_) | refine' Ev.zS | refine' Ev.zK | ((with_reducible refine Ev.dG ?_);(first | refine Ev.dr 15 [] [0,1,2,3,4,5,6,7,8,9,10] ?_ | refine Ev.dr 17 [] [0,1,2,3,4,5,6,7,8,9,10,11,12,13,14,15,16,17,18] ?_);intro Q hQ;(simp only [Ev.ak,Ev.au]);conv=>whnf) | ((with_reducible refine Ev.dG ?_);(first | refine Ev.dru 9 [] [[],[],[1],[1,2],[],[4],[4,5],[4,5,6],[0,1,2,3,4,5,6,7],[],[0,1,2,3,4,5,6,7,8,9]] xA ?_);intro Q hQ;(simp only [Ev.oM,Ev.lI,Ev.lJ,Ev.lK,Ev.oN,Ev.oO]);conv=>whnf) | ((with_reducible refine Ev.both ?_ ?_) <;> (conv=>whnf)) | exact True.intro | refine' Ev.zT | fail)
          obtain ⟨a,ha⟩:∃ a,a = (fr :: K).getD i 0:=⟨_,rfl⟩
          obtain ⟨b,hb⟩:∃ b,b = (fr :: K).getD (i + 1) 0:=⟨_,rfl⟩
          rw [<- ha]
          obtain ⟨q1,q2⟩:a < b /\ b < c.revs.length:=by
            rw [ha,hb,List.getD_eq_getElem?_getD,List.getD_eq_getElem?_getD,List.getElem?_eq_getElem (by simp;omega),List.getElem?_eq_getElem (by simp;omega)]
            exact ⟨List.pairwise_iff_getElem.1 k1 _ _ _ _ (Nat.lt_succ_self i),k2 _ (List.getElem_mem _)⟩
          have hNi:∀ h:i + 1 < N.length,N[i + 1] = c.revs[b]:=fun h=>by
            subst hN
            simp only [rC,List.getElem_map]
            rw [List.getD_eq_getElem?_getD]
            have:(fr :: K)[i + 1]'(by simp;omega) = b:=by
              rw [hb,List.getD_eq_getElem?_getD,List.getElem?_eq_getElem (by simp;omega)];rfl
            rw [this,List.getElem?_eq_getElem q2];rfl
          refine Ev.loop (fun k s=>∃ j c0:Nat,s = ⟨[(3,.ptr 0 0 0 0),(6,.ptr 8 w 0 0),(8,.lst 1 (ints (jW c))),(10,.v (.int .i64 a)),(12,.lst 1 (ints N)),(13,.ptr 4680 vo 0 0),(14,.v (.int .i64 i)),(15,.v (.int .i64 j)),(59,.v (.int .i64 K.length)),(60,.v (.int .i64 i))],[(0,⟨3,27,0,0,true,[[.v (.string c.base),.lst 1 (ints c.revs),.lst 1 (aC c.ah)]]⟩),(8,⟨3,27,w,0,true,[[.v (.string ⟨#[]⟩),nilA,nilA]]⟩),(4632,⟨1,3,v1,0,false,ints N⟩),(4664,⟨1,23,v2,0,false,aC ((eH c (fr :: K)).take i) ++ List.replicate (K.length - i) [nilA]⟩),(4680,⟨3,27,vo,0,true,[[.v (.string (jD c fr)),.own 4632 v1 0 (K.length + 1),.own 4664 v2 0 K.length]]⟩)],c0⟩ /\ k + j = b /\ a <= j) ?_ ?_
          · refine Ev.zB ⟨b - a,a,?_,rfl,?_⟩
            omega
          rintro k2 s2 ⟨j,c1,rfl,hk2,haj⟩
          have hsz:(ints (jW c)).length = c.ah.length + 1:=by rw [bP];unfold jW;rw [if_pos hO.e,qx]
          have hsz':(jW c).length = c.ah.length + 1:=by rw [<- bP];exact hsz
          have key:∀ (n:Nat) (h:n < N.length),n = i + 1 -> N[n] = c.revs[b]:=fun n h e=>by subst e;exact hNi h
          have hwi:(IntKind.i64.wrap ((i:Int) + 1)).toNat = i + 1:=by rw [wrap_succ (by omega)];rfl
          have anz:N.length = K.length + 1:=by rw [<- bP];exact hNl
          repeat' (first | refine' Ev.zS | refine' Ev.zK | ((with_reducible refine Ev.dG ?_);(first | refine Ev.dr 15 [] [0,1,2,3,4,5,6,7,8,9,10] ?_ | refine Ev.dr 17 [] [0,1,2,3,4,5,6,7,8,9,10,11,12,13,14,15,16,17,18] ?_);intro Q hQ;(simp only [Ev.ak,Ev.au]);conv=>whnf) | ((with_reducible refine Ev.dG ?_);(first | refine Ev.dru 9 [] [[],[],[1],[1,2],[],[4],[4,5],[4,5,6],[0,1,2,3,4,5,6,7],[],[0,1,2,3,4,5,6,7,8,9]] xA ?_);intro Q hQ;(simp only [Ev.oM,Ev.lI,Ev.lJ,Ev.lK,Ev.oN,Ev.oO]);conv=>whnf) | ((with_reducible refine Ev.both ?_ ?_) <;> (conv=>whnf)) | exact True.intro | refine' Ev.zT | fail)
          · rename_i hj hn e
            obtain rfl:j = b:=by
              have e:=e.trans (key _ hn hwi)
              rcases Nat.lt_or_ge j b with h | h
              · have:=List.pairwise_iff_getElem.1 hpw j b (by omega) q2 h;omega
              · omega
            have hF:aA env 63 [.v (.int .i64 (jW c)[a]),.lst 1 (List.take ((j:Int).toNat - (a:Int).toNat) (List.drop (a:Int).toNat (aC c.ah)))] (fun r hs=>r = .dB [.lst 3 (bD (ji c a j)),.v (.int .i64 0)] /\ hs = []):=by
              have:=NT hO haj (by omega)
              rw [List.getD_eq_getElem?_getD,List.getElem?_eq_getElem hi] at this
              rw [Int.toNat_natCast,Int.toNat_natCast,sJ]
              exact this
            have hEl:(aC ((eH c (fr :: K)).take i) ++ List.replicate (K.length - i) [nilA])[0 + (i:Int).toNat]? = some [nilA]:=by
              rw [Nat.zero_add,Int.toNat_natCast,List.getElem?_append_right (by rw [aW,List.length_take];omega),aW,List.length_take,List.getElem?_replicate,if_pos (by omega)]
            have aqB:i < (aC ((eH c (fr :: K)).take i) ++ List.replicate (K.length - i) [nilA]).length:=by
              rw [List.length_append,aW,List.length_take,List.length_replicate];omega
            repeat' (first | refine' Ev.zP | refine' Ev.zS | refine' Ev.zK | ((with_reducible refine Ev.ca0 ?_);(first | refine Ev.ca (hF) ?_);conv=>whnf) | ((refine Ev.VY _ hEl ?_);conv=>whnf) | ((with_reducible refine Ev.dG ?_);(first | refine Ev.dr 15 [] [0,1,2,3,4,5,6,7,8,9,10] ?_ | refine Ev.dr 17 [] [0,1,2,3,4,5,6,7,8,9,10,11,12,13,14,15,16,17,18] ?_);intro Q hQ;(simp only [Ev.ak,Ev.au]);conv=>whnf) | ((with_reducible refine Ev.dG ?_);(first | refine Ev.dru 9 [] [[],[],[1],[1,2],[],[4],[4,5],[4,5,6],[0,1,2,3,4,5,6,7],[],[0,1,2,3,4,5,6,7,8,9]] xA ?_);intro Q hQ;(simp only [Ev.oM,Ev.lI,Ev.lJ,Ev.lK,Ev.oN,Ev.oO]);conv=>whnf) | ((with_reducible refine Ev.both ?_ ?_) <;> (conv=>whnf)) | exact True.intro | refine' Ev.zT | fail)
            have hbd:j = (fr :: K).getD (i + 1) 0:=hb
            have hset:(aC ((eH c (fr :: K)).take i) ++ List.replicate (K.length - i) [nilA]).set (0 + (i:Int).toNat) [.lst 3 (bD (ji c a j))] = aC ((eH c (fr :: K)).take (i + 1)) ++ List.replicate (K.length - (i + 1)) [nilA]:=by
              rw [Nat.zero_add,Int.toNat_natCast,List.set_append_right _ _ (by rw [aW,List.length_take];omega),aW,List.length_take,Nat.min_eq_left (by omega),Nat.sub_self]
              rw [show K.length - i = (K.length - (i + 1)) + 1 by omega,List.replicate_succ,List.set_cons_zero,List.take_succ_eq_append_getElem (by omega),lV,qB c fr K,<- ha,<- hbd]
              simp [aC]
            refine Ev.zA (k - 1) ⟨i + 1,?_,rfl,?_⟩ (by refine' Ev.zp <;> first | (first | (rw [hbd];done) | exact congrArg (fun n=>aG.mk 1 23 _ 0 false n) hset | exact wrap_succ (by omega) | rfl) | rfl | (refine' Ev.ze;(first | (rw [hbd];done) | exact congrArg (fun n=>aG.mk 1 23 _ 0 false n) hset | exact wrap_succ (by omega) | rfl)) | fail)
            omega
          · rename_i hj e
            have hjb:j ≠ b:=fun h=>by subst h;exact e (key _ hi hwi).symm
            refine Ev.zA (k2 - 1) ⟨j + 1,?_,rfl,?_⟩
            omega
          · refine Ev.Side.of ?_
            show (IntKind.i64.wrap ((i:Int) + 1)).toNat < _
            omega
        · have hii:¬ (i:Int) < (K.length:Int):=by omega
          repeat' (first | (with_reducible first | refine Ev.aK hii ?_ | refine Ev.aV hii ?_ | refine Ev.aJ hii ?_ | refine Ev.aP hii ?_) | refine' Ev.zS | refine' Ev.zK | ((with_reducible refine Ev.dG ?_);(first | refine Ev.dr 15 [] [0,1,2,3,4,5,6,7,8,9,10] ?_ | refine Ev.dr 17 [] [0,1,2,3,4,5,6,7,8,9,10,11,12,13,14,15,16,17,18] ?_);intro Q hQ;(simp only [Ev.ak,Ev.au]);conv=>whnf) | ((with_reducible refine Ev.dG ?_);(first | refine Ev.dru 9 [] [[],[],[1],[1,2],[],[4],[4,5],[4,5,6],[0,1,2,3,4,5,6,7],[],[0,1,2,3,4,5,6,7,8,9]] xA ?_);intro Q hQ;(simp only [Ev.oM,Ev.lI,Ev.lJ,Ev.lK,Ev.oN,Ev.oO]);conv=>whnf) | ((with_reducible refine Ev.both ?_ ?_) <;> (conv=>whnf)) | exact True.intro | refine' Ev.zT | fail)
          obtain rfl:i = K.length:=by omega
          refine ⟨?_,rfl⟩
          have g1:List.take (K.length + 1) (List.drop 0 (ints N)) = ints N:=List.take_of_length_le (by rw [List.drop_zero];omega)
          have g2:List.take K.length (List.drop 0 (aC ((eH c (fr :: K)).take K.length) ++ List.replicate (K.length - K.length) [nilA])) = aC (eH c (fr :: K)):=by
            rw [Nat.sub_self,List.replicate_zero,List.append_nil,List.drop_zero,List.take_of_length_le (l:=eH c (fr :: K)) (by omega),List.take_of_length_le (by rw [aW];omega)]
          show AV.dB [.agg [_,.lst 1 _,.lst 1 _],_] = _
          rw [g1,g2,hN];rfl
    · refine Ev.Side.of ?_
      exact ⟨Nat.le_refl _,by simp,hNl,f1⟩
  all_goals first
    | (refine Ev.Side.of ?_;rw [hw];omega)
    | (refine Ev.zB ⟨?_,?_,?_,?_,?_,rfl,?_⟩ (by refine' Ev.zp <;> first | (first | exact congrArg (fun n=>aG.mk 1 3 _ 0 false (List.replicate n _)) hw1 | exact congrArg (fun n=>aG.mk 1 23 _ 0 false (List.replicate n _)) hw2 | (rw [hw1,hw2];rfl) | rfl) | rfl | (refine' Ev.ze;(first | exact congrArg (fun n=>aG.mk 1 3 _ 0 false (List.replicate n _)) hw1 | exact congrArg (fun n=>aG.mk 1 23 _ 0 false (List.replicate n _)) hw2 | (rw [hw1,hw2];rfl) | rfl)) | fail);trivial)
theorem YU:∀ c,Tryd.f61.body = some c -> comp c = (.seq (.reg 0 [I.n 0 3 (.box 27 (.tmp 0)),I.n 1 6 (.alloc 27),I.n 2 7 (I.si 0)]) (.seq (.reg 1 [I.n 0 21 (I.ld 27 3),I.n 1 22 (I.c1 85 21 27),I.n 2 8 (I.sa 22)]) (.seq (.seq (.reg 2 [I.n 0 23 (I.mv 8),I.n 1 24 (I.bc .neq 30 23 0 30)]) (.cond (.tmp 24) (.seq (.reg 3 [I.n 0 25 (.build 27 #[]),I.n 1 26 (I.mv 8),I.u 2 (I.st 27 6 25),I.n 3 7 (I.sa 26)]) .ret) .skip)) (.seq (.reg 4 [I.n 0 27 (I.fa 27 3 1),I.n 1 28 (I.ld 25 27),I.n 2 29 (I.mv 1),I.n 3 30 (I.mv 2),I.n 4 31 (.call { callee:=.value (.func 108),args:=#[.tmp 28,.tmp 29,.tmp 30],argTypes:=#[25,25,3] }),I.n 5 32 (.build 27 #[(1,.tmp 31)]),I.n 6 9 (.alloc 27),I.u 7 (I.st 27 9 32)]) (.seq (.draw 5 [I.n 0 34 (I.fa 27 3 1),I.n 1 35 (I.ld 25 34),I.n 2 36 (I.fa 27 9 1),I.n 3 37 (I.ld 25 36),I.n 4 38 (I.ic 25 37 0),I.n 5 39 (I.ld 3 38),I.n 6 40 (I.c2 109 35 39 25 3),I.n 7 33 (I.mv 40),I.n 8 41 (I.ex 33 0),I.n 9 42 (I.ex 33 1),I.n 10 43 (I.ex 33 2),I.n 11 10 (I.sa 41),I.n 12 11 (I.sa 42),I.n 13 12 (I.sa 43)] [[],[0],[],[2],[3],[4],[1,5],[6],[7],[7],[7],[8,6,0,1,2,3,4,5,6,7,8],[9,11,0,1,2,3,4,5,6,7,8,9,11],[10,12,0,1,2,3,4,5,6,7,8,9,10,11,12]]) (.seq (.reg 6 [I.n 0 45 (I.ld 27 3),I.n 1 46 (I.mv 10),I.n 2 47 (I.c2 110 45 46 27 3),I.n 3 44 (I.mv 47),I.n 4 48 (I.ex 44 0),I.n 5 49 (I.ex 44 1),I.n 6 50 (I.fa 27 9 0),I.u 7 (I.st 9 50 48)]) (.seq (.seq (.reg 7 [I.n 0 13 (I.si 1)]) (.block 0 (.loop (.seq (.seq (.reg 8 [I.n 0 51 (I.mv 13),I.n 1 52 (I.fa 27 9 1),I.n 2 53 (I.ld 25 52),I.n 3 54 (I.ln 53 25),I.n 4 55 (I.bo .lss 3 51 54 3)]) (.cond (.tmp 55) .skip (.exit 0))) (.seq (.block 1 (.seq (.draw 10 [I.n 0 59 (I.fa 27 3 1),I.n 1 60 (I.ld 25 59),I.n 2 61 (I.fa 27 9 1),I.n 3 62 (I.ld 25 61),I.n 4 63 (I.mv 13),I.n 5 64 (I.ia 25 62 63),I.n 6 65 (I.ld 3 64),I.n 7 66 (I.c2 109 60 65 25 3),I.n 8 58 (I.mv 66),I.n 9 67 (I.ex 58 0),I.n 10 68 (I.ex 58 1),I.n 11 69 (I.ex 58 2),I.n 12 14 (I.sa 67),I.n 13 15 (I.sa 68),I.n 14 16 (I.sa 69)] [[],[0],[],[2],[],[3,4],[5],[1,6],[7],[8],[8],[8],[9,7,0,1,2,3,4,5,6,7,8,9],[10,12,0,1,2,3,4,5,6,7,8,9,10,12],[11,13,0,1,2,3,4,5,6,7,8,9,10,11,12,13]]) (.seq (.reg 11 [I.n 0 71 (I.ld 27 3),I.n 1 72 (I.mv 10),I.n 2 73 (I.c2 110 71 72 27 3),I.n 3 70 (I.mv 73),I.n 4 74 (I.ex 70 0),I.n 5 75 (I.ex 70 1),I.n 6 17 (I.sa 74),I.n 7 18 (I.sa 75)]) (.seq (.draw 12 [I.n 0 77 (I.mv 17),I.n 1 78 (I.c1 70 77 9),I.n 2 79 (I.fa 27 3 2),I.n 3 80 (I.ld 22 79),I.n 4 81 (I.mv 10),I.n 5 82 (I.mv 14),I.n 6 83 (.slice 22 (.tmp 80) (some (.tmp 81)) (some (.tmp 82)) none),I.n 7 84 (I.c2 105 78 83 3 22),I.n 8 76 (I.mv 84),I.n 9 85 (I.ex 76 0),I.n 10 86 (I.ex 76 1),I.n 11 19 (I.sa 85),I.n 12 20 (I.sa 86)] [[],[0],[],[2],[],[],[3,4,5],[1,6,1],[7],[8],[8],[9,7,0,1,2,3,4,5,6,7,8,9],[10,11,0,1,2,3,4,5,6,7,8,9,10,11]]) (.seq (.reg 13 [I.n 0 87 (I.fa 27 9 2),I.n 1 88 (I.ld 22 87),I.n 2 89 (I.mv 19),I.n 3 90 (I.b1 22 89),I.n 4 91 (I.ap 88 90 22 22),I.n 5 92 (I.fa 27 9 2),I.u 6 (I.st 22 92 91)]) (.reg 14 [I.n 0 93 (I.mv 14),I.n 1 10 (I.sa 93)])))))) (.reg 9 [I.n 0 56 (I.mv 13),I.n 1 57 (I.bc .add 3 56 1 3),I.n 2 13 (I.sa 57)])))))) (.seq (.reg 15 [I.n 0 94 (I.ld 27 9),I.u 1 (I.st 27 6 94),I.n 2 7 (I.si 0)]) .ret)))))))):=by
 intro c h
 have:c = Tryd.f61.body.get rfl:=by rw [<- Option.some_inj,<- h];rfl
 rw [this];rfl
theorem Vw {c:Lg} (h:xJ c) {a b:Nat} (hab:a <= b) (hb:b <= c.ah.length):aA env 105 [.v (.int .i64 ((jW c).getD a 0)),.lst 1 (aC ((c.ah.drop a).take (b - a)))] (fun r hs=>r = .dB [.lst 3 (bD (ji c a b)),.v (.int .i64 0)] /\ hs = []):=by
 refine' ad2
 have:=P9 _ hm ((c.ah.drop a).take (b - a)) (by omega) (by omega) (by have:=sN (dJ h.e).2.2.1;have:=(dJ h.e).2.2.2.1;simp;omega) (fun x hx=>by
   have:=h.s.2.2.2 x (List.mem_of_mem_drop (List.mem_of_mem_take hx));exact ⟨by omega,this.2⟩)
 refine' agd
theorem YV {rs:List Int} (hs:rs.Pairwise (· < ·)) {k:Nat} (hk:k < rs.length):Ap rs rs[k] = k + 1:=by
 refine vO hk (fun x hx=>?_) (fun h=>?_)
 · obtain ⟨j,hj,rfl⟩:=List.getElem_of_mem hx
   rw [List.length_take] at hj
   rw [List.getElem_take]
   rcases Nat.lt_or_ge j k with h | h
   · have:=List.pairwise_iff_getElem.1 hs j k (by omega) hk h;omega
   · have:j = k:=by omega
     subst this;exact Int.le_refl _
 · have:=List.pairwise_iff_getElem.1 hs k (k + 1) hk h (Nat.lt_succ_self k);omega
theorem NU {rs:List Int} (hs:rs.Pairwise (· < ·)) {k:Nat} (hk:k < rs.length):JV rs rs[k] = ((k:Int),rs[k],0):=by
 have hg:rs.getD k 0 = rs[k]:=by rw [List.getD_eq_getElem?_getD,List.getElem?_eq_getElem hk];rfl
 rw [PV (m:=k + 1) (by omega) (YV hs hk) (.inr hg),Nat.add_sub_cancel,hg,if_pos rfl]
theorem ajR (rs:List Int) (hl:rs.length <= 100000000) (hs:rs.Pairwise (· < ·)) {k:Nat} (hk:k < rs.length):aA env 109 [.lst 1 (ints rs),.v (.int .i64 rs[k])] (fun x h=>x = .dB [.v (.int .i64 k),.v (.int .i64 rs[k]),.v (.int .i64 0)] /\ h = []):=by
 have:=X5 rs rs[k] hl hs
 rw [NU hs hk] at this;exact this
set_option maxHeartbeats 4000000 in
theorem Vx (c:Lg) (set:List Int) (f:Int) (hO:xJ c) (hl2:set.length <= 100000000):aA env 61 [kT c,.lst 1 (ints set),.v (.int .i64 f)] (fun r hs=>r = .dB [kT (lu c (uq c.revs set (dh c.revs f) c.revs.length)),.v (.int .i64 0)] /\ hs = []):=by
  obtain ⟨z1,z2,z3,z4,z5⟩:=dJ hO.e
  have alD:=vW c hO.s
  rw [hO.e] at alD
  have hz3:c.revs.length <= 65536 /\ dM (-1) c.revs = true:=by
    unfold rises at z3;simp only [Bool.and_eq_true,decide_eq_true_eq] at z3;exact ⟨z3.1.2,z3.2⟩
  have hpw:=(vY _ _ hz3.2).1
  have hK:=PX c.revs set f hO.s.2.1 hl2 hpw
  have hfr:dh c.revs f <= c.ah.length:=by have:=uo c.revs f;unfold dh;omega
  generalize dh c.revs f = fr at hK hfr ⊢
  obtain ⟨K,e0,k1,k2,k3⟩:=xB c.revs set (fr:=fr) (by omega)
  rw [e0] at hK ⊢
  have Zh:(fr :: K).length <= 65536:=by
    have:(fr :: K).length <= c.revs.length:=by
      rw [<- e0]
      have h1:=List.length_filter_le (Gs c.revs set fr) ((List.range c.revs.length).drop fr)
      unfold uq
      rw [List.length_drop,List.length_range] at h1;omega
    omega
  have hNl:(ints (rC c.revs (fr :: K))).length = K.length + 1:=by simp [rC]
  obtain ⟨N,hN⟩:∃ N,N = rC c.revs (fr :: K):=⟨_,rfl⟩
  rw [<- hN] at hK hNl
  have hm:2000000003 <= maxLen:=by decide
  rw [List.length_cons] at Zh
  have hfind:=fun (k:Nat) (hk:k < c.revs.length)=>ajR c.revs hO.s.2.1 hpw hk
  have hAt:∀ i,i <= c.ah.length -> aA env 110 [kT c,.v (.int .i64 i)] (fun r hs=>r = .dB [.v (.string (jD c i)),.v (.int .i64 0)] /\ hs = []):=fun i hi=>by
    have:=P8 c i hO.s (by have:=hO.b;omega)
    unfold atA at this
    rwa [Nz hO.e (fun x hx=>(hO.s.2.2.2 x hx).1) (by have:=hO.b;omega) hi] at this
  have h0N:0 < N.length:=by rw [<- bP];omega
  have hN0:N[0] = c.revs[fr]:=by
    subst hN;simp [rC,List.getD_eq_getElem?_getD,List.getElem?_eq_getElem (show fr < c.revs.length by omega)]
  have hF0:=hfind fr (by omega)
  rw [<- hN0] at hF0
  have hA0:=hAt fr hfr
  unfold kT at *
  refine Ev.fn [0,1,2,3,6,7,8,9,10,13,14,17,19,24,55] 0 [.cell 6 27,.tmp 7] Tryd.func61 (YU _ rfl) ?_
  repeat' (first | refine' Ev.zP | (with_reducible refine Ev.ajN 7 2096 9000 1 23 2 rfl rfl rfl ?_) | refine' Ev.zS | refine' Ev.zK | ((with_reducible refine Ev.ca0 ?_);(first | refine Ev.ca (alD) ?_ | refine Ev.ca (hK) ?_ | refine Ev.ca (hF0) ?_ | refine Ev.ca (hA0) ?_);conv=>whnf) | ((with_reducible refine Ev.dG ?_);(first | refine Ev.dr 5 [] [0,1,2,3,4,5,6,7,8,9,10,11,12,13] ?_ | refine Ev.dr 10 [] [0,1,2,3,4,5,6,7,8,9,10,11,12,13,14] ?_);intro Q hQ;(simp only [Ev.ak,Ev.au]);conv=>whnf) | ((with_reducible refine Ev.dG ?_);(first | refine Ev.drv 12 [] [(0,false),(2,false),(3,false),(4,false),(5,false),(6,true),(1,false),(7,false),(8,false),(9,false),(10,false),(11,false),(12,false)] ?_);intro Q hQ;(simp only [Ev.aX,Ev.aY,Ev.bG]);conv=>whnf) | refine' Ev.zT | fail)
  have hSl:(eH c (fr :: K)).length = K.length:=iC c fr K
  have anz:N.length = K.length + 1:=by rw [<- bP];exact hNl
  refine Ev.loop (fun k s=>∃ j c0 v3:Nat,s = ⟨[(3,.ptr 0 0 0 0),(6,.ptr 8 8 0 0),(9,.ptr 2096 16 0 0),(10,.v (.int .i64 ((fr :: K).getD j 0:Nat))),(13,.v (.int .i64 ((j + 1:Nat):Int)))],[(0,⟨3,27,0,0,true,[[.v (.string c.base),.lst 1 (ints c.revs),.lst 1 (aC c.ah)]]⟩),(8,⟨3,27,8,0,true,[[.v (.string ⟨#[]⟩),nilA,nilA]]⟩),(2096,⟨3,27,16,0,true,[[.v (.string (jD c fr)),.lst 1 (ints N),.own 9000 v3 0 j]]⟩),(9000,⟨1,23,v3,0,false,aC ((eH c (fr :: K)).take j)⟩)],c0⟩ /\ k + j = K.length) ?_ ?_
  · refine Ev.zB ⟨K.length,0,?_,?_,rfl,?_⟩
    omega
  rintro k s1 ⟨j,c0,v3,rfl,hk⟩
  by_cases hj:j < K.length
  · have hjj:((j + 1:Nat):Int) < ((ints N).length:Int):=by omega
    obtain ⟨a,ha⟩:∃ a,a = (fr :: K).getD j 0:=⟨_,rfl⟩
    obtain ⟨b,hb⟩:∃ b,b = (fr :: K).getD (j + 1) 0:=⟨_,rfl⟩
    rw [<- ha]
    obtain ⟨q1,q2⟩:a < b /\ b < c.revs.length:=by
      rw [ha,hb,List.getD_eq_getElem?_getD,List.getD_eq_getElem?_getD,List.getElem?_eq_getElem (by simp;omega),List.getElem?_eq_getElem (by simp;omega)]
      exact ⟨List.pairwise_iff_getElem.1 k1 _ _ _ _ (Nat.lt_succ_self j),k2 _ (List.getElem_mem _)⟩
    have hj1:j + 1 < N.length:=by omega
    have hNj:N[j + 1] = c.revs[b]:=by
      subst hN
      simp only [rC,List.getElem_map]
      rw [List.getD_eq_getElem?_getD]
      have:(fr :: K)[j + 1]'(by simp;omega) = b:=by
        rw [hb,List.getD_eq_getElem?_getD,List.getElem?_eq_getElem (by simp;omega)];rfl
      rw [this,List.getElem?_eq_getElem q2];rfl
    have hF1:=hfind b q2
    rw [<- hNj] at hF1
    have hA1:=hAt a (by omega)
    have hG:=kC hO.e (fun x hx=>(hO.s.2.2.2 x hx).1) (by have:=hO.b;omega) a
    have hC:=jq (jD c a) (by have:=hO.b;omega)
    have hU:aA env 105 [.v (.int .i64 (aN (jD c a).data.toList)),.lst 1 (List.take ((b:Int).toNat - (a:Int).toNat) (List.drop (a:Int).toNat (aC c.ah)))] (fun r hs=>r = .dB [.lst 3 (bD (ji c a b)),.v (.int .i64 0)] /\ hs = []):=by
      have:=Vw hO (Nat.le_of_lt q1) (show b <= c.ah.length by omega)
      have hs:jW c = Az (aN c.base.data.toList) c.ah:=if_pos hO.e
      rw [hs,uF _ _ _ (by omega),<- hG.2.2.1] at this
      rw [Int.toNat_natCast,Int.toNat_natCast,sJ]
      exact this
    unfold kT at hA1
    repeat' (first | (with_reducible first | refine Ev.aK hjj ?_ | refine Ev.aV hjj ?_ | refine Ev.aJ hjj ?_ | refine Ev.aP hjj ?_) | refine' Ev.zS | refine' Ev.zK | ((with_reducible refine Ev.ca0 ?_);(first | refine Ev.ca (hF1) ?_ | refine Ev.ca (hA1) ?_ | refine Ev.ca (hC) ?_ | refine Ev.ca (hU) ?_);conv=>whnf) | ((with_reducible refine Ev.dG ?_);(first | refine Ev.dr 5 [] [0,1,2,3,4,5,6,7,8,9,10,11,12,13] ?_ | refine Ev.dr 10 [] [0,1,2,3,4,5,6,7,8,9,10,11,12,13,14] ?_);intro Q hQ;(simp only [Ev.ak,Ev.au]);conv=>whnf) | ((with_reducible refine Ev.dG ?_);(first | refine Ev.drv 12 [] [(0,false),(2,false),(3,false),(4,false),(5,false),(6,true),(1,false),(7,false),(8,false),(9,false),(10,false),(11,false),(12,false)] ?_);intro Q hQ;(simp only [Ev.aX,Ev.aY,Ev.bG]);conv=>whnf) | refine' Ev.zT | fail)
    have hadd:aC ((eH c (fr :: K)).take j) ++ List.take 1 (List.drop 0 [[AV.lst 3 (bD (ji c a b))]]) = aC ((eH c (fr :: K)).take (j + 1)):=by
      rw [List.take_succ_eq_append_getElem (l:=eH c (fr :: K)) (i:=j) (by omega),lV,qB c fr K,<- ha,<- hb];rfl
    refine Ev.zA (k - 1) ⟨j + 1,?_,?_,rfl,?_⟩ (by refine' Ev.zp <;> first | (first | (rw [hb];done) | exact congrArg (fun n=>aG.mk 1 23 _ 0 false n) hadd | exact wrap_succ (by omega) | rfl) | rfl | (refine' Ev.ze;(first | (rw [hb];done) | exact congrArg (fun n=>aG.mk 1 23 _ 0 false n) hadd | exact wrap_succ (by omega) | rfl)) | fail)
    omega
  · have hjj:¬ ((j + 1:Nat):Int) < ((ints N).length:Int):=by omega
    repeat' (first | (with_reducible first | refine Ev.aK hjj ?_ | refine Ev.aV hjj ?_ | refine Ev.aJ hjj ?_ | refine Ev.aP hjj ?_) | refine' Ev.zS | refine' Ev.zK | ((with_reducible refine Ev.dG ?_);(first | refine Ev.dr 5 [] [0,1,2,3,4,5,6,7,8,9,10,11,12,13] ?_ | refine Ev.dr 10 [] [0,1,2,3,4,5,6,7,8,9,10,11,12,13,14] ?_);intro Q hQ;(simp only [Ev.ak,Ev.au]);conv=>whnf) | ((with_reducible refine Ev.dG ?_);(first | refine Ev.drv 12 [] [(0,false),(2,false),(3,false),(4,false),(5,false),(6,true),(1,false),(7,false),(8,false),(9,false),(10,false),(11,false),(12,false)] ?_);intro Q hQ;(simp only [Ev.aX,Ev.aY,Ev.bG]);conv=>whnf) | refine' Ev.zT | fail)
    obtain rfl:j = K.length:=by omega
    refine ⟨?_,rfl⟩
    have g2:List.take K.length (List.drop 0 (aC ((eH c (fr :: K)).take K.length))) = aC (eH c (fr :: K)):=by
      rw [List.drop_zero,List.take_of_length_le (l:=eH c (fr :: K)) (by omega),List.take_of_length_le (by rw [aW];omega)]
    show AV.dB [.agg [_,.lst 1 _,.lst 1 _],_] = _
    rw [g2,hN];rfl
def aeU:Ev.Tr:=(.one 0 false (.one 1 false (.one 2 false (.one 4 false (.one 5 false (.one 6 true (.any (.alt 3 (.any (.alt 7 (.one 8 true (.one 9 false (.one 10 false .fin))) (.alt 9 (.one 7 false (.one 8 true (.one 10 false .fin))) .stop))) (.alt 7 (.any (.alt 3 (.one 8 true (.one 9 false (.one 10 false .fin))) (.alt 9 (.one 3 false (.one 8 true (.one 10 false .fin))) .stop))) (.alt 9 (.any (.alt 3 (.one 7 false (.one 8 true (.one 10 false .fin))) (.alt 7 (.one 3 false (.one 8 true (.one 10 false .fin))) .stop))) .stop))))))))))
def aeV:Ev.Pl:=(.one 0 false (.one 1 false (.one 2 false (.one 3 false (.one 4 false (.one 5 false (.one 6 true (.one 7 true (.one 8 false (.one 9 false (.two 10 (.one 11 false (.one 12 false (.one 13 false (.one 14 false (.one 15 false (.one 16 false .fin)))))) 14 (.one 10 false (.one 11 false (.one 12 false (.one 13 false (.one 15 false (.one 16 false .fin)))))))))))))))))
def aeW:Ev.Pl:=(.one 0 false (.one 1 false (.one 2 false (.one 3 false (.one 4 false (.one 5 false (.one 6 true (.one 7 true (.one 8 false (.one 9 false (.two 10 (.one 11 false (.one 12 false (.one 13 false (.one 14 false (.one 15 false (.one 16 false .fin)))))) 14 (.one 10 false (.one 11 false (.one 12 false (.one 13 false (.one 15 false (.one 16 false .fin)))))))))))))))))
theorem ajS:∀ c,Tryd.f58.body = some c -> comp c = (.seq (.reg 0 [I.n 0 0 (I.sb false)]) (.seq (.reg 1 [I.n 0 4 (.buildSlice 25 4 #[(0,.const (Value.int .i64 0)),(1,.const (Value.int .i64 1)),(2,.const (Value.int .i64 2)),(3,.const (Value.int .i64 3))]),I.n 1 5 (.build 35 #[(0,.const (Value.int .i64 2)),(2,.const (Value.string { data:=#[98] }))]),I.n 2 6 (.build 35 #[(0,.const (Value.int .i64 1)),(1,.const (Value.int .i64 1))]),I.n 3 7 (.buildSlice 23 2 #[(0,.tmp 5),(1,.tmp 6)]),I.n 4 8 (.build 35 #[(0,.const (Value.int .i64 3)),(1,.const (Value.int .i64 1))]),I.n 5 9 (.build 35 #[(0,.const (Value.int .i64 1)),(1,.const (Value.int .i64 1))]),I.n 6 10 (.buildSlice 23 2 #[(0,.tmp 8),(1,.tmp 9)]),I.n 7 11 (.build 35 #[(0,.const (Value.int .i64 2)),(2,.const (Value.string { data:=#[99] }))]),I.n 8 12 (.build 35 #[(0,.const (Value.int .i64 1)),(1,.const (Value.int .i64 1))]),I.n 9 13 (.buildSlice 23 2 #[(0,.tmp 11),(1,.tmp 12)]),I.n 10 14 (.buildSlice 22 3 #[(0,.tmp 7),(1,.tmp 10),(2,.tmp 13)]),I.n 11 15 (.build 27 #[(0,.const (Value.string { data:=#[97] })),(1,.tmp 4),(2,.tmp 14)]),I.n 12 1 (.alloc 27),I.u 13 (I.st 27 1 15)]) (.seq (.reg 2 [I.n 0 17 (I.ld 27 1),I.n 1 18 (.buildSlice 25 1 #[(0,.const (Value.int .i64 2))]),I.n 2 19 (.call { callee:=.value (.func 60),args:=#[.tmp 17,.tmp 18,.const (Value.int .i64 0)],argTypes:=#[27,25,3] }),I.n 3 16 (I.mv 19),I.n 4 20 (I.ex 16 0),I.n 5 21 (I.ex 16 1),I.n 6 2 (.alloc 27),I.u 7 (I.st 27 2 20),I.n 8 3 (I.sa 21)]) (.seq (.draw 3 [I.n 0 22 (I.mv 3),I.n 1 23 (I.bc .eql 30 22 0 30),I.n 2 24 (I.mv 23),I.w 3 25 (I.fa 27 2 2) 24 true,I.w 4 26 (I.ld 22 25) 24 true,I.w 5 27 (I.ln 26 22) 24 true,I.w 6 28 (I.bc .eql 3 27 2 3) 24 true,I.n 7 29 (I.pc 24 28 false),I.n 8 30 (I.mv 29),I.w 9 31 (I.fa 27 2 2) 30 true,I.w 10 32 (I.ld 22 31) 30 true,I.w 11 33 (I.ic 22 32 0) 30 true,I.w 12 34 (I.ld 23 33) 30 true,I.w 13 35 (.build 35 #[(0,.const (Value.int .i64 1)),(1,.const (Value.int .i64 1))]) 30 true,I.w 14 36 (I.b1 23 35) 30 true,I.w 15 37 (I.c2 34 34 36 23 23) 30 true,I.n 16 38 (I.pc 30 37 false),I.n 17 39 (I.mv 38),I.w 18 40 (I.fa 27 2 2) 39 true,I.w 19 41 (I.ld 22 40) 39 true,I.w 20 42 (I.ic 22 41 1) 39 true,I.w 21 43 (I.ld 23 42) 39 true,I.w 22 44 (I.fa 27 1 2) 39 true,I.w 23 45 (I.ld 22 44) 39 true,I.w 24 46 (I.ic 22 45 2) 39 true,I.w 25 47 (I.ld 23 46) 39 true,I.w 26 48 (I.c2 34 43 47 23 23) 39 true,I.n 27 49 (I.pc 39 48 false),I.n 28 50 (I.mv 49),I.w 29 51 (I.fa 27 2 1) 50 true,I.w 30 52 (I.ld 25 51) 50 true,I.w 31 53 (I.ic 25 52 1) 50 true,I.w 32 54 (I.ld 3 53) 50 true,I.w 33 55 (I.bc .eql 3 54 2 3) 50 true,I.n 34 56 (I.pc 50 55 false),I.n 35 0 (I.sa 56)] [[],[0],[1],[2],[3,2],[4,2],[5,2],[2,6],[7,2],[8],[9,8],[10,8],[11,8],[8],[13,8],[12,14,8,8],[8,15],[16,15],[17],[18,17],[19,17],[20,17],[17],[22,17],[23,17],[24,17],[21,25,17,17],[17,26],[27,26],[28],[29,28],[30,28],[31,28],[32,28],[28,33],[34,28,0,1,2,3,4,5,6,7,8,9,10,11,12,13,14,15,16,17,18,19,20,21,22,23,24,25,26,27,28,29,30,31,32,33,34]]) .ret)))):=by
 intro c h
 have:c = Tryd.f58.body.get rfl:=by rw [<- Option.some_inj,<- h];rfl
 rw [this];rfl
theorem ajT:∀ c,Tryd.f13.body = some c -> comp c = (.seq (.reg 0 [I.n 0 2 (.box 27 (.tmp 0)),I.n 1 3 (.box 85 (.tmp 1)),I.n 2 4 (I.sb false)]) (.seq (.reg 1 [I.n 0 11 (I.c0 58),I.n 1 5 (I.sa 11)]) (.seq (.reg 2 [I.n 0 12 (I.ld 27 2),I.n 1 13 (I.c1 59 12 27),I.n 2 6 (.alloc 27),I.u 3 (I.st 27 6 13)]) (.seq (.draw 3 [I.n 0 15 (I.ld 27 6),I.n 1 16 (I.fa 85 3 0),I.n 2 17 (I.ld 25 16),I.n 3 18 (I.fa 85 3 0),I.n 4 19 (I.ld 25 18),I.n 5 20 (I.ln 19 25),I.n 6 21 (.call { callee:=.builtin .min,args:=#[.tmp 20,.const (Value.int .i64 30)],argTypes:=#[3,3] }),I.n 7 22 (.slice 25 (.tmp 17) none (some (.tmp 21)) none),I.n 8 23 (I.fa 85 3 1),I.n 9 24 (I.ld 3 23),I.n 10 25 (.call { callee:=.value (.func 60),args:=#[.tmp 15,.tmp 22,.tmp 24],argTypes:=#[27,25,3] }),I.n 11 14 (I.mv 25),I.n 12 26 (I.ex 14 0),I.n 13 27 (I.ex 14 1),I.n 14 7 (.alloc 27),I.u 15 (I.st 27 7 26),I.n 16 8 (I.sa 27)] [[],[],[1],[],[3],[4],[5],[2,6],[],[8],[0,7,9],[10],[11],[11],[],[14,12,10,0,1,2,3,4,5,6,7,8,9,10,11,12,14],[13,15,0,1,2,3,4,5,6,7,8,9,10,11,12,13,14,15]]) (.seq (.draw 4 [I.n 0 29 (I.ld 27 6),I.n 1 30 (I.fa 85 3 0),I.n 2 31 (I.ld 25 30),I.n 3 32 (I.fa 85 3 0),I.n 4 33 (I.ld 25 32),I.n 5 34 (I.ln 33 25),I.n 6 35 (.call { callee:=.builtin .min,args:=#[.tmp 34,.const (Value.int .i64 30)],argTypes:=#[3,3] }),I.n 7 36 (.slice 25 (.tmp 31) none (some (.tmp 35)) none),I.n 8 37 (I.fa 85 3 1),I.n 9 38 (I.ld 3 37),I.n 10 39 (.call { callee:=.value (.func 61),args:=#[.tmp 29,.tmp 36,.tmp 38],argTypes:=#[27,25,3] }),I.n 11 28 (I.mv 39),I.n 12 40 (I.ex 28 0),I.n 13 41 (I.ex 28 1),I.n 14 9 (.alloc 27),I.u 15 (I.st 27 9 40),I.n 16 10 (I.sa 41)] [[],[],[1],[],[3],[4],[5],[2,6],[],[8],[0,7,9],[10],[11],[11],[],[14,12,10,0,1,2,3,4,5,6,7,8,9,10,11,12,14],[13,15,0,1,2,3,4,5,6,7,8,9,10,11,12,13,14,15]]) (.seq (.reg 5 [I.n 0 42 (I.mv 5),I.n 1 43 (I.mv 42),I.w 2 44 (I.ld 27 7) 43 true,I.w 3 45 (I.ld 27 9) 43 true,I.w 4 46 (I.c2 28 44 45 27 27) 43 true,I.n 5 47 (I.pc 43 46 false),I.n 6 48 (I.mv 47),I.w 7 49 (I.mv 8) 48 true,I.w 8 50 (I.mv 10) 48 true,I.w 9 51 (I.bo .eql 30 49 50 30) 48 true,I.n 10 52 (I.pc 48 51 false),I.n 11 4 (I.sa 52)]) .ret)))))):=by
 intro c h
 have:c = Tryd.f13.body.get rfl:=by rw [<- Option.some_inj,<- h];rfl
 rw [this];rfl
def fD (c:Lg) (set:List Int) (f:Int):List Nat:=uq c.revs set (dh c.revs f) c.revs.length
def GN (c:Lg) (set:List Int) (f:Int):Lg:=if nP c = 0 then lu c (fD c set f) else lgE
theorem aeX (c:Lg) (set:List Int) (f:Int) (hS:II c) (he:nP c ≠ 0):aA env 60 [kT c,.lst 1 (ints set),.v (.int .i64 f)] (fun r hs=>r = .dB [kT lgE,.v (.int .i64 (nP c))] /\ hs = []):=by
 refine aA.BJ ?_ (je.SY (je.JC (je.refl (.v (.string ⟨#[]⟩))) (je.nil 1) (je.nil 1)) (je.refl _))
 have hSz:=vS c hS
 generalize nP c = e at hSz he ⊢
 unfold kT at *
 refine Ev.fn [0,1,2,3,6,7,8,9,10,11,12,13,14,15,22,36,59,60,61,74,95] 0 [.cell 6 27,.tmp 7] Tryd.func60 (YT _ rfl) ?_
 repeat' (first | (with_reducible first | refine Ev.aK he ?_ | refine Ev.aV he ?_ | refine Ev.aJ he ?_ | refine Ev.aP he ?_) | refine' Ev.zS | refine' Ev.zK | ((with_reducible refine Ev.ca0 ?_);(first | refine Ev.ca (hSz) ?_);conv=>whnf) | ((with_reducible refine Ev.dG ?_);(first | refine Ev.dr 15 [] [0,1,2,3,4,5,6,7,8,9,10] ?_ | refine Ev.dr 17 [] [0,1,2,3,4,5,6,7,8,9,10,11,12,13,14,15,16,17,18] ?_);intro Q hQ;(simp only [Ev.ak,Ev.au]);conv=>whnf) | ((with_reducible refine Ev.dG ?_);(first | refine Ev.dru 9 [] [[],[],[1],[1,2],[],[4],[4,5],[4,5,6],[0,1,2,3,4,5,6,7],[],[0,1,2,3,4,5,6,7,8,9]] aeU ?_);intro Q hQ;(simp only [Ev.oM,Ev.lI,Ev.lJ,Ev.lK,Ev.oN,Ev.oO]);conv=>whnf) | ((with_reducible refine Ev.both ?_ ?_) <;> (conv=>whnf)) | exact True.intro | refine' Ev.zT | fail)
 all_goals exact ⟨rfl,rfl⟩
theorem YW (c:Lg) (set:List Int) (f:Int) (hS:II c) (he:nP c ≠ 0):aA env 61 [kT c,.lst 1 (ints set),.v (.int .i64 f)] (fun r hs=>r = .dB [kT lgE,.v (.int .i64 (nP c))] /\ hs = []):=by
 refine aA.BJ ?_ (je.SY (je.JC (je.refl (.v (.string ⟨#[]⟩))) (je.nil 1) (je.nil 1)) (je.refl _))
 have hSz:=vW c hS
 generalize nP c = e at hSz he ⊢
 unfold kT at *
 refine Ev.fn [0,1,2,3,6,7,8,9,10,13,14,17,19,24,55] 0 [.cell 6 27,.tmp 7] Tryd.func61 (YU _ rfl) ?_
 repeat' (first | (with_reducible first | refine Ev.aK he ?_ | refine Ev.aV he ?_ | refine Ev.aJ he ?_ | refine Ev.aP he ?_) | refine' Ev.zS | refine' Ev.zK | ((with_reducible refine Ev.ca0 ?_);(first | refine Ev.ca (hSz) ?_);conv=>whnf) | ((with_reducible refine Ev.dG ?_);(first | refine Ev.dr 5 [] [0,1,2,3,4,5,6,7,8,9,10,11,12,13] ?_ | refine Ev.dr 10 [] [0,1,2,3,4,5,6,7,8,9,10,11,12,13,14] ?_);intro Q hQ;(simp only [Ev.ak,Ev.au]);conv=>whnf) | ((with_reducible refine Ev.dG ?_);(first | refine Ev.drv 12 [] [(0,false),(2,false),(3,false),(4,false),(5,false),(6,true),(1,false),(7,false),(8,false),(9,false),(10,false),(11,false),(12,false)] ?_);intro Q hQ;(simp only [Ev.aX,Ev.aY,Ev.bG]);conv=>whnf) | refine' Ev.zT | fail)
 all_goals exact ⟨rfl,rfl⟩
theorem Jc (c:Lg) (set:List Int) (f:Int) (hS:II c) (hb:c.base.size + gV c.ah <= 900000) (hl:gI c.ah <= 900000) (hl2:set.length <= 100000000):aA env 60 [kT c,.lst 1 (ints set),.v (.int .i64 f)] (fun r hs=>r = .dB [kT (GN c set f),.v (.int .i64 (nP c))] /\ hs = []):=by
 unfold GN
 by_cases h:nP c = 0
 · have:=jZ c set f ⟨hS,h,hb,hl⟩ hl2
   rw [if_pos h,h];exact this
 · rw [if_neg h];exact aeX c set f hS h
theorem Qg (c:Lg) (set:List Int) (f:Int) (hS:II c) (hb:c.base.size + gV c.ah <= 900000) (hl:gI c.ah <= 900000) (hl2:set.length <= 100000000):aA env 61 [kT c,.lst 1 (ints set),.v (.int .i64 f)] (fun r hs=>r = .dB [kT (GN c set f),.v (.int .i64 (nP c))] /\ hs = []):=by
 unfold GN
 by_cases h:nP c = 0
 · have:=Vx c set f ⟨hS,h,hb,hl⟩ hl2
   rw [if_pos h,h];exact this
 · rw [if_neg h];exact YW c set f hS h
def YX:Lg:=⟨⟨#[97]⟩,[0,1,2,3],[[⟨2,0,⟨#[98]⟩⟩,⟨1,1,⟨#[]⟩⟩],[⟨3,1,⟨#[]⟩⟩,⟨1,1,⟨#[]⟩⟩],[⟨2,0,⟨#[99]⟩⟩,⟨1,1,⟨#[]⟩⟩]]⟩
theorem ajU:nP YX = 0:=by decide +kernel
theorem ajV:GN YX [2] 0 = ⟨⟨#[97]⟩,[0,2,3],[[⟨1,1,⟨#[]⟩⟩],[⟨2,0,⟨#[99]⟩⟩,⟨1,1,⟨#[]⟩⟩]]⟩:=by rfl
theorem jL:aA env 58 [] (fun r hs=>r = .v (.bool true) /\ hs = []):=by
 have hS:II YX:=⟨by decide,by decide,by decide,fun x hx=>by simp only [YX,List.mem_cons,List.not_mem_nil,or_false] at hx;rcases hx with rfl | rfl | rfl <;> exact ⟨by decide,fM (by decide)⟩⟩
 have hC:=Jc YX [2] 0 hS (by decide) (by decide) (by decide)
 rw [ajU,ajV] at hC
 have h1:=wO [⟨1,1,⟨#[]⟩⟩] [⟨1,1,⟨#[]⟩⟩] (by decide)
 have h2:=wO [⟨2,0,⟨#[99]⟩⟩,⟨1,1,⟨#[]⟩⟩] [⟨2,0,⟨#[99]⟩⟩,⟨1,1,⟨#[]⟩⟩] (by decide)
 unfold kT at hC
 refine Ev.fn [0,1,2,3] 0 [.tmp 0] Tryd.func58 (ajS _ rfl) ?_
 repeat' (first | refine' Ev.zP | refine' Ev.zS | refine' Ev.zK | ((with_reducible refine Ev.ca0 ?_);(first | refine Ev.ca (hC) ?_ | refine Ev.ca (h1) ?_ | refine Ev.ca (h2) ?_);conv=>whnf) | ((with_reducible refine Ev.dG ?_);(first | refine Ev.dr 3 [] [0,1,2,3,4,5,6,7,8,9,10,11,12,13,14,15,16,17,18,19,20,21,22,23,24,25,26,27,28,29,30,31,32,33,34,35] ?_);intro Q hQ;(simp only [Ev.ak,Ev.au]);conv=>whnf) | refine' Ev.zT | fail)
 all_goals exact ⟨rfl,rfl⟩
theorem NV {l:List Nat} {n d:Nat} (h:n < l.length):l.getD n d = l[n]:=by rw [List.getD_eq_getElem?_getD,List.getElem?_eq_getElem h];rfl
theorem CV {c:Lg} (hO:xJ c) (set:List Int) (f:Int):II (lu c (fD c set f)) /\ (lu c (fD c set f)).base.size <= 900000:=by
 obtain ⟨z1,z2,z3,z4,z5⟩:=dJ hO.e
 have hb:=hO.b
 have hl:=hO.l
 have htt:gZ c.ah = gV c.ah:=rfl
 have hr:=sN z3
 have hfr:dh c.revs f <= c.ah.length:=by have:=uo c.revs f;unfold dh;omega
 obtain ⟨K,e0,k1,k2,k3⟩:=xB c.revs set (fr:=dh c.revs f) (by omega)
 have eK:fD c set f = dh c.revs f :: K:=e0
 rw [eK]
 have Zh:(dh c.revs f :: K).length <= c.revs.length:=by
   rw [<- e0]
   have h1:=List.length_filter_le (Gs c.revs set (dh c.revs f)) ((List.range c.revs.length).drop (dh c.revs f))
   unfold uq
   rw [List.length_drop,List.length_range] at h1;omega
 have hba:=(kC hO.e (fun x hx=>(hO.s.2.2.2 x hx).1) (by omega) (dh c.revs f)).2.2.2
 have hbs:(lu c (dh c.revs f :: K)).base.size <= 900000:=Nat.le_trans hba hb
 refine ⟨⟨by omega,?_,?_,fun x hx=>?_⟩,hbs⟩
 · show (rC c.revs _).length <= _
   rw [rC,List.length_map];omega
 · show (eH c _).length <= _
   rw [iC];simp only [List.length_cons] at Zh;omega
 · have hx:x ∈ eH c (dh c.revs f :: K):=hx
   obtain ⟨i,hi,rfl⟩:=List.getElem_of_mem hx
   rw [qB]
   rw [iC] at hi
   have h1:(dh c.revs f :: K).getD i 0 = (dh c.revs f :: K)[i]'(by simp;omega):=NV _
   have h2:(dh c.revs f :: K).getD (i + 1) 0 = (dh c.revs f :: K)[i + 1]'(by simp;omega):=NV _
   rw [h1,h2]
   have h3:=List.pairwise_iff_getElem.1 k1 i (i + 1) (by simp;omega) (by simp;omega) (Nat.lt_succ_self i)
   have h4:=k2 _ (List.getElem_mem (show i + 1 < (dh c.revs f :: K).length by simp;omega))
   obtain ⟨-,-,-,-,g5,g6,g7,g8⟩:=CU hO (Nat.le_of_lt h3) (by omega)
   exact ⟨by omega,fM (by omega)⟩
theorem Qh (c:Lg) (set:List Int) (f:Int) (hS:II c) (hb:c.base.size + gV c.ah <= 900000) (hl:gI c.ah <= 900000):II (GN c set f):=by
 unfold GN
 by_cases h:nP c = 0
 · rw [if_pos h];exact (CV ⟨hS,h,hb,hl⟩ set f).1
 · rw [if_neg h];exact ⟨by decide,by decide,by decide,fun x hx=>by cases hx⟩
theorem Vy (c:Lg):gI (uG c).ah <= 160:=by
 have h:=Eo (k:=20) (uG c).ah (fun x hx=>by obtain ⟨y,_,rfl⟩:=List.mem_map.1 hx;have:=J6 y;exact this)
 have h3:(uG c).ah.length <= 8:=by show ((c.ah.take 8).map jA).length <= 8;rw [List.length_map,List.length_take];omega
 omega
theorem YZ (S:List Int):List.take ((min ((ints S).length:Int) 30).toNat - 0) (List.drop 0 (ints S)) = ints (S.take 30):=by
 rw [List.drop_zero,Nat.sub_zero,bP]
 rw [show (min (S.length:Int) 30).toNat = min 30 S.length by omega]
 unfold ints
 rw [<- List.map_take,<- List.take_take,List.take_length]
theorem DV (c:Lg) (S:List Int) (F:Int):aA env 13 [kT c,.agg [.lst 1 (ints S),.v (.int .i64 F)]] (fun r hs=>r = .v (.bool true) /\ hs = []):=by
 have hS:=jL
 have hF:=Qe c
 have hcut:=YZ S
 have hw:=Qc c
 have hwl:=Vy c
 have hC:=Jc (uG c) (S.take 30) F hw.1 (by omega) (by omega) (by rw [List.length_take];omega)
 have hR:=Qg (uG c) (S.take 30) F hw.1 (by omega) (by omega) (by rw [List.length_take];omega)
 have hM:=jC (GN (uG c) (S.take 30) F) (GN (uG c) (S.take 30) F) (Qh _ _ _ hw.1 (by omega) (by omega))
 rw [jB] at hM
 rw [<- hcut] at hC hR
 generalize hL:GN (uG c) (S.take 30) F = d at *
 unfold kT at *
 refine Ev.fn [0,1,2,3,4,5,6,7,8,9,10] 0 [.tmp 4] Tryd.func13 (ajT _ rfl) ?_
 repeat' (first | refine' Ev.zP | refine' Ev.zS | refine' Ev.zK | ((with_reducible refine Ev.ca0 ?_);(first | refine Ev.ca (hS) ?_ | refine Ev.ca (hF) ?_ | refine Ev.ca (hC) ?_ | refine Ev.ca (hR) ?_ | refine Ev.ca (hM) ?_);conv=>whnf) | ((with_reducible refine Ev.dG ?_);(first | refine Ev.H7 3 [] aeV ?_ | refine Ev.H7 4 [] aeW ?_);intro Q hQ;(simp only [Ev.gK,Ev.eP,Ev.eU,Ev.gQ]);conv=>whnf) | ((with_reducible refine Ev.both ?_ ?_) <;> (conv=>whnf)) | refine' Ev.zT | fail)
 all_goals exact ⟨Ev.jd (decide_eq_true rfl),rfl⟩
end Go.Proofs.YtadlnaljicikfaaDoor.aB
