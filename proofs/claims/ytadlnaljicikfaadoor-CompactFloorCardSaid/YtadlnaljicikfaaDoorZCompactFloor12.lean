/- A part of the proof: a calculus over values, and contracts of functions. No condition. -/
import Derived.Test.YtadlnaljicikfaaDoorZC11
set_option linter.unusedVariables false
set_option linter.unusedSimpArgs false
namespace Go.Proofs.YtadlnaljicikfaaDoor.aB
open Go Go.Lib
def Bl:Nat -> List (List Sp) -> Prop
 | _,[]=>True
 | n,x :: L=>IU x /\ bV (dO x) = n /\ bg (dO x) <= 1048576 /\ Bl (bg (dO x)) L
def iQ:Nat -> List (List Sp) -> Nat
 | n,[]=>n
 | _,x :: L=>iQ (bg (dO x)) L
def foldM:List Mk -> List (List Sp) -> List Mk
 | m,[]=>m
 | m,x :: L=>foldM (dD (dO x) m) L
theorem Jd:∀ (a b:List (List Sp)) (m:List Mk),foldM m (a ++ b) = foldM (foldM m a) b
 | [],b,m=>rfl
 | x :: a,b,m=>Jd a b _
theorem NW:∀ (a b:List (List Sp)) (n:Nat),iQ n (a ++ b) = iQ (iQ n a) b
 | [],b,n=>rfl
 | x :: a,b,n=>NW a b _
theorem Bl.app:∀ {a b:List (List Sp)} {n:Nat},Bl n (a ++ b) ↔ Bl n a /\ Bl (iQ n a) b
 | [],b,n=>⟨fun h=>⟨trivial,h⟩,fun h=>h.2⟩
 | x :: a,b,n=>by
   simp only [List.cons_append,Bl,iQ,Bl.app (a:=a),and_assoc]
theorem uH:∀ (L:List (List Sp)) (m:List Mk),Bl (bg m) L -> bV (foldM m L) = bV m /\ bg (foldM m L) = iQ (bg m) L
 | [],m,_=>⟨rfl,rfl⟩
 | x :: L,m,h=>by
   obtain ⟨h1,h2,h3,h4⟩:=h
   obtain ⟨s1,s2,_⟩:=kP (fun _=>0) (dO x) m h2.symm
   obtain ⟨i1,i2⟩:=uH L (dD (dO x) m) (by rw [s2];exact h4)
   exact ⟨i1.trans s1,by rw [s2] at i2;exact i2⟩
theorem xC:∀ (L:List (List Sp)) (m:List Mk),Bl (bg m) L -> foldM m L = dD (foldM (dQ (bg m)) L) m
 | [],m,_=>(Vg m).symm
 | x :: L,m,h=>by
   obtain ⟨h1,h2,h3,h4⟩:=h
   obtain ⟨s1,s2,_⟩:=kP (fun _=>0) (dO x) m h2.symm
   have e1:dD (dO x) (dQ (bg m)) = dO x:=by rw [<- h2];exact lY _
   show foldM (dD (dO x) m) L = dD (foldM (dD (dO x) (dQ (bg m))) L) m
   rw [e1,xC L (dD (dO x) m) (by rw [s2];exact h4),s2,xC L (dO x) h4]
   have hz:=uH L (dQ (bg (dO x))) (by rw [kQ];exact h4)
   rw [jw _ _ _ h2.symm (by rw [hz.1,rV])]
theorem NY:∀ (L:List (List Sp)) (b:List Sp),IU b -> Bl (bg (dO b)) L -> (dS b L).2 = 0 -> IU (dS b L).1 /\ dO (dS b L).1 = foldM (dO b) L
 | [],b,h,_,_=>⟨h,rfl⟩
 | x :: L,b,h,hc,h0=>by
   obtain ⟨h1,h2,h3,h4⟩:=hc
   have hz:=bI h.ops.all
   have hx:=bI h1.ops.all
   obtain ⟨o1,o2,o3,o4,-⟩:=pG h.ops h1.ops (by omega)
   simp only [dS] at h0 ⊢
   by_cases hE:jh b x = 0
   · rw [if_pos hE] at h0 ⊢
     have hm:bg (dO (jR b x)) = bg (dO x):=by have:=bI o1.ops.all;omega
     obtain ⟨i1,i2⟩:=NY L (jR b x) o1 (by rw [hm];exact h4) h0
     exact ⟨i1,by rw [i2,o2];rfl⟩
   · rw [if_neg hE] at h0;exact absurd h0 hE
theorem Vz {n:Int} (hn:0 <= n /\ n <= 1048576):IU (dU n) /\ dO (dU n) = dQ n.toNat:=by
 have hm:=(sG hn).1
 have ho:=(qM.of hm (by have:=(sF n).2;omega)).1
 unfold dU at ho ⊢
 by_cases h:n = 0
 · rw [if_pos h] at ho ⊢;subst h;exact ⟨⟨ho,rfl⟩,rfl⟩
 · rw [if_neg h] at ho ⊢
   refine ⟨⟨ho,?_⟩,?_⟩
   · simp [GH,oW,emptyS,h]
   · rw [adT];rfl
theorem Gg:∀ (L:List (List Sp)) (n:Int),dA n L = 0 -> (∀ x ∈ L,x.length <= 10000000 /\ dw x <= 100000000) -> 0 <= n -> Bl n.toNat L /\ (iQ n.toNat L:Int) = dY n L
 | [],n,_,_,h=>⟨trivial,by simp [iQ,dY];omega⟩
 | x :: L,n,hs,hx,hn=>by
   simp only [dA] at hs
   by_cases h0:iq n x = 0
   · rw [if_pos h0] at hs
     obtain ⟨a,b,c,d,e⟩:=xw h0
     obtain ⟨l1,l2⟩:=hx x (by simp)
     obtain ⟨o1,o2⟩:=qM.of a (by omega)
     have hz:=bI o1.all
     obtain ⟨p1,p2⟩:=yR a l1 l2
     have hout:(bg (dO x):Int) = outW x:=by omega
     obtain ⟨i1,i2⟩:=Gg L (outW x) hs (fun y hy=>hx y (by simp [hy])) p1
     have e1:(outW x).toNat = bg (dO x):=by omega
     rw [e1] at i1 i2
     exact ⟨⟨⟨o1,d⟩,by omega,by omega,i1⟩,i2⟩
   · rw [if_neg h0] at hs;exact absurd hs h0
def runM (n:Nat) (S:List (List Sp)) (a b:Nat):List Mk:=foldM (dQ (iQ n (S.take a))) ((S.drop a).take (b - a))
theorem Bl.split {n:Nat} {S:List (List Sp)} (h:Bl n S) (a:Nat):Bl n (S.take a) /\ Bl (iQ n (S.take a)) (S.drop a):=by
 rw [<- List.take_append_drop a S] at h;exact Bl.app.1 h
theorem Gi {α:Type} (S:List α) {a b:Nat} (h:a <= b):S.take b = S.take a ++ (S.drop a).take (b - a):=by
 have:=List.take_add (l:=S) (i:=a) (j:=b - a)
 rwa [show a + (b - a) = b by omega] at this
theorem Bl.part {n:Nat} {S:List (List Sp)} (h:Bl n S) {a b:Nat} (hab:a <= b):Bl (iQ n (S.take a)) ((S.drop a).take (b - a)) /\ iQ (iQ n (S.take a)) ((S.drop a).take (b - a)) = iQ n (S.take b):=by
 have:=(h.split b).1
 rw [Gi S hab] at this
 exact ⟨(Bl.app.1 this).2,by rw [Gi S hab,NW]⟩
theorem Je {n:Nat} {S:List (List Sp)} (h:Bl n S) {a b:Nat} (hab:a <= b):bV (runM n S a b) = iQ n (S.take a) /\ bg (runM n S a b) = iQ n (S.take b):=by
 obtain ⟨h1,h2⟩:=h.part hab
 have:=uH ((S.drop a).take (b - a)) (dQ (iQ n (S.take a))) (by rw [kQ];exact h1)
 rw [rV,kQ,h2] at this;exact this
theorem xE (n:Nat) (S:List (List Sp)) (a:Nat):runM n S a a = dQ (iQ n (S.take a)):=by
 unfold runM;rw [Nat.sub_self,List.take_zero];rfl
theorem NZ {n:Nat} {S:List (List Sp)} (h:Bl n S) {a b d:Nat} (hab:a <= b) (hbd:b <= d):runM n S a d = dD (runM n S b d) (runM n S a b):=by
 have e:(S.drop a).take (d - a) = (S.drop a).take (b - a) ++ (S.drop b).take (d - b):=by
   rw [Gi (S.drop a) (show b - a <= d - a by omega),List.drop_drop,show a + (b - a) = b by omega,show d - a - (b - a) = d - b by omega]
 have hz:=Je h hab
 unfold runM at hz ⊢
 rw [e,Jd,xC _ (foldM (dQ (iQ n (S.take a))) ((S.drop a).take (b - a))) (by rw [hz.2];exact (h.part hbd).1),hz.2]
theorem N7 {n:Nat} {S:List (List Sp)} (h:Bl n S) {a:Nat} (ha:a < S.length):runM n S a (a + 1) = dO S[a]:=by
 have h1:=(h.split a).2
 rw [List.drop_eq_getElem_cons ha] at h1
 unfold runM
 rw [Nat.add_sub_cancel_left,List.drop_eq_getElem_cons ha,List.take_succ_cons,List.take_zero]
 show dD (dO S[a]) (dQ _) = _
 rw [<- h1.2.1];exact lY _
theorem gD {α:Type} {l:List α} {n:Nat} {d:α} (h:n < l.length):l.getD n d = l[n]:=by rw [List.getD_eq_getElem?_getD,List.getElem?_eq_getElem h];rfl
def qO (c:Lg):Nat:=(aN c.base.data.toList).toNat
theorem Jf {x:List Sp} {L:List (List Sp)} (h:x ∈ L):x.length <= gI L /\ dw x <= gZ L:=by
 induction L with
 | nil=>cases h
 | cons y L ih =>
   obtain ⟨e1,e2⟩:=dL y L
   rw [e1,e2]
   rcases List.mem_cons.1 h with rfl | h
   · omega
   · have:=ih h;omega
theorem xJ.each {c:Lg} (h:xJ c):∀ x ∈ c.ah,x.length <= 900000 /\ dw x <= 900000:=fun x hx=>by
 have:=Jf hx
 have hb:=h.b
 have hl:=h.l
 have htt:gZ c.ah = gV c.ah:=rfl
 omega
theorem xJ.Zi {c:Lg} (h:xJ c):Bl (qO c) c.ah /\ ∀ i,(iQ (qO c) (c.ah.take i):Int) = dY (aN c.base.data.toList) (c.ah.take i):=by
 obtain ⟨z1,z2,z3,z4,z5⟩:=dJ h.e
 have h0:=(qC h 0).1
 rw [List.take_zero] at h0
 have h0:0 <= aN c.base.data.toList:=h0
 refine ⟨(Gg c.ah _ z5 (fun x hx=>by have:=h.each x hx;omega) h0).1,fun i=>(Gg (c.ah.take i) _ (gX z5 i).1 (fun x hx=>by have:=h.each x (List.mem_of_mem_take hx);omega) h0).2⟩
theorem aea{G:Prop}(h:G:=by
 obtain ⟨h1,h2⟩:=h.Zi
 have hm:=qC h a
 obtain ⟨k1,k2⟩:=Vz hm
 have e:(dY (aN c.base.data.toList) (c.ah.take a)).toNat = iQ (qO c) (c.ah.take a):=by have:=h2 a;omega
 rw [e] at k2
 all_goals(rcases(⟨_⟩:PLift _)with⟨h⟩;exact h)):G:=h
theorem A8 {c:Lg} (h:xJ c) {a b:Nat} (hab:a <= b) (hb:b <= c.ah.length):IU (ji c a b) /\ dO (ji c a b) = runM (qO c) c.ah a b:=by
 refine' aea
 have:=NY ((c.ah.drop a).take (b - a)) _ k1 (by rw [k2,kQ];exact (h1.part hab).1) (CU h hab hb).1
 rw [k2] at this
 exact this
theorem Gj:∀ (L:List (List Sp)) (b:List Sp),b.length + gI L <= 10000000 -> dw b + gZ L <= 100000000 -> (dS b L).2 = 0 -> (dS b L).1.length <= b.length + gI L /\ dw (dS b L).1 <= dw b + gZ L
 | [],b,_,_,_=>⟨Nat.le_add_right ..,Nat.le_add_right ..⟩
 | x :: L,b,hl,ht,h0=>by
   obtain ⟨l1,l2⟩:=dL x L
   rw [l1] at hl ⊢
   rw [l2] at ht ⊢
   simp only [dS] at h0 ⊢
   by_cases hE:jh b x = 0
   · rw [if_pos hE] at h0 ⊢
     have hs:=l7 hE (by omega) (by omega) (by omega)
     have:=Gj L (jR b x) (by omega) (by omega) h0
     omega
   · rw [if_neg hE] at h0;exact absurd h0 hE
theorem Y0 {c:Lg} (h:xJ c) {a b:Nat} (hab:a < b) (hb:b <= c.ah.length):(ji c a b).length <= gI ((c.ah.drop a).take (b - a)) /\ dw (ji c a b) <= gZ ((c.ah.drop a).take (b - a)):=by
 have ha:a < c.ah.length:=by omega
 refine' aea
 obtain ⟨f1,-,-,-,-,-,f5,f6⟩:=CU h (Nat.le_of_lt hab) hb
 have hl:=h.l
 have hbb:=h.b
 have htt:gZ c.ah = gV c.ah:=rfl
 have hc:=(h1.part (Nat.le_of_lt hab)).1
 unfold ji
 have eL:(c.ah.drop a).take (b - a) = c.ah[a] :: (c.ah.drop (a + 1)).take (b - a - 1):=by
   rw [List.drop_eq_getElem_cons ha,show b - a = (b - a - 1) + 1 by omega,List.take_succ_cons];rfl
 rw [eL] at f1 hc f5 f6 ⊢
 have hx:=hc.1
 have hz:=bI hx.ops.all
 have hzk:=bI k1.ops.all
 rw [k2,rV,kQ] at hzk
 have hin:=hc.2.1
 obtain ⟨o1,o2,-⟩:=pG k1.ops hx.ops (by omega)
 have hid:jR (dU (dY (aN c.base.data.toList) (c.ah.take a))) c.ah[a] = c.ah[a]:=IU.inj o1 hx (by rw [o2,k2,<- hin];exact lY _)
 simp only [dS] at f1 ⊢
 by_cases hE:jh (dU (dY (aN c.base.data.toList) (c.ah.take a))) c.ah[a] = 0
 · rw [if_pos hE,hid] at f1 ⊢
   obtain ⟨l1,l2⟩:=dL c.ah[a] ((c.ah.drop (a + 1)).take (b - a - 1))
   have b1:c.ah[a].length + gI ((c.ah.drop (a + 1)).take (b - a - 1)) <= gI c.ah:=l1 ▸ f5
   have b2:dw c.ah[a] + gZ ((c.ah.drop (a + 1)).take (b - a - 1)) <= gZ c.ah:=l2 ▸ f6
   rw [l1,l2]
   exact Gj _ _ (by omega) (by omega) f1
 · rw [if_neg hE] at f1;exact absurd f1 hE
structure KL (m:Nat) (a:Nat) (l:List Nat):Prop where
 pw:(a :: l).Pairwise (· < ·)
 le:∀ i ∈ a :: l,i <= m
theorem KL.tail {m a b:Nat} {l:List Nat} (h:KL m a (b :: l)):a < b /\ b <= m /\ KL m b l:=by
 obtain ⟨h1,h2⟩:=h
 rw [List.pairwise_cons] at h1
 exact ⟨h1.1 b (by simp),h2 b (by simp),h1.2,fun i hi=>h2 i (List.mem_cons_of_mem _ hi)⟩
theorem vZ {c:Lg} (h:xJ c):∀ (l:List Nat) (a:Nat),KL c.ah.length a l -> Bl (iQ (qO c) (c.ah.take a)) (eH c (a :: l)) /\
   ∀ i,i <= l.length -> iQ (iQ (qO c) (c.ah.take a)) ((eH c (a :: l)).take i) = iQ (qO c) (c.ah.take ((a :: l).getD i 0))
 | [],a,_=>⟨trivial,fun i hi=>by
   have:i = 0:=by simpa using hi
   subst this;rfl⟩
 | b :: l,a,hK=>by
   obtain ⟨h1,h2,h3⟩:=hK.tail
   obtain ⟨o1,o2⟩:=A8 h (Nat.le_of_lt h1) h2
   obtain ⟨i1,i2⟩:=vZ h l b h3
   obtain ⟨s1,s2⟩:=Je h.Zi.1 (Nat.le_of_lt h1)
   have hb:=(qC h b).2
   rw [<- h.Zi.2 b] at hb
   rw [o2.symm] at s1 s2
   refine ⟨⟨o1,s1,by omega,by rw [s2];exact i1⟩,fun i hi=>?_⟩
   cases i with
   | zero=>rfl
   | succ i =>
     show iQ (bg (dO (ji c a b))) ((eH c (b :: l)).take i) = _
     rw [s2];exact i2 i (by simpa using hi)
theorem Gl {c:Lg} (h:xJ c) {l:List Nat} {a:Nat} (hK:KL c.ah.length a l) {i:Nat}:∀ j,i <= j -> j <= l.length ->
   runM (iQ (qO c) (c.ah.take a)) (eH c (a :: l)) i j = runM (qO c) c.ah ((a :: l).getD i 0) ((a :: l).getD j 0) /\ (a :: l).getD i 0 <= (a :: l).getD j 0
 | 0,hi,_=>by
   have:i = 0:=by omega
   subst this
   exact ⟨by rw [xE,xE,(vZ h l a hK).2 0 (Nat.zero_le _)],Nat.le_refl _⟩
 | j + 1,hi,hj=>by
   obtain ⟨g1,g2⟩:=vZ h l a hK
   by_cases e:i = j + 1
   · subst e;exact ⟨by rw [xE,xE,g2 _ hj],Nat.le_refl _⟩
   · obtain ⟨r1,r2⟩:=Gl h hK (i:=i) j (by omega) (by omega)
     have hjl:j < (eH c (a :: l)).length:=by rw [iC];omega
     have e1:(a :: l).getD j 0 = (a :: l)[j]'(by simp;omega):=by rw [List.getD_eq_getElem?_getD,List.getElem?_eq_getElem (by simp;omega)];rfl
     have e2:(a :: l).getD (j + 1) 0 = (a :: l)[j + 1]'(by simp;omega):=by rw [List.getD_eq_getElem?_getD,List.getElem?_eq_getElem (by simp;omega)];rfl
     have hlt:(a :: l).getD j 0 < (a :: l).getD (j + 1) 0:=by rw [e1,e2];exact List.pairwise_iff_getElem.1 hK.pw _ _ _ _ (Nat.lt_succ_self j)
     have hle:(a :: l).getD (j + 1) 0 <= c.ah.length:=by rw [e2];exact hK.le _ (List.getElem_mem _)
     refine ⟨?_,by omega⟩
     rw [NZ g1 (show i <= j by omega) (Nat.le_succ j),N7 g1 hjl,r1,qB,(A8 h (Nat.le_of_lt hlt) hle).2,<- NZ h.Zi.1 r2 (Nat.le_of_lt hlt)]
theorem N8:∀ (L:List (List Sp)) (n:Nat),Bl n L -> (∀ x ∈ L,x.length <= 10000000 /\ dw x <= 100000000) -> dA (n:Int) L = 0
 | [],_,_,_=>rfl
 | x :: L,n,h,hx=>by
   obtain ⟨h1,h2,h3,h4⟩:=h
   obtain ⟨l1,l2⟩:=hx x (by simp)
   obtain ⟨m1,m2⟩:=h1.ops.may (by omega)
   obtain ⟨p1,p2⟩:=yR m1 l1 l2
   have hz:=bI h1.ops.all
   have e:iq (n:Int) x = 0:=by
     unfold iq
     rw [if_neg (by simpa using m1),if_neg (by omega),if_neg (by omega),if_pos h1.nf]
   simp only [dA]
   rw [if_pos e,show outW x = ((bg (dO x):Nat):Int) by omega]
   exact N8 L _ h4 (fun y hy=>hx y (by simp [hy]))
theorem Gm {c:Lg} (h:xJ c):∀ (l:List Nat) (a:Nat),KL c.ah.length a l -> gI (eH c (a :: l)) <= gI (c.ah.drop a) /\ gZ (eH c (a :: l)) <= gZ (c.ah.drop a)
 | [],a,_=>⟨Nat.zero_le _,Nat.zero_le _⟩
 | b :: l,a,hK=>by
   obtain ⟨h1,h2,h3⟩:=hK.tail
   obtain ⟨f1,f2⟩:=Y0 h h1 h2
   obtain ⟨i1,i2⟩:=Gm h l b h3
   have e:c.ah.drop a = (c.ah.drop a).take (b - a) ++ c.ah.drop b:=by
     conv=>lhs;rw [<- List.take_append_drop (b - a) (c.ah.drop a)]
     rw [List.drop_drop,show a + (b - a) = b by omega]
   have e1:gI (c.ah.drop a) = gI ((c.ah.drop a).take (b - a)) + gI (c.ah.drop b):=by
     conv=>lhs;rw [e]
     simp [gI]
   have e2:gZ (c.ah.drop a) = gZ ((c.ah.drop a).take (b - a)) + gZ (c.ah.drop b):=by
     conv=>lhs;rw [e]
     simp [gZ]
   simp only [eH]
   rw [(dL _ _).1,(dL _ _).2];omega
theorem aeY {c:Lg} (h:xJ c) (set:List Int) (f:Int):∃ l,fD c set f = dh c.revs f :: l /\ KL c.ah.length (dh c.revs f) l /\ (dh c.revs f :: l).getLast (by simp) = c.ah.length:=by
 obtain ⟨z1,z2,z3,z4,z5⟩:=dJ h.e
 have hfr:dh c.revs f <= c.ah.length:=by have:=uo c.revs f;unfold dh;omega
 obtain ⟨K,e0,k1,k2,k3⟩:=xB c.revs set (fr:=dh c.revs f) (by omega)
 exact ⟨K,e0,⟨k1,fun i hi=>by have:=k2 i hi;omega⟩,by rw [k3];omega⟩
theorem KL.at {m a:Nat} {l:List Nat} (h:KL m a l) {i:Nat} (hi:i <= l.length):(a :: l).getD i 0 <= m /\ ∀ j,j < i -> (a :: l).getD j 0 < (a :: l).getD i 0:=by
 have hil:i < (a :: l).length:=by simp;omega
 rw [gD hil]
 exact ⟨h.le _ (List.getElem_mem _),fun j hj=>by rw [gD (show j < (a :: l).length by omega)];exact List.pairwise_iff_getElem.1 h.pw _ _ _ _ hj⟩
theorem Gn {rs:List Int}:∀ (l:List Nat) (w:Int),l.Pairwise (· < ·) -> rs.Pairwise (· < ·) -> (∀ x ∈ rs,x <= 268435455) -> (∀ i ∈ l,i < rs.length) -> (∀ i ∈ l,w < rs.getD i 0) -> dM w (rC rs l) = true
 | [],_,_,_,_,_,_=>rfl
 | i :: l,w,hl,hs,hb,hi,hw=>by
   rw [List.pairwise_cons] at hl
   have h1:=hi i (by simp)
   show (decide (w < rs.getD i 0) && decide (rs.getD i 0 <= 268435455) && dM (rs.getD i 0) (rC rs l)) = true
   rw [decide_eq_true (hw i (by simp)),decide_eq_true (by rw [gD h1];exact hb _ (List.getElem_mem _)),Gn l (rs.getD i 0) hl.2 hs hb (fun j hj=>hi j (by simp [hj])) (fun j hj=>?_)]
   · rfl
   · have h2:=hi j (by simp [hj])
     rw [gD h1,gD h2];exact List.pairwise_iff_getElem.1 hs i j h1 h2 (hl.1 j hj)
theorem Jg:∀ (l:List Int) (w:Int),dM w l = true -> ∀ x ∈ l,x <= 268435455
 | [],_,_,x,hx=>by cases hx
 | y :: l,w,h,x,hx=>by
   simp only [dM,Bool.and_eq_true,decide_eq_true_eq] at h
   rcases List.mem_cons.1 hx with rfl | hx
   · exact h.1.2
   · exact Jg l y h.2 x hx
theorem yT (L:List (List Sp)) (a:Nat):gI (L.take a) + gI (L.drop a) = gI L /\ gZ (L.take a) + gZ (L.drop a) = gZ L:=by
 unfold gI gZ
 rw [<- List.sum_append,<- List.sum_append,<- List.map_append,<- List.map_append,List.take_append_drop]
 exact ⟨rfl,rfl⟩
theorem Ep {c:Lg} (h:xJ c) {a:Nat} {l:List Nat} (hK:KL c.ah.length a l):xJ (lu c (a :: l)) /\ qO (lu c (a :: l)) = iQ (qO c) (c.ah.take a):=by
 obtain ⟨z1,z2,z3,z4,z5⟩:=dJ h.e
 have hb:=h.b
 have hll:=h.l
 have htt:gZ c.ah = gV c.ah:=rfl
 have ha:=hK.le a (by simp)
 obtain ⟨g1,g2,g3,g4⟩:=kC h.e (fun x hx=>(h.s.2.2.2 x hx).1) (by omega) a
 obtain ⟨s1,s2⟩:=Gm h l a hK
 obtain ⟨t1,t2⟩:=yT c.ah a
 have hsz:(jD c a).size <= c.base.size + gV (c.ah.take a):=by
   obtain ⟨u,c1,c2,c3,c4⟩:=xu (c.ah.take a) _ c.base z1 rfl (gX z5 a).1 (fun x hx'=>(h.s.2.2.2 x (List.mem_of_mem_take hx')).1) (by have:=wX c.ah a;omega)
   have:jD c a = u:=by unfold jD;rw [c1]
   rw [this];omega
 have hta:gV (c.ah.take a) = gZ (c.ah.take a):=rfl
 have htc:gV (eH c (a :: l)) = gZ (eH c (a :: l)):=rfl
 have hcnt:aN (jD c a).data.toList = ((iQ (qO c) (c.ah.take a):Nat):Int):=by rw [g3,h.Zi.2 a]
 have hn0:qO (lu c (a :: l)) = iQ (qO c) (c.ah.take a):=by
   show (aN (jD c a).data.toList).toNat = _
   rw [hcnt];rfl
 have hrl:=sN z3
 have hr:dM (-1) c.revs = true:=by unfold rises at z3;simp only [Bool.and_eq_true] at z3;exact z3.2
 obtain ⟨p1,p2⟩:=vY _ _ hr
 have hlen:(a :: l).length <= c.ah.length + 1:=by
   have:∀ (l:List Nat) (a m:Nat),KL m a l -> l.length + a <= m:=by
     intro l
     induction l with
     | nil=>intro a m h;have:=h.le a (by simp);simpa using this
     | cons b l ih =>
       intro a m h
       obtain ⟨h1,h2,h3⟩:=h.tail
       have:=ih b m h3
       simp only [List.length_cons];omega
   have:=this l a _ hK
   simp only [List.length_cons];omega
 have ajW:rises (rC c.revs (a :: l)) = true:=by
   unfold rises
   rw [Gn (a :: l) (-1) hK.pw p1 (Jg _ _ hr) (fun i hi=>by have:=hK.le i hi;omega) (fun i hi=>by
     have:=hK.le i hi
     have e:c.revs.getD i 0 = c.revs[i]:=by rw [List.getD_eq_getElem?_getD,List.getElem?_eq_getElem (by omega)];rfl
     rw [e];exact p2 _ (List.getElem_mem _)),decide_eq_true (by rw [rC,List.length_map];omega)]
   rfl
 have hx:∀ x ∈ eH c (a :: l),x.length <= 900000 /\ dw x <= 900000:=fun x hx=>by have:=Jf hx;omega
 refine ⟨⟨⟨by show (jD c a).size <= _;omega,by show (rC c.revs _).length <= _;rw [rC,List.length_map];omega,by show (eH c _).length <= _;rw [iC];simp only [List.length_cons] at hlen;omega,fun x hx'=>?_⟩,?_,?_,?_⟩,hn0⟩
 · have:=hx x hx';exact ⟨by omega,fM (by omega)⟩
 · have hcb:=(qC h a).2
   rw [<- g3] at hcb
   have hc0:¬ aN (jD c a).data.toList < 0:=by rw [hcnt];omega
   unfold nP
   show (if aN (jD c a).data.toList < 0 then _ else if 1048576 < aN (jD c a).data.toList then _ else if mZ (rC c.revs (a :: l)) ≠ 0 ∨ (rC c.revs (a :: l)).length ≠ (eH c (a :: l)).length + 1 then _ else dA (aN (jD c a).data.toList) (eH c (a :: l))) = 0
   rw [if_neg hc0,if_neg (by omega),if_neg,hcnt]
   · exact N8 _ _ (vZ h l a hK).1 (fun x hx'=>by have:=hx x hx';omega)
   · rintro (h1 | h1)
     · unfold mZ at h1;rw [if_pos ajW] at h1;exact h1 rfl
     · rw [iC,rC,List.length_map] at h1;exact h1 rfl
 · show (jD c a).size + gV (eH c (a :: l)) <= _;omega
 · show gI (eH c (a :: l)) <= _;omega
theorem Y1 {c:Lg} (h:xJ c) {a:Nat} {l:List Nat} (hK:KL c.ah.length a l):∀ i,i <= l.length -> jD (lu c (a :: l)) i = jD c ((a :: l).getD i 0)
 | 0,_=>by unfold jD;rfl
 | i + 1,hi=>by
   have ih:=Y1 h hK i (by omega)
   obtain ⟨d1,d2⟩:=Ep h hK
   have hil:i < (eH c (a :: l)).length:=by rw [iC];omega
   obtain ⟨q1,q2⟩:=hK.at hi
   have q3:=q2 i (Nat.lt_succ_self i)
   have hF:=CU h (Nat.le_of_lt q3) q1
   have hG:=kC d1.e (fun x hx=>(d1.s.2.2.2 x hx).1) (by have:=d1.b;omega) i
   have hsp:(eH c (a :: l)).take (i + 1) = (eH c (a :: l)).take i ++ [ji c ((a :: l).getD i 0) ((a :: l).getD (i + 1) 0)]:=by
     rw [List.take_succ_eq_append_getElem hil,qB]
   have hall:=vV ((eH c (a :: l)).take i) [ji c ((a :: l).getD i 0) ((a :: l).getD (i + 1) 0)] (lu c (a :: l)).base (by rw [show (eH c (a :: l)).take i = (lu c (a :: l)).ah.take i from rfl,hG.1])
   unfold jD at ih ⊢
   show (jK ((eH c (a :: l)).take (i + 1)) _).2 = _
   rw [hsp,hall]
   have ih':(jK ((eH c (a :: l)).take i) (lu c (a :: l)).base).2 = jD c ((a :: l).getD i 0):=ih
   rw [ih']
   simp only [jK]
   rw [if_pos hF.2.1,hF.2.2.1];rfl
theorem aeZ {c:Lg} (h:xJ c) {a:Nat} {l:List Nat} (hK:KL c.ah.length a l) {i j:Nat} (hij:i <= j) (hj:j <= l.length):ji (lu c (a :: l)) i j = ji c ((a :: l).getD i 0) ((a :: l).getD j 0):=by
 obtain ⟨d1,d2⟩:=Ep h hK
 obtain ⟨r1,r2⟩:=Gl h hK j hij hj
 obtain ⟨o1,o2⟩:=A8 d1 hij (show j <= (eH c (a :: l)).length by rw [iC];exact hj)
 obtain ⟨p1,p2⟩:=A8 h r2 (hK.at hj).1
 refine IU.inj o1 p1 ?_
 rw [o2,p2,d2];exact r1
theorem afA {c:Lg} (h:xJ c) {i:Nat} (hi:i < c.ah.length):ji c i (i + 1) = c.ah[i]:=by
 obtain ⟨p1,p2⟩:=A8 h (Nat.le_succ i) hi
 have h1:=(h.Zi.1.split i).2
 rw [List.drop_eq_getElem_cons hi] at h1
 exact IU.inj p1 h1.1 (by rw [p2];exact N7 h.Zi.1 hi)
theorem Jh:∀ {l m:List Nat},l.Pairwise (· < ·) -> m.Pairwise (· < ·) -> (∀ x,x ∈ l ↔ x ∈ m) -> l = m
 | [],[],_,_,_=>rfl
 | [],y :: m,_,_,h=>absurd ((h y).2 (by simp)) (by simp)
 | x :: l,[],_,_,h=>absurd ((h x).1 (by simp)) (by simp)
 | x :: l,y :: m,hl,hm,h=>by
   rw [List.pairwise_cons] at hl hm
   have e:x = y:=by
     rcases List.mem_cons.1 ((h x).1 (by simp)) with e | e
     · exact e
     · rcases List.mem_cons.1 ((h y).2 (by simp)) with e' | e'
       · exact e'.symm
       · have h1:=hm.1 x e;have h2:=hl.1 y e';omega
   subst e
   rw [Jh hl.2 hm.2 (fun z=>⟨fun hz=>?_,fun hz=>?_⟩)]
   · rcases List.mem_cons.1 ((h z).1 (List.mem_cons_of_mem _ hz)) with e | e
     · subst e;exact absurd (hl.1 z hz) (Nat.lt_irrefl _)
     · exact e
   · rcases List.mem_cons.1 ((h z).2 (List.mem_cons_of_mem _ hz)) with e | e
     · subst e;exact absurd (hm.1 z hz) (Nat.lt_irrefl _)
     · exact e
theorem afB {rs set:List Int} {fr n i:Nat}:i ∈ uq rs set fr n ↔ fr <= i /\ i < n /\ Gs rs set fr i = true:=by
 unfold uq
 rw [List.mem_filter]
 have:i ∈ (List.range n).drop fr ↔ fr <= i /\ i < n:=by
   constructor
   · intro h
     obtain ⟨j,hj,rfl⟩:=List.getElem_of_mem h
     rw [List.length_drop,List.length_range] at hj
     simp;omega
   · rintro ⟨h1,h2⟩
     exact List.mem_iff_getElem.2 ⟨i - fr,by simp;omega,by simp;omega⟩
 rw [this,and_assoc]
theorem ajX (rs set:List Int) (fr n:Nat):(uq rs set fr n).Pairwise (· < ·):=List.Pairwise.sublist ((List.filter_sublist).trans (List.drop_sublist _ _)) List.pairwise_lt_range
theorem RX {rs set:List Int} {fr i:Nat}:Gs rs set fr i = true ↔ i = fr ∨ i = rs.length - 1 ∨ rs.getD i 0 ∈ set:=by
 unfold Gs;simp
theorem Qi {rs:List Int} (hs:rs.Pairwise (· < ·)) {f:Int} {k:Nat} (hk:k < rs.length) (h1:k = 0 ∨ rs.getD k 0 <= f) (h2:∀ j,k < j -> j < rs.length -> f < rs.getD j 0):dh rs f = k:=by
 unfold dh
 by_cases h:rs.getD k 0 <= f
 · rw [vO (i:=k + 1) hk (fun x hx=>?_) (fun hl hn=>?_)];· rfl
   · obtain ⟨j,hj,rfl⟩:=List.getElem_of_mem hx
     rw [List.length_take] at hj
     rw [List.getElem_take]
     rw [gD hk] at h
     rcases Nat.lt_or_ge j k with h' | h'
     · have:=List.pairwise_iff_getElem.1 hs j k (by omega) hk h';omega
     · have:j = k:=by omega
       subst this;exact h
   · have:=h2 (k + 1) (Nat.lt_succ_self k) hl
     rw [gD hl] at this;omega
 · have hk0:k = 0:=h1.resolve_right h
   subst hk0
   rw [vO (i:=0) (Nat.zero_le _) (by simp) (fun hl hn=>by rw [gD hl] at h;exact h hn)]
end Go.Proofs.YtadlnaljicikfaaDoor.aB
namespace Go.Proofs.YtadlnaljicikfaaDoor.aB
open Go
set_option maxRecDepth 100000
attribute [local irreducible] Ev.iE Ev.iG Ev.bW Ev.runK Ev.bY Ev.gq Ev.Side Ev.Wp Ev.Again Ev.To Ev.Fin
open Go.Lib Go.RowKit
def Es:Ev.Pl:=(.one 0 false (.one 1 false (.one 2 false (.one 3 false (.one 4 false (.one 5 false (.one 6 true (.one 7 true (.one 8 false (.one 9 false (.two 10 (.one 11 false (.one 12 false (.one 13 false (.one 14 false (.one 15 false (.one 16 false .fin)))))) 14 (.one 10 false (.one 11 false (.one 12 false (.one 13 false (.one 15 false (.one 16 false .fin)))))))))))))))))
theorem ajY:∀ c,Tryd.f18.body = some c -> comp c = (.seq (.reg 0 [I.n 0 5 (.box 85 (.tmp 2)),I.n 1 6 (I.sb false)]) (.seq (.reg 1 [I.n 0 19 (I.c0 58),I.n 1 7 (I.sa 19)]) (.seq (.reg 2 [I.n 0 20 (I.mv 0),I.n 1 21 (I.mv 1),I.n 2 22 (I.c2 23 20 21 9 22),I.n 3 8 (.alloc 27),I.u 4 (I.st 27 8 22)]) (.seq (.draw 3 [I.n 0 24 (I.ld 27 8),I.n 1 25 (I.fa 85 5 0),I.n 2 26 (I.ld 25 25),I.n 3 27 (I.fa 85 5 0),I.n 4 28 (I.ld 25 27),I.n 5 29 (I.ln 28 25),I.n 6 30 (.call { callee:=.builtin .min,args:=#[.tmp 29,.const (Value.int .i64 30)],argTypes:=#[3,3] }),I.n 7 31 (.slice 25 (.tmp 26) none (some (.tmp 30)) none),I.n 8 32 (I.fa 85 5 1),I.n 9 33 (I.ld 3 32),I.n 10 34 (.call { callee:=.value (.func 60),args:=#[.tmp 24,.tmp 31,.tmp 33],argTypes:=#[27,25,3] }),I.n 11 23 (I.mv 34),I.n 12 35 (I.ex 23 0),I.n 13 36 (I.ex 23 1),I.n 14 9 (.alloc 27),I.u 15 (I.st 27 9 35),I.n 16 10 (I.sa 36)] [[],[],[1],[],[3],[4],[5],[2,6],[],[8],[0,7,9],[10],[11],[11],[],[14,12,10,0,1,2,3,4,5,6,7,8,9,10,11,12,14],[13,15,0,1,2,3,4,5,6,7,8,9,10,11,12,13,14,15]]) (.seq (.seq (.reg 4 [I.n 0 37 (I.mv 7),I.n 1 38 (.unOp .not 4 (.tmp 37)),I.n 2 39 (I.mv 38),I.w 3 40 (I.mv 10) 39 false,I.w 4 41 (I.bc .neq 30 40 0 30) 39 false,I.n 5 42 (I.pb 39 true 41),I.n 6 43 (I.mv 42),I.w 7 44 (I.ld 27 9) 43 false,I.w 8 45 (I.c1 46 44 27) 43 false,I.w 9 46 (I.bc .neq 30 45 0 30) 43 false,I.n 10 47 (I.pb 43 true 46)]) (.cond (.tmp 47) (.seq (.reg 5 [I.n 0 6 (I.sb false)]) .ret) .skip)) (.seq (.seq (.reg 6 [I.n 0 11 (I.si 0)]) (.block 0 (.loop (.seq (.seq (.reg 7 [I.n 0 48 (I.mv 11),I.n 1 49 (I.fa 27 9 1),I.n 2 50 (I.ld 25 49),I.n 3 51 (I.ln 50 25),I.n 4 52 (I.bo .lss 3 48 51 3)]) (.cond (.tmp 52) .skip (.exit 0))) (.seq (.block 1 (.seq (.draw 9 [I.n 0 56 (I.fa 27 8 1),I.n 1 57 (I.ld 25 56),I.n 2 58 (I.fa 27 9 1),I.n 3 59 (I.ld 25 58),I.n 4 60 (I.mv 11),I.n 5 61 (I.ia 25 59 60),I.n 6 62 (I.ld 3 61),I.n 7 63 (I.c2 64 57 62 25 3),I.n 8 55 (I.mv 63),I.n 9 64 (I.ex 55 0),I.n 10 65 (I.ex 55 1),I.n 11 66 (I.ex 55 2),I.n 12 12 (I.sa 64),I.n 13 13 (I.sa 65),I.n 14 14 (I.sa 66)] [[],[0],[],[2],[],[3,4],[5],[1,6],[7],[8],[8],[8],[9,7,0,1,2,3,4,5,6,7,8,9],[10,12,0,1,2,3,4,5,6,7,8,9,10,12],[11,13,0,1,2,3,4,5,6,7,8,9,10,11,12,13]]) (.seq (.reg 10 [I.n 0 68 (I.ld 27 8),I.n 1 69 (I.mv 12),I.n 2 70 (I.c2 62 68 69 27 3),I.n 3 67 (I.mv 70),I.n 4 71 (I.ex 67 0),I.n 5 72 (I.ex 67 1),I.n 6 15 (I.sa 71),I.n 7 16 (I.sa 72)]) (.seq (.reg 11 [I.n 0 74 (I.ld 27 9),I.n 1 75 (I.mv 11),I.n 2 76 (I.c2 62 74 75 27 3),I.n 3 73 (I.mv 76),I.n 4 77 (I.ex 73 0),I.n 5 78 (I.ex 73 1),I.n 6 17 (I.sa 77),I.n 7 18 (I.sa 78)]) (.seq (.reg 12 [I.n 0 79 (I.mv 14),I.n 1 80 (I.bc .neq 30 79 0 30),I.n 2 81 (I.mv 80),I.w 3 82 (I.mv 16) 81 false,I.w 4 83 (I.bc .neq 30 82 0 30) 81 false,I.n 5 84 (I.pb 81 true 83),I.n 6 85 (I.mv 84),I.w 7 86 (I.mv 18) 85 false,I.w 8 87 (I.bc .neq 30 86 0 30) 85 false,I.n 9 88 (I.pb 85 true 87),I.n 10 89 (I.mv 88),I.w 11 90 (I.mv 15) 89 false,I.w 12 91 (I.mv 17) 89 false,I.w 13 92 (I.bo .neq 9 90 91 9) 89 false,I.n 14 93 (I.pb 89 true 92)]) (.cond (.tmp 93) (.seq (.reg 13 [I.n 0 6 (I.sb false)]) .ret) .skip)))))) (.reg 8 [I.n 0 53 (I.mv 11),I.n 1 54 (I.bc .add 3 53 1 3),I.n 2 11 (I.sa 54)])))))) (.seq (.draw 14 [I.n 0 94 (I.fa 27 9 1),I.n 1 95 (I.ld 25 94),I.n 2 96 (I.fa 27 9 1),I.n 3 97 (I.ld 25 96),I.n 4 98 (I.ln 97 25),I.n 5 99 (I.bc .sub 3 98 1 3),I.n 6 100 (I.ia 25 95 99),I.n 7 101 (I.ld 3 100),I.n 8 102 (I.fa 27 8 1),I.n 9 103 (I.ld 25 102),I.n 10 104 (I.fa 27 8 1),I.n 11 105 (I.ld 25 104),I.n 12 106 (I.ln 105 25),I.n 13 107 (I.bc .sub 3 106 1 3),I.n 14 108 (I.ia 25 103 107),I.n 15 109 (I.ld 3 108),I.n 16 110 (I.bo .eql 3 101 109 3),I.n 17 6 (I.sa 110)] [[],[0],[],[2],[3],[4],[1,5],[6],[],[8],[],[10],[11],[12],[9,13],[14],[7,15],[16,0,1,2,3,4,5,6,7,8,9,10,11,12,13,14,15,16]]) .ret))))))):=by
 intro c h
 have:c = Tryd.f18.body.get rfl:=by rw [<- Option.some_inj,<- h];rfl
 rw [this];rfl
structure CD (c d:Lg) (K:Nat -> Nat) (m:Nat):Prop where
 oc:xJ c
 od:xJ d
 sl:d.ah.length = m
 rl:d.revs.length = m + 1
 cl:c.revs.length = c.ah.length + 1
 pw:c.revs.Pairwise (· < ·)
 rev:∀ i (h:i < d.revs.length),∃ h':K i < c.revs.length,d.revs[i] = c.revs[K i]
 le:∀ i,i <= m -> K i <= c.ah.length
 at_:∀ i,i <= m -> jD d i = jD c (K i)
 last:K m = c.ah.length
 mono:∀ i j,i < j -> j <= m -> K i < K j
 seg:∀ i (h:i < d.ah.length),d.ah[i] = ji c (K i) (K (i + 1))
 ml:m <= c.ah.length
theorem KL.len:∀ {l:List Nat} {a m:Nat},KL m a l -> l.length + a <= m
 | [],a,m,h=>by have:=h.le a (by simp);simpa using this
 | b :: l,a,m,h=>by
   obtain ⟨h1,h2,h3⟩:=h.tail
   have:=KL.len h3
   simp only [List.length_cons];omega
theorem Gp {c:Lg} (h:xJ c) (set:List Int) (f:Int):∃ l,fD c set f = dh c.revs f :: l /\ KL c.ah.length (dh c.revs f) l /\ CD c (lu c (fD c set f)) (fun i=>(fD c set f).getD i 0) l.length:=by
 obtain ⟨l,e,hK,hl⟩:=aeY h set f
 obtain ⟨z1,z2,z3,z4,z5⟩:=dJ h.e
 rw [e]
 obtain ⟨d1,d2⟩:=Ep h hK
 have hpw:=(vY _ _ (by unfold rises at z3;rw [Bool.and_eq_true] at z3;exact z3.2)).1
 refine ⟨l,rfl,hK,⟨h,d1,iC c _ _,by show (rC _ _).length = _;rw [rC,List.length_map,List.length_cons],z4,hpw,fun i hi=>?_,fun i hi=>(hK.at hi).1,fun i hi=>Y1 h hK i hi,?_,fun i j hij hj=>(hK.at hj).2 i hij,fun i hi=>qB c _ _ hi,by have:=hK.len;omega⟩⟩
 · have hi:i < (rC c.revs (dh c.revs f :: l)).length:=hi
   have hi':i <= l.length:=by rw [rC,List.length_map,List.length_cons] at hi;omega
   have hlt:(dh c.revs f :: l).getD i 0 < c.revs.length:=by have:=(hK.at hi').1;omega
   refine ⟨hlt,?_⟩
   show (rC c.revs (dh c.revs f :: l))[i] = _
   simp only [rC,List.getElem_map]
   rw [gD (by rw [<- gD (d:=0)];exact hlt)]
   simp only [gD (show i < (dh c.revs f :: l).length by simp;omega)]
 · rw [List.getLast_eq_getElem] at hl
   show (dh c.revs f :: l).getD l.length 0 = _
   rw [gD (by simp),<- hl];rfl
theorem Ba (t:ByteArray) (l:List (List Sp)):xJ (jX t l) /\ (jX t l).ah.length <= 20:=by
 obtain ⟨g1,g2,g3,g4,g5⟩:=NH t l
 obtain ⟨n0,hF⟩:=YQ t l
 exact ⟨⟨g2,g1,by omega,by have:=hF.lens;omega⟩,g5⟩
theorem CD.ends {c d:Lg} {K:Nat -> Nat} {m:Nat} (h:CD c d K m) {a b:Nat} {ha:a < d.revs.length} {hb:b < c.revs.length} (e1:a = d.revs.length - 1) (e2:b = c.revs.length - 1):d.revs[a] = c.revs[b]:=by
 obtain ⟨h1,h2⟩:=h.rev a ha
 have:=h.last
 have h3:=h.rl
 have h4:=h.cl
 have e3:a = m:=by omega
 have e4:K a = b:=by rw [e3];omega
 rw [h2];simp only [e4]
theorem RY (rs:List Int) (hl:rs.length <= 100000000) (hs:rs.Pairwise (· < ·)) {k:Nat} (hk:k < rs.length):aA env 64 [.lst 1 (ints rs),.v (.int .i64 rs[k])] (fun x h=>x = .dB [.v (.int .i64 k),.v (.int .i64 rs[k]),.v (.int .i64 0)] /\ h = []):=by
 have:=U5 rs rs[k] hl
 rw [NU hs hk] at this;exact this
set_option maxHeartbeats 1000000 in
theorem Bc (t:ByteArray) (l:List (List Sp)) (S:List Int) (F:Int):aA env 18 [.v (.string t),.lst 1 (aC l),.agg [.lst 1 (ints S),.v (.int .i64 F)]] (fun r hs=>r = .v (.bool true) /\ hs = []):=by
  have hS:=jL
  have hF:=pq t l
  obtain ⟨hO,h20⟩:=Ba t l
  generalize jX t l = c at hF hO h20
  obtain ⟨K,e,hK,hD⟩:=Gp hO (S.take 30) F
  have hC:=jZ c (S.take 30) F hO (by rw [List.length_take];omega)
  have hC:aA env 60 [kT c,.lst 1 (ints (S.take 30)),.v (.int .i64 F)] (fun r hs=>r = .dB [kT (lu c (fD c (S.take 30) F)),.v (.int .i64 0)] /\ hs = []):=hC
  generalize (fun i=>(fD c (S.take 30) F).getD i 0) = k at hD
  generalize lu c (fD c (S.take 30) F) = d at hC hD
  have hM:=IJ d hD.od.s
  rw [hD.od.e] at hM
  rw [<- YZ S] at hC
  unfold kT at *
  refine Ev.fn [0,1,2,5,6,7,8,9,10,11,12,14,15,16,17,18,47,52,93] 0 [.tmp 6] Tryd.func18 (ajY _ rfl) ?_
  repeat' (first | refine' Ev.zP | (with_reducible refine Ev.join (a:=.draw 3 _ _) (fun s=>∃ v w k,s = ⟨[(6,.v (.bool false)),(7,.v (.bool true)),(8,.ptr 1048 v 0 0),(9,.ptr 1648 w 0 0),(10,.v (.int .i64 0))],[(1048,⟨3,27,v,0,true,[[.v (.string c.base),.lst 1 (ints c.revs),.lst 1 (aC c.ah)]]⟩),(1648,⟨3,27,w,0,true,[[.v (.string d.base),.lst 1 (ints d.revs),.lst 1 (aC d.ah)]]⟩)],k⟩ /\ True) ?_ ?_) | refine' Ev.zS | refine' Ev.zK | ((with_reducible refine Ev.ca0 ?_);(first | refine Ev.ca (hS) ?_ | refine Ev.ca (hF) ?_ | refine Ev.ca (hC) ?_ | refine Ev.ca (hM) ?_);conv=>whnf) | ((with_reducible refine Ev.dG ?_);(first | refine Ev.dr 9 [] [0,1,2,3,4,5,6,7,8,9,10,11,12,13,14] ?_);intro Q hQ;(simp only [Ev.ak,Ev.au]);conv=>whnf) | ((with_reducible refine Ev.dG ?_);(first | refine Ev.drv 14 [] [(0,false),(1,false),(2,false),(3,false),(4,false),(5,true),(6,false),(7,false),(8,false),(9,false),(10,false),(11,false),(12,false),(13,true),(14,false),(15,false),(16,false),(17,false)] ?_);intro Q hQ;(simp only [Ev.aX,Ev.aY,Ev.bG]);conv=>whnf) | ((with_reducible refine Ev.dG ?_);(first | refine Ev.H7 3 [] Es ?_);intro Q hQ;(simp only [Ev.gK,Ev.eP,Ev.eU,Ev.gQ]);conv=>whnf) | ((with_reducible refine Ev.both ?_ ?_) <;> (conv=>whnf)) | refine' Ev.zT | fail)
  case refine_2 =>
    rintro s1 ⟨v,w,k0,rfl,-⟩
    repeat' (first | refine' Ev.zP | refine' Ev.zS | refine' Ev.zK | ((with_reducible refine Ev.ca0 ?_);(first | refine Ev.ca (hM) ?_);conv=>whnf) | ((with_reducible refine Ev.dG ?_);(first | refine Ev.dr 9 [] [0,1,2,3,4,5,6,7,8,9,10,11,12,13,14] ?_);intro Q hQ;(simp only [Ev.ak,Ev.au]);conv=>whnf) | ((with_reducible refine Ev.dG ?_);(first | refine Ev.drv 14 [] [(0,false),(1,false),(2,false),(3,false),(4,false),(5,true),(6,false),(7,false),(8,false),(9,false),(10,false),(11,false),(12,false),(13,true),(14,false),(15,false),(16,false),(17,false)] ?_);intro Q hQ;(simp only [Ev.aX,Ev.aY,Ev.bG]);conv=>whnf) | ((with_reducible refine Ev.dG ?_);(first | refine Ev.H7 3 [] Es ?_);intro Q hQ;(simp only [Ev.gK,Ev.eP,Ev.eU,Ev.gQ]);conv=>whnf) | ((with_reducible refine Ev.both ?_ ?_) <;> (conv=>whnf)) | refine' Ev.zT | fail)
    have hcr:=hD.cl
    have hdr:=hD.rl
    have hds:=hD.sl
    have hic:=bP c.revs
    have hid:=bP d.revs
    have hb1:=hO.b
    have hb2:=hD.od.b
    have hr1:=hO.s.2.1
    have hr2:=hD.od.s.2.1
    refine Ev.loop (fun k1 s=>∃ (i c0:Nat),s = ⟨[(6,.v (.bool false)),(8,.ptr 1048 v 0 0),(9,.ptr 1648 w 0 0),(11,.v (.int .i64 i))],[(1048,⟨3,27,v,0,true,[[.v (.string c.base),.lst 1 (ints c.revs),.lst 1 (aC c.ah)]]⟩),(1648,⟨3,27,w,0,true,[[.v (.string d.base),.lst 1 (ints d.revs),.lst 1 (aC d.ah)]]⟩)],c0⟩ /\ k1 + i = d.revs.length) ?_ ?_
    · refine Ev.zB ⟨d.revs.length,0,?_,rfl,?_⟩
      omega
    rintro k1 s1 ⟨i,c0,rfl,hk1⟩
    by_cases hi:i < d.revs.length
    · have hii:(i:Int) < ((ints d.revs).length:Int):=by omega
      obtain ⟨q0,q1⟩:=hD.rev i hi
      have hFi:=RY c.revs hO.s.2.1 hD.pw q0
      rw [<- q1] at hFi
      have hle:=hD.le i (by omega)
      have hA1:=IZ hO.s hO.e (by omega) hle
      have hA2:=IZ hD.od.s hD.od.e (by omega) (show i <= d.ah.length by omega)
      rw [hD.at_ i (by omega)] at hA2
      unfold kT at hA1 hA2
      repeat' (first | (with_reducible first | refine Ev.aK hii ?_ | refine Ev.aV hii ?_ | refine Ev.aJ hii ?_ | refine Ev.aP hii ?_) | refine' Ev.zP | refine' Ev.zS | refine' Ev.zK | ((with_reducible refine Ev.ca0 ?_);(first | refine Ev.ca (hFi) ?_ | refine Ev.ca (hA1) ?_ | refine Ev.ca (hA2) ?_);conv=>whnf) | ((with_reducible refine Ev.dG ?_);(first | refine Ev.dr 9 [] [0,1,2,3,4,5,6,7,8,9,10,11,12,13,14] ?_);intro Q hQ;(simp only [Ev.ak,Ev.au]);conv=>whnf) | ((with_reducible refine Ev.dG ?_);(first | refine Ev.drv 14 [] [(0,false),(1,false),(2,false),(3,false),(4,false),(5,true),(6,false),(7,false),(8,false),(9,false),(10,false),(11,false),(12,false),(13,true),(14,false),(15,false),(16,false),(17,false)] ?_);intro Q hQ;(simp only [Ev.aX,Ev.aY,Ev.bG]);conv=>whnf) | ((with_reducible refine Ev.dG ?_);(first | refine Ev.H7 3 [] Es ?_);intro Q hQ;(simp only [Ev.gK,Ev.eP,Ev.eU,Ev.gQ]);conv=>whnf) | ((with_reducible refine Ev.both ?_ ?_) <;> (conv=>whnf)) | refine' Ev.zT | fail)
      · refine Ev.zA (k1 - 1) ⟨i + 1,?_,rfl,?_⟩
        omega
      · rename_i h;exact absurd rfl h
    · have hii:¬ (i:Int) < ((ints d.revs).length:Int):=by omega
      have hwd:IntKind.i64.wrap (((ints d.revs).length:Int) - 1) = ((d.revs.length - 1:Nat):Int):=by rw [aU (by have:=hD.od.s.2.1;omega)];omega
      have hwc:IntKind.i64.wrap (((ints c.revs).length:Int) - 1) = ((c.revs.length - 1:Nat):Int):=by rw [aU (by omega)];omega
      have anA:(IntKind.i64.wrap (((ints d.revs).length:Int) - 1)).toNat = d.revs.length - 1:=by rw [hwd];rfl
      have hwc':(IntKind.i64.wrap (((ints c.revs).length:Int) - 1)).toNat = c.revs.length - 1:=by rw [hwc];rfl
      repeat' (first | (with_reducible first | refine Ev.aK hii ?_ | refine Ev.aV hii ?_ | refine Ev.aJ hii ?_ | refine Ev.aP hii ?_) | refine' Ev.zP | refine' Ev.zS | refine' Ev.zK | ((with_reducible refine Ev.dG ?_);(first | refine Ev.dr 9 [] [0,1,2,3,4,5,6,7,8,9,10,11,12,13,14] ?_);intro Q hQ;(simp only [Ev.ak,Ev.au]);conv=>whnf) | ((with_reducible refine Ev.dG ?_);(first | refine Ev.drv 14 [] [(0,false),(1,false),(2,false),(3,false),(4,false),(5,true),(6,false),(7,false),(8,false),(9,false),(10,false),(11,false),(12,false),(13,true),(14,false),(15,false),(16,false),(17,false)] ?_);intro Q hQ;(simp only [Ev.aX,Ev.aY,Ev.bG]);conv=>whnf) | ((with_reducible refine Ev.dG ?_);(first | refine Ev.H7 3 [] Es ?_);intro Q hQ;(simp only [Ev.gK,Ev.eP,Ev.eU,Ev.gQ]);conv=>whnf) | ((with_reducible refine Ev.both ?_ ?_) <;> (conv=>whnf)) | refine' Ev.zT | fail)
      · refine ⟨Ev.jd (decide_eq_true (hD.ends anA hwc')),rfl⟩
      · refine Ev.Side.of ?_
        show (IntKind.i64.wrap (((ints c.revs).length:Int) - 1)).toNat < _
        omega
      · refine Ev.Side.of ?_
        show (IntKind.i64.wrap (((ints d.revs).length:Int) - 1)).toNat < _
        omega
  all_goals (refine Ev.zB ⟨?_,?_,?_,rfl,?_⟩;trivial)
theorem ajZ:∀ c,Tryd.f15.body = some c -> comp c = (.seq (.reg 0 [I.n 0 6 (I.sb false)]) (.seq (.reg 1 [I.n 0 18 (I.c0 58),I.n 1 7 (I.sa 18)]) (.seq (.reg 2 [I.n 0 19 (I.mv 0),I.n 1 20 (I.mv 1),I.n 2 21 (I.c2 23 19 20 9 22),I.n 3 8 (.alloc 27),I.u 4 (I.st 27 8 21)]) (.seq (.reg 3 [I.n 0 23 (I.ld 27 8),I.n 1 24 (I.mv 2),I.n 2 25 (.call { callee:=.value (.func 60),args:=#[.tmp 23,.const (Value.slice none 0 0),.tmp 24],argTypes:=#[27,25,3] }),I.n 3 22 (I.mv 25),I.n 4 26 (I.ex 22 0),I.n 5 27 (I.ex 22 1),I.n 6 9 (.alloc 27),I.u 7 (I.st 27 9 26),I.n 8 10 (I.sa 27)]) (.seq (.reg 4 [I.n 0 29 (I.ld 27 8),I.n 1 30 (I.fa 27 8 1),I.n 2 31 (I.ld 25 30),I.n 3 32 (.call { callee:=.value (.func 60),args:=#[.tmp 29,.tmp 31,.const (Value.int .i64 0)],argTypes:=#[27,25,3] }),I.n 4 28 (I.mv 32),I.n 5 33 (I.ex 28 0),I.n 6 34 (I.ex 28 1),I.n 7 11 (.alloc 27),I.u 8 (I.st 27 11 33),I.n 9 12 (I.sa 34)]) (.seq (.reg 5 [I.n 0 36 (I.ld 27 8),I.n 1 37 (I.fa 27 8 2),I.n 2 38 (I.ld 22 37),I.n 3 39 (I.ln 38 22),I.n 4 40 (I.c2 62 36 39 27 3),I.n 5 35 (I.mv 40),I.n 6 41 (I.ex 35 0),I.n 7 42 (I.ex 35 1),I.n 8 13 (I.sa 41),I.n 9 14 (I.sa 42)]) (.seq (.seq (.reg 6 [I.n 0 43 (I.mv 7),I.n 1 44 (.unOp .not 4 (.tmp 43)),I.n 2 45 (I.mv 44),I.w 3 46 (I.mv 10) 45 false,I.w 4 47 (I.bc .neq 30 46 0 30) 45 false,I.n 5 48 (I.pb 45 true 47),I.n 6 49 (I.mv 48),I.w 7 50 (I.mv 12) 49 false,I.w 8 51 (I.bc .neq 30 50 0 30) 49 false,I.n 9 52 (I.pb 49 true 51),I.n 10 53 (I.mv 52),I.w 11 54 (I.mv 14) 53 false,I.w 12 55 (I.bc .neq 30 54 0 30) 53 false,I.n 13 56 (I.pb 53 true 55),I.n 14 57 (I.mv 56),I.w 15 58 (I.fa 27 9 2) 57 false,I.w 16 59 (I.ld 22 58) 57 false,I.w 17 60 (I.ln 59 22) 57 false,I.w 18 61 (I.bc .gtr 3 60 1 3) 57 false,I.n 19 62 (I.pb 57 true 61),I.n 20 63 (I.mv 62),I.w 21 64 (I.fa 27 9 1) 63 false,I.w 22 65 (I.ld 25 64) 63 false,I.w 23 66 (I.ln 65 25) 63 false,I.w 24 67 (I.fa 27 9 2) 63 false,I.w 25 68 (I.ld 22 67) 63 false,I.w 26 69 (I.ln 68 22) 63 false,I.w 27 70 (I.bc .add 3 69 1 3) 63 false,I.w 28 71 (I.bo .neq 3 66 70 3) 63 false,I.n 29 72 (I.pb 63 true 71)]) (.cond (.tmp 72) (.seq (.reg 7 [I.n 0 6 (I.sb false)]) .ret) .skip)) (.seq (.reg 8 [I.n 0 74 (I.fa 27 9 0),I.n 1 75 (I.ld 9 74),I.n 2 76 (I.fa 27 9 2),I.n 3 77 (I.ld 22 76),I.n 4 78 (I.c2 57 75 77 9 22),I.n 5 73 (I.mv 78),I.n 6 79 (I.ex 73 0),I.n 7 80 (I.ex 73 1),I.n 8 15 (I.sa 79),I.n 9 16 (I.sa 80)]) (.seq (.reg 9 [I.n 0 81 (I.mv 2),I.n 1 82 (.call { callee:=.builtin .max,args:=#[.tmp 81,.const (Value.int .i64 0)],argTypes:=#[3,3] }),I.n 2 83 (I.fa 27 8 2),I.n 3 84 (I.ld 22 83),I.n 4 85 (I.ln 84 22),I.n 5 86 (.call { callee:=.builtin .min,args:=#[.tmp 82,.tmp 85],argTypes:=#[3,3] }),I.n 6 17 (I.sa 86)]) (.seq (.reg 10 [I.n 0 87 (I.mv 16),I.n 1 88 (I.bc .eql 30 87 0 30),I.n 2 89 (I.mv 88),I.w 3 90 (I.mv 15) 89 true,I.w 4 91 (I.mv 13) 89 true,I.w 5 92 (I.bo .eql 9 90 91 9) 89 true,I.n 6 93 (I.pc 89 92 false),I.n 7 94 (I.mv 93),I.w 8 95 (I.fa 27 9 1) 94 true,I.w 9 96 (I.ld 25 95) 94 true,I.w 10 97 (I.ic 25 96 0) 94 true,I.w 11 98 (I.ld 3 97) 94 true,I.w 12 99 (I.mv 17) 94 true,I.w 13 100 (I.bo .eql 3 98 99 3) 94 true,I.n 14 101 (I.pc 94 100 false),I.n 15 102 (I.mv 101),I.w 16 103 (I.fa 27 9 2) 102 true,I.w 17 104 (I.ld 22 103) 102 true,I.w 18 105 (I.ln 104 22) 102 true,I.w 19 106 (I.bc .eql 3 105 0 3) 102 true,I.w 20 107 (I.mv 17) 102 true,I.w 21 108 (I.fa 27 8 2) 102 true,I.w 22 109 (I.ld 22 108) 102 true,I.w 23 110 (I.ln 109 22) 102 true,I.w 24 111 (I.bo .eql 3 107 110 3) 102 true,I.w 25 112 (I.bo .eql 4 106 111 4) 102 true,I.n 26 113 (I.pc 102 112 false),I.n 27 114 (I.mv 113),I.w 28 115 (I.ld 27 11) 114 true,I.w 29 116 (I.ld 27 8) 114 true,I.w 30 117 (I.c2 28 115 116 27 27) 114 true,I.n 31 118 (I.pc 114 117 false),I.n 32 6 (I.sa 118)]) .ret)))))))))):=by
 intro c h
 have:c = Tryd.f15.body.get rfl:=by rw [<- Option.some_inj,<- h];rfl
 rw [this];rfl
theorem Y2:∀ c,Tryd.f17.body = some c -> comp c = (.seq (.reg 0 [I.n 0 5 (.box 71 (.tmp 2)),I.n 1 6 (I.sb false)]) (.seq (.reg 1 [I.n 0 24 (I.c0 58),I.n 1 7 (I.sa 24)]) (.seq (.reg 2 [I.n 0 25 (I.mv 0),I.n 1 26 (I.mv 1),I.n 2 27 (I.c2 23 25 26 9 22),I.n 3 8 (.alloc 27),I.u 4 (I.st 27 8 27)]) (.seq (.reg 3 [I.n 0 28 (I.fa 27 8 2),I.n 1 29 (I.ld 22 28),I.n 2 30 (I.ln 29 22),I.n 3 9 (I.sa 30)]) (.seq (.reg 4 [I.n 0 31 (I.ic 71 5 0),I.n 1 32 (I.ld 5 31),I.n 2 33 (I.cv 5 3 32),I.n 3 34 (I.mv 9),I.n 4 35 (I.bc .add 3 34 1 3),I.n 5 36 (I.bo .rem 3 33 35 3),I.n 6 10 (I.sa 36)]) (.seq (.reg 5 [I.n 0 37 (I.mv 10),I.n 1 38 (I.ic 71 5 1),I.n 2 39 (I.ld 5 38),I.n 3 40 (I.cv 5 3 39),I.n 4 41 (I.mv 9),I.n 5 42 (I.mv 10),I.n 6 43 (I.bo .sub 3 41 42 3),I.n 7 44 (I.bc .add 3 43 1 3),I.n 8 45 (I.bo .rem 3 40 44 3),I.n 9 46 (I.bo .add 3 37 45 3),I.n 10 11 (I.sa 46)]) (.seq (.reg 6 [I.n 0 48 (I.ld 27 8),I.n 1 49 (I.fa 27 8 1),I.n 2 50 (I.ld 25 49),I.n 3 51 (I.mv 10),I.n 4 52 (.call { callee:=.value (.func 60),args:=#[.tmp 48,.tmp 50,.tmp 51],argTypes:=#[27,25,3] }),I.n 5 47 (I.mv 52),I.n 6 53 (I.ex 47 0),I.n 7 54 (I.ex 47 1),I.n 8 12 (.alloc 27),I.u 9 (I.st 27 12 53),I.n 10 13 (I.sa 54)]) (.seq (.reg 7 [I.n 0 56 (I.ld 27 8),I.n 1 57 (I.mv 10),I.n 2 58 (I.c2 62 56 57 27 3),I.n 3 55 (I.mv 58),I.n 4 59 (I.ex 55 0),I.n 5 60 (I.ex 55 1),I.n 6 14 (I.sa 59),I.n 7 15 (I.sa 60)]) (.seq (.reg 8 [I.n 0 62 (I.ld 27 8),I.n 1 63 (I.mv 10),I.n 2 64 (.call { callee:=.value (.func 60),args:=#[.tmp 62,.const (Value.slice none 0 0),.tmp 63],argTypes:=#[27,25,3] }),I.n 3 61 (I.mv 64),I.n 4 65 (I.ex 61 0),I.n 5 66 (I.ex 61 1),I.n 6 16 (.alloc 27),I.u 7 (I.st 27 16 65),I.n 8 17 (I.sa 66)]) (.seq (.reg 9 [I.n 0 68 (I.ld 27 16),I.n 1 69 (I.fa 27 8 1),I.n 2 70 (I.ld 25 69),I.n 3 71 (I.mv 11),I.n 4 72 (.call { callee:=.value (.func 60),args:=#[.tmp 68,.tmp 70,.tmp 71],argTypes:=#[27,25,3] }),I.n 5 67 (I.mv 72),I.n 6 73 (I.ex 67 0),I.n 7 74 (I.ex 67 1),I.n 8 18 (.alloc 27),I.u 9 (I.st 27 18 73),I.n 10 19 (I.sa 74)]) (.seq (.seq (.reg 10 [I.n 0 75 (I.mv 7),I.n 1 76 (.unOp .not 4 (.tmp 75)),I.n 2 77 (I.mv 76),I.w 3 78 (I.mv 13) 77 false,I.w 4 79 (I.bc .neq 30 78 0 30) 77 false,I.n 5 80 (I.pb 77 true 79),I.n 6 81 (I.mv 80),I.w 7 82 (I.mv 15) 81 false,I.w 8 83 (I.bc .neq 30 82 0 30) 81 false,I.n 9 84 (I.pb 81 true 83),I.n 10 85 (I.mv 84),I.w 11 86 (I.mv 17) 85 false,I.w 12 87 (I.bc .neq 30 86 0 30) 85 false,I.n 13 88 (I.pb 85 true 87),I.n 14 89 (I.mv 88),I.w 15 90 (I.mv 19) 89 false,I.w 16 91 (I.bc .neq 30 90 0 30) 89 false,I.n 17 92 (I.pb 89 true 91)]) (.cond (.tmp 92) (.seq (.reg 11 [I.n 0 6 (I.sb false)]) .ret) .skip)) (.seq (.draw 12 [I.n 0 93 (I.mv 14),I.n 1 94 (I.fa 27 8 1),I.n 2 95 (I.ld 25 94),I.n 3 96 (I.mv 10),I.n 4 97 (.slice 25 (.tmp 95) (some (.tmp 96)) none none),I.n 5 98 (I.fa 27 8 2),I.n 6 99 (I.ld 22 98),I.n 7 100 (I.mv 10),I.n 8 101 (.slice 22 (.tmp 99) (some (.tmp 100)) none none),I.n 9 102 (.build 27 #[(0,.tmp 93),(1,.tmp 97),(2,.tmp 101)]),I.n 10 20 (.alloc 27),I.u 11 (I.st 27 20 102)] [[],[],[1],[],[2,3],[],[5],[],[6,7],[0,4,8],[],[10,9,0,1,2,3,4,5,6,7,8,9,10]]) (.seq (.reg 13 [I.n 0 103 (I.ld 27 16),I.n 1 21 (.alloc 27),I.u 2 (I.st 27 21 103)]) (.seq (.seq (.reg 14 [I.n 0 104 (I.mv 11),I.n 1 105 (I.mv 9),I.n 2 106 (I.bo .eql 3 104 105 3),I.n 3 107 (I.mv 106),I.w 4 108 (I.mv 10) 107 true,I.w 5 109 (I.mv 9) 107 true,I.w 6 110 (I.bo .lss 3 108 109 3) 107 true,I.n 7 111 (I.pc 107 110 false)]) (.cond (.tmp 111) (.seq (.reg 15 [I.n 0 113 (I.ld 27 8),I.n 1 114 (I.mv 9),I.n 2 115 (I.c2 62 113 114 27 3),I.n 3 112 (I.mv 115),I.n 4 116 (I.ex 112 0),I.n 5 117 (I.ex 112 1),I.n 6 22 (I.sa 116),I.n 7 23 (I.sa 117)]) (.seq (.reg 16 [I.n 0 118 (I.mv 22),I.n 1 119 (I.mv 9),I.n 2 120 (I.b1 25 119),I.n 3 121 (.build 27 #[(0,.tmp 118),(1,.tmp 120)]),I.u 4 (I.st 27 21 121)]) (.seq (.reg 17 [I.n 0 122 (I.mv 23),I.n 1 123 (I.bc .neq 30 122 0 30)]) (.cond (.tmp 123) (.seq (.reg 18 [I.n 0 6 (I.sb false)]) .ret) .skip)))) .skip)) (.seq (.reg 19 [I.n 0 124 (I.ld 27 12),I.n 1 125 (I.ld 27 20),I.n 2 126 (I.c2 28 124 125 27 27),I.n 3 127 (I.mv 126),I.w 4 128 (I.fa 27 16 0) 127 true,I.w 5 129 (I.ld 9 128) 127 true,I.w 6 130 (I.mv 14) 127 true,I.w 7 131 (I.bo .eql 9 129 130 9) 127 true,I.n 8 132 (I.pc 127 131 false),I.n 9 133 (I.mv 132),I.w 10 134 (I.ld 27 18) 133 true,I.w 11 135 (I.ld 27 21) 133 true,I.w 12 136 (I.c2 28 134 135 27 27) 133 true,I.n 13 137 (I.pc 133 136 false),I.n 14 6 (I.sa 137)]) .ret))))))))))))))):=by
 intro c h
 have:c = Tryd.f17.body.get rfl:=by rw [<- Option.some_inj,<- h];rfl
 rw [this];rfl
theorem Y3:∀ c,Tryd.f16.body = some c -> comp c = (.seq (.reg 0 [I.n 0 6 (I.sb false)]) (.seq (.reg 1 [I.n 0 20 (I.c0 58),I.n 1 7 (I.sa 20)]) (.seq (.reg 2 [I.n 0 21 (I.mv 0),I.n 1 22 (I.mv 1),I.n 2 23 (I.c2 23 21 22 9 22),I.n 3 8 (.alloc 27),I.u 4 (I.st 27 8 23)]) (.seq (.reg 3 [I.n 0 24 (I.fa 27 8 2),I.n 1 25 (I.ld 22 24),I.n 2 26 (I.ln 25 22),I.n 3 9 (I.sa 26)]) (.seq (.reg 4 [I.n 0 27 (I.mv 2),I.n 1 28 (I.cv 5 3 27),I.n 2 29 (I.mv 9),I.n 3 30 (I.bc .add 3 29 1 3),I.n 4 31 (I.bo .rem 3 28 30 3),I.n 5 10 (I.sa 31)]) (.seq (.reg 5 [I.n 0 33 (I.ld 27 8),I.n 1 34 (.call { callee:=.value (.func 60),args:=#[.tmp 33,.const (Value.slice none 0 0),.const (Value.int .i64 0)],argTypes:=#[27,25,3] }),I.n 2 32 (I.mv 34),I.n 3 35 (I.ex 32 0),I.n 4 36 (I.ex 32 1),I.n 5 11 (.alloc 27),I.u 6 (I.st 27 11 35),I.n 7 12 (I.sa 36)]) (.seq (.reg 6 [I.n 0 38 (I.ld 27 8),I.n 1 39 (I.mv 10),I.n 2 40 (I.b1 25 39),I.n 3 41 (.call { callee:=.value (.func 60),args:=#[.tmp 38,.tmp 40,.const (Value.int .i64 0)],argTypes:=#[27,25,3] }),I.n 4 37 (I.mv 41),I.n 5 42 (I.ex 37 0),I.n 6 43 (I.ex 37 1),I.n 7 13 (.alloc 27),I.u 8 (I.st 27 13 42),I.n 9 14 (I.sa 43)]) (.seq (.seq (.reg 7 [I.n 0 44 (I.mv 7),I.n 1 45 (.unOp .not 4 (.tmp 44)),I.n 2 46 (I.mv 45),I.w 3 47 (I.mv 12) 46 false,I.w 4 48 (I.bc .neq 30 47 0 30) 46 false,I.n 5 49 (I.pb 46 true 48),I.n 6 50 (I.mv 49),I.w 7 51 (I.mv 14) 50 false,I.w 8 52 (I.bc .neq 30 51 0 30) 50 false,I.n 9 53 (I.pb 50 true 52),I.n 10 54 (I.mv 53),I.w 11 55 (I.fa 27 11 2) 54 false,I.w 12 56 (I.ld 22 55) 54 false,I.w 13 57 (I.ln 56 22) 54 false,I.w 14 58 (I.mv 9) 54 false,I.w 15 59 (.call { callee:=.builtin .min,args:=#[.tmp 58,.const (Value.int .i64 1)],argTypes:=#[3,3] }) 54 false,I.w 16 60 (I.bo .neq 3 57 59 3) 54 false,I.n 17 61 (I.pb 54 true 60)]) (.cond (.tmp 61) (.seq (.reg 8 [I.n 0 6 (I.sb false)]) .ret) .skip)) (.seq (.draw 9 [I.n 0 63 (I.fa 27 8 0),I.n 1 64 (I.ld 9 63),I.n 2 65 (I.c1 32 64 9),I.n 3 66 (I.fa 27 13 2),I.n 4 67 (I.ld 22 66),I.n 5 68 (I.c2 63 65 67 3 22),I.n 6 62 (I.mv 68),I.n 7 69 (I.ex 62 0),I.n 8 70 (I.ex 62 1),I.n 9 15 (I.sa 69),I.n 10 16 (I.sa 70)] [[],[0],[1],[],[3],[2,4,2],[5],[6],[6],[7,5,0,1,2,3,4,5,6,7],[8,9,0,1,2,3,4,5,6,7,8,9]]) (.seq (.draw 10 [I.n 0 72 (I.fa 27 8 0),I.n 1 73 (I.ld 9 72),I.n 2 74 (I.c1 32 73 9),I.n 3 75 (I.fa 27 8 2),I.n 4 76 (I.ld 22 75),I.n 5 77 (I.c2 63 74 76 3 22),I.n 6 71 (I.mv 77),I.n 7 78 (I.ex 71 0),I.n 8 79 (I.ex 71 1),I.n 9 17 (I.sa 78),I.n 10 18 (I.sa 79)] [[],[0],[1],[],[3],[2,4,2],[5],[6],[6],[7,5,0,1,2,3,4,5,6,7],[8,9,0,1,2,3,4,5,6,7,8,9]]) (.seq (.reg 11 [I.n 0 80 (I.fa 27 8 0),I.n 1 81 (I.ld 9 80),I.n 2 82 (.buildSlice 25 1 #[(0,.const (Value.int .i64 0))]),I.n 3 83 (.build 27 #[(0,.tmp 81),(1,.tmp 82)]),I.n 4 19 (.alloc 27),I.u 5 (I.st 27 19 83)]) (.seq (.seq (.reg 12 [I.n 0 84 (I.mv 9),I.n 1 85 (I.bc .gtr 3 84 0 3)]) (.cond (.tmp 85) (.seq (.reg 13 [I.n 0 86 (I.mv 9),I.n 1 87 (.buildSlice 25 2 #[(0,.const (Value.int .i64 0)),(1,.tmp 86)]),I.n 2 88 (I.fa 27 19 1),I.u 3 (I.st 25 88 87)]) (.reg 14 [I.n 0 89 (I.mv 15),I.n 1 90 (I.b1 22 89),I.n 2 91 (I.fa 27 19 2),I.u 3 (I.st 22 91 90)])) .skip)) (.seq (.reg 15 [I.n 0 92 (I.mv 16),I.n 1 93 (I.bc .eql 30 92 0 30),I.n 2 94 (I.mv 93),I.w 3 95 (I.mv 18) 94 true,I.w 4 96 (I.bc .eql 30 95 0 30) 94 true,I.n 5 97 (I.pc 94 96 false),I.n 6 98 (I.mv 97),I.w 7 99 (I.ld 27 11) 98 true,I.w 8 100 (I.ld 27 19) 98 true,I.w 9 101 (I.c2 28 99 100 27 27) 98 true,I.n 10 102 (I.pc 98 101 false),I.n 11 103 (I.mv 102),I.w 12 104 (I.mv 15) 103 true,I.w 13 105 (I.ln 104 23) 103 true,I.w 14 106 (I.mv 17) 103 true,I.w 15 107 (I.ln 106 23) 103 true,I.w 16 108 (I.bo .eql 3 105 107 3) 103 true,I.n 17 109 (I.pc 103 108 false),I.n 18 6 (I.sa 109)]) .ret))))))))))))):=by
 intro c h
 have:c = Tryd.f16.body.get rfl:=by rw [<- Option.some_inj,<- h];rfl
 rw [this];rfl
theorem Et {rs set:List Int} {fr n:Nat} (h:∀ i,fr <= i -> i < n -> rs.getD i 0 ∈ set):uq rs set fr n = (List.range n).drop fr:=by
 unfold uq
 refine List.filter_eq_self.2 fun i hi=>?_
 obtain ⟨j,hj,rfl⟩:=List.getElem_of_mem hi
 rw [List.length_drop,List.length_range] at hj
 rw [RX]
 exact .inr (.inr (h _ (by simp) (by simp;omega)))
theorem Bd {c:Lg} (h:xJ c) {a:Nat} (ha:a <= c.ah.length):lu c ((List.range c.revs.length).drop a) = ⟨jD c a,c.revs.drop a,c.ah.drop a⟩:=by
 have hr:=(dJ h.e).2.2.2.1
 have hd:(List.range c.revs.length).drop a = a :: (List.range c.revs.length).drop (a + 1):=by
   rw [List.drop_eq_getElem_cons (by simp;omega)];simp
 have e1:rC c.revs ((List.range c.revs.length).drop a) = c.revs.drop a:=by
   unfold rC
   refine List.ext_getElem (by simp) fun i h1 h2=>?_
   rw [List.length_drop] at h2
   simp only [List.getElem_map,List.getElem_drop,List.getElem_range]
   exact gD _
 have e2:eH c ((List.range c.revs.length).drop a) = c.ah.drop a:=by
   rw [hd]
   refine List.ext_getElem (by rw [iC];simp;omega) fun i h1 h2=>?_
   have h1':=h1
   rw [iC,List.length_drop,List.length_range] at h1'
   rw [qB,<- hd,gD (by simp;omega),gD (by simp;omega)]
   simp only [List.getElem_drop,List.getElem_range]
   exact afA h (by omega)
 show Lg.mk (jD c (((List.range c.revs.length).drop a).headD 0)) _ _ = _
 rw [e1,e2,hd];rfl
theorem KG {c:Lg} (h:xJ c):lu c (List.range c.revs.length) = c:=by
 have:=Bd h (Nat.zero_le _)
 rw [List.drop_zero] at this
 rw [this];rfl
theorem Gq {rs:List Int} {fr:Nat} (h:fr < rs.length):uq rs [] fr rs.length = if fr = rs.length - 1 then [fr] else [fr,rs.length - 1]:=by
 refine Jh (ajX _ _ _ _) (by split <;> simp;omega) fun x=>?_
 rw [afB,RX]
 split <;> simp <;> omega
theorem Eu (n:Nat) (f:Int):dh (sK n) f = min (max f 0).toNat n:=by
 have hg:∀ i,i <= n -> (sK n).getD i 0 = (i:Int):=fun i hi=>by
   rw [gD (by rw [CS];omega)];simp [sK]
 have hpw:(sK n).Pairwise (· < ·):=by
   unfold sK
   rw [List.pairwise_map]
   exact List.pairwise_lt_range.imp (fun h=>by omega)
 refine Qi hpw (by rw [CS];omega) ?_ fun j h1 h2=>?_
 · rw [hg _ (by omega)];omega
 · rw [CS] at h2
   rw [hg _ (by omega)];omega
theorem afC {c:Lg} (h:xJ c):allA c.base c.ah = .dB [.v (.string (jD c c.ah.length)),.v (.int .i64 0)]:=by
 have hG:=kC h.e (fun x hx=>(h.s.2.2.2 x hx).1) (by have:=h.b;omega) c.ah.length
 rw [List.take_length] at hG
 unfold allA
 rw [Kq (by rintro ⟨_,e⟩;rw [(dJ h.e).1] at e;cases e),hG.1]
theorem aA.arg3 {E:Env} {f:FuncId} {a a' b b' d d':AV} {R:AV -> List aG -> Prop} (h:aA E f [a',b',d'] R) (h1:Le a a') (h2:Le b b') (h3:Le d d'):aA E f [a,b,d] R :=
 h.args rfl (fun i c c' hc hc'=>by
   rcases i with _ | _ | _ | i
   · simp at hc hc';subst hc;subst hc';exact h1
   · simp at hc hc';subst hc;subst hc';exact h2
   · simp at hc hc';subst hc;subst hc';exact h3
   · simp at hc)
set_option maxHeartbeats 2000000 in
theorem CX (t:ByteArray) (l:List (List Sp)) (F:Int):aA env 15 [.v (.string t),.lst 1 (aC l),.v (.int .i64 F)] (fun r hs=>r = .v (.bool true) /\ hs = []):=by
  have hS:=jL
  have hF:=pq t l
  have hRv:=Gf t l
  obtain ⟨hO,h20⟩:=Ba t l
  generalize jX t l = c at hF hO h20 hRv
  have hcr:=(dJ hO.e).2.2.2.1
  obtain ⟨K,e,hK,hD⟩:=Gp hO [] F
  have CY:fD c [] F = if dh c.revs F = c.revs.length - 1 then [dh c.revs F] else [dh c.revs F,c.revs.length - 1]:=Gq (by have:=hK.le _ (List.mem_cons_self ..);omega)
  have hfl:dh c.revs F = min (max F 0).toNat c.ah.length:=by
    have:=Eu c.ah.length F
    rwa [<- hRv] at this
  have hC:aA env 60 [kT c,nilA,.v (.int .i64 F)] (fun r hs=>r = .dB [kT (lu c (fD c [] F)),.v (.int .i64 0)] /\ hs = []):=(jZ c [] F hO (by decide)).arg3 (Le.refl _) (Le.nil 1) (Le.refl _)
  have hC2:=jZ c c.revs 0 hO hO.s.2.1
  have hA:lu c (uq c.revs c.revs (dh c.revs 0) c.revs.length) = c:=by
    have e0:dh c.revs 0 = 0:=by rw [hRv,Eu];simp
    rw [e0,Et (fun i _ hi=>by rw [gD hi];exact List.getElem_mem _),List.drop_zero,KG hO]
  rw [hA] at hC2
  have hL:=IZ hO.s hO.e (by have:=hO.b;omega) (Nat.le_refl c.ah.length)
  have RZ:=jC c c hO.s
  rw [jB] at RZ
  have Y4:=fun (d:Lg) (h:xJ d)=>Nb d.base d.ah (by have:=h.s.2.2.1;omega) (fun x hx=>(h.s.2.2.2 x hx).1) (by have:=h.b;omega)
  have Y4:=Y4 _ hD.od
  rw [afC hD.od,hD.at_ _ (by rw [hD.sl];exact Nat.le_refl _),hD.sl,hD.last] at Y4
  have alG:∀ h:0 < (lu c (fD c [] F)).revs.length,(lu c (fD c [] F)).revs[0] = (min (max F 0).toNat c.ah.length:Nat):=fun h=>by
    obtain ⟨q0,q1⟩:=hD.rev 0 h
    rw [q1,<- hfl,<- gD (d:=0) q0]
    simp only [e]
    show c.revs.getD (dh c.revs F) 0 = _
    rw [gD (by rw [e] at q0;exact q0)]
    simp only [hRv]
    simp [sK]
  have hm:=hD.sl
  have hm2:=hD.rl
  have Zh:K.length = if dh c.revs F = c.revs.length - 1 then 0 else 1:=by
    have CY:=e.symm.trans CY
    by_cases h:dh c.revs F = c.revs.length - 1
    · rw [if_pos h] at CY ⊢
      have:=congrArg List.length CY;simpa using this
    · rw [if_neg h] at CY ⊢
      have:=congrArg List.length CY;simpa using this
  have hod:=hD.od
  generalize lu c (fD c [] F) = d at hC Y4 alG hm hm2 hod
  clear hA hD
  unfold kT at *
  refine Ev.fn [0,1,2,6,7,8,9,10,11,12,13,14,15,16,17,72] 0 [.tmp 6] Tryd.func15 (ajZ _ rfl) ?_
  repeat' (first | refine' Ev.zP | refine' Ev.zS | refine' Ev.zK | ((with_reducible refine Ev.ca0 ?_);(first | refine Ev.ca (hS) ?_ | refine Ev.ca (hF) ?_ | refine Ev.ca (hC) ?_ | refine Ev.ca (hC2) ?_ | refine Ev.ca (hL) ?_ | refine Ev.ca (Y4) ?_ | refine Ev.ca (RZ) ?_);conv=>whnf) | refine' Ev.zT | fail)
  · rename_i h;exfalso;rw [aW] at h;split at Zh <;> omega
  · exact ⟨rfl,rfl⟩
  · rename_i h
    exfalso
    rw [aW,aW] at h
    have:((d.ah.length:Int) = 0) ↔ min (max F 0) (c.ah.length:Int) = c.ah.length:=by
      rw [hfl] at Zh
      split at Zh <;> omega
    by_cases hz:(d.ah.length:Int) = 0
    · rw [decide_eq_true hz,decide_eq_true (this.1 hz)] at h;cases h
    · rw [decide_eq_false hz,decide_eq_false (fun e=>hz (this.2 e))] at h;cases h
  · rename_i h0 h
    refine absurd ?_ h
    rw [aW]
    exact (alG _).trans (by omega)
  · rename_i h;exact absurd rfl h
  · rename_i h
    refine absurd ?_ h
    have hK1:K.length <= 1:=by split at Zh <;> omega
    rw [bP,aW,aU (by omega)];omega
set_option maxHeartbeats 2000000 in
theorem CZ (t:ByteArray) (l:List (List Sp)) (a:Int) (ha:0 <= a /\ a < 256):aA env 16 [.v (.string t),.lst 1 (aC l),.v (.int .u8 a)] (fun r hs=>r = .v (.bool true) /\ hs = []):=by
  have hS:=jL
  have hF:=pq t l
  have hRv:=Gf t l
  obtain ⟨hO,h20⟩:=Ba t l
  generalize jX t l = c at hF hO h20 hRv
  have hcr:=(dJ hO.e).2.2.2.1
  have hrl:=aW c.ah
  have e0:dh c.revs 0 = 0:=by rw [hRv,Eu];simp
  have hN:IntKind.i64.wrap (((aC c.ah).length:Int) + 1) = (c.ah.length:Int) + 1:=by rw [hrl,aU (by omega)]
  have hA:IntKind.i64.wrap a = a:=aU (by omega)
  have ht1:=Int.tmod_lt_of_pos a (show (0:Int) < (c.ah.length:Int) + 1 by omega)
  have ht2:=Int.tmod_nonneg ((c.ah.length:Int) + 1) ha.1
  obtain ⟨k,hk⟩:∃ k:Nat,(IntKind.i64.wrap a).tmod (IntKind.i64.wrap (((aC c.ah).length:Int) + 1)) = (k:Int):=⟨(a.tmod ((c.ah.length:Int) + 1)).toNat,by rw [hA,hN];omega⟩
  have hC:aA env 60 [kT c,nilA,.v (.int .i64 0)] (fun r hs=>r = .dB [kT (lu c (fD c [] 0)),.v (.int .i64 0)] /\ hs = []):=(jZ c [] 0 hO (by decide)).arg3 (Le.refl _) (Le.nil 1) (Le.refl _)
  have afD:lu c (fD c [] 0) = if c.ah.length = 0 then ⟨c.base,[0],[]⟩ else ⟨c.base,[0,(c.ah.length:Int)],[ji c 0 c.ah.length]⟩:=by
    have:fD c [] 0 = if 0 = c.revs.length - 1 then [0] else [0,c.revs.length - 1]:=by
      have:=Gq (rs:=c.revs) (fr:=0) (by omega)
      unfold fD;rw [e0];exact this
    have hg0:c.revs.getD 0 0 = 0:=by rw [gD (by omega)];simp only [hRv];simp [sK]
    have hgn:c.revs.getD c.ah.length 0 = (c.ah.length:Int):=by rw [gD (by omega)];simp only [hRv];simp [sK]
    rw [this]
    by_cases hn:c.ah.length = 0
    · rw [if_pos (by omega),if_pos hn]
      show Lg.mk (jD c 0) [c.revs.getD 0 0] [] = _
      rw [hg0];rfl
    · rw [if_neg (by omega),if_neg hn,show c.revs.length - 1 = c.ah.length by omega]
      show Lg.mk (jD c 0) [c.revs.getD 0 0,c.revs.getD c.ah.length 0] [ji c 0 c.ah.length] = _
      rw [hg0,hgn];rfl
  obtain ⟨K,e,hK,hD⟩:=Gp hO [(k:Int)] 0
  have hC2:=jZ c [(k:Int)] 0 hO (by simp)
  have hC2:aA env 60 [kT c,.lst 1 (ints [(k:Int)]),.v (.int .i64 0)] (fun r hs=>r = .dB [kT (lu c (fD c [(k:Int)] 0)),.v (.int .i64 0)] /\ hs = []):=hC2
  have hff:ji (lu c (fD c [(k:Int)] 0)) 0 K.length = ji c 0 c.ah.length:=by
    have:=aeZ hO hK (Nat.zero_le K.length) (Nat.le_refl _)
    rw [<- e] at this
    rw [this]
    have h1:=hD.last
    have h2:(fD c [(k:Int)] 0).getD 0 0 = 0:=by rw [e];exact e0
    have h1:(fD c [(k:Int)] 0).getD K.length 0 = c.ah.length:=h1
    rw [h1,h2]
  have hcb:(lu c (fD c [(k:Int)] 0)).base = c.base:=by rw [e];show jD c (dh c.revs 0) = _;rw [e0];rfl
  have hfp:∀ d:Lg,xJ d -> aA env 63 [.v (.int .i64 (aN d.base.data.toList)),.lst 1 (aC d.ah)] (fun r hs=>r = .dB [.lst 3 (bD (ji d 0 d.ah.length)),.v (.int .i64 0)] /\ hs = []):=fun d hd=>by
    have:=NT hd (Nat.zero_le _) (Nat.le_refl d.ah.length)
    rw [Nat.sub_zero,List.drop_zero,List.take_length] at this
    unfold jW at this
    rw [if_pos hd.e,uF _ _ _ (Nat.zero_le _),List.take_zero] at this
    exact this
  have hP:=hfp _ hD.od
  have hQ2:=hfp _ hO
  rw [hcb,hD.sl,hff] at hP
  have hcnt:=qm c.base (by have:=hO.b;omega)
  have hod:=hD.od
  have hSl:=(CU hO (Nat.zero_le _) (Nat.le_refl c.ah.length)).2.2.2.2.1
  have hll:=hO.l
  have hl2:=(yT c.ah 0)
  generalize lu c (fD c [(k:Int)] 0) = d at hC2 hP hod
  have hOs:II (lu c (fD c [] 0)):=(CV hO [] 0).1
  by_cases hn:c.ah.length = 0
  · rw [if_pos hn] at afD
    rw [afD] at hC hOs
    have RZ:=jC ⟨c.base,[0],[]⟩ ⟨c.base,[0],[]⟩ hOs
    rw [jB] at RZ
    have RZ:=RZ.arg2 (Le.refl _) (b:=.agg [.v (.string c.base),.lst 1 (ints [0]),nilA]) (Le.JC (Le.refl _) (Le.refl _) (Le.nil 1))
    have f1:¬ (0:Int) < ((aC c.ah).length:Int):=by omega
    have f2:((aC []).length:Int) = min ((aC c.ah).length:Int) 1:=by rw [hrl,hn];rfl
    unfold kT at *
    refine Ev.fn [0,1,2,6,7,8,9,10,11,12,13,14,15,16,17,18,19,61,85] 0 [.tmp 6] Tryd.func16 (Y3 _ rfl) ?_
    repeat' (first | (conv in (Int.tmod (IntKind.i64.wrap _) _)=>rw [hk]) | (with_reducible first | refine Ev.aK f1 ?_ | refine Ev.aV f1 ?_ | refine Ev.aJ f1 ?_ | refine Ev.aP f1 ?_) | (with_reducible first | refine Ev.aK f2 ?_ | refine Ev.aV f2 ?_ | refine Ev.aJ f2 ?_ | refine Ev.aP f2 ?_) | refine' Ev.zP | refine' Ev.zS | refine' Ev.zK | ((with_reducible refine Ev.ca0 ?_);(first | refine Ev.ca (hS) ?_ | refine Ev.ca (hF) ?_ | refine Ev.ca (hC) ?_ | refine Ev.ca (hC2) ?_ | refine Ev.ca (hcnt) ?_ | refine Ev.ca (hP) ?_ | refine Ev.ca (hQ2) ?_ | refine Ev.ca (RZ) ?_);conv=>whnf) | ((with_reducible refine Ev.dG ?_);(first | refine Ev.dr 9 [] [0,1,3,4,2,5,6,7,8,9,10] ?_ | refine Ev.dr 10 [] [0,1,3,4,2,5,6,7,8,9,10] ?_);intro Q hQ;(simp only [Ev.ak,Ev.au]);conv=>whnf) | refine' Ev.zT | fail)
    all_goals exact ⟨Ev.jd (decide_eq_true rfl),rfl⟩
  · rw [if_neg hn] at afD
    rw [afD] at hC hOs
    have RZ:=jC ⟨c.base,[0,(c.ah.length:Int)],[ji c 0 c.ah.length]⟩ ⟨c.base,[0,(c.ah.length:Int)],[ji c 0 c.ah.length]⟩ hOs
    rw [jB] at RZ
    have RZ:aA env 28 [kT ⟨c.base,[0,(c.ah.length:Int)],[ji c 0 c.ah.length]⟩,.agg [.v (.string c.base),.lst 1 (ints [0,((aC c.ah).length:Int)]),.lst 1 (aC [ji c 0 c.ah.length])]] (fun r hs=>r = .v (.bool true) /\ hs = []):=by rw [hrl];exact RZ
    have f1:(0:Int) < ((aC c.ah).length:Int):=by omega
    have f2:((aC [ji c 0 c.ah.length]).length:Int) = min ((aC c.ah).length:Int) 1:=by rw [hrl,aW];simp only [List.length_cons,List.length_nil];omega
    unfold kT at *
    refine Ev.fn [0,1,2,6,7,8,9,10,11,12,13,14,15,16,17,18,19,61,85] 0 [.tmp 6] Tryd.func16 (Y3 _ rfl) ?_
    repeat' (first | (conv in (Int.tmod (IntKind.i64.wrap _) _)=>rw [hk]) | (with_reducible first | refine Ev.aK f1 ?_ | refine Ev.aV f1 ?_ | refine Ev.aJ f1 ?_ | refine Ev.aP f1 ?_) | (with_reducible first | refine Ev.aK f2 ?_ | refine Ev.aV f2 ?_ | refine Ev.aJ f2 ?_ | refine Ev.aP f2 ?_) | refine' Ev.zP | refine' Ev.zS | refine' Ev.zK | ((with_reducible refine Ev.ca0 ?_);(first | refine Ev.ca (hS) ?_ | refine Ev.ca (hF) ?_ | refine Ev.ca (hC) ?_ | refine Ev.ca (hC2) ?_ | refine Ev.ca (hcnt) ?_ | refine Ev.ca (hP) ?_ | refine Ev.ca (hQ2) ?_ | refine Ev.ca (RZ) ?_);conv=>whnf) | ((with_reducible refine Ev.dG ?_);(first | refine Ev.dr 9 [] [0,1,3,4,2,5,6,7,8,9,10] ?_ | refine Ev.dr 10 [] [0,1,3,4,2,5,6,7,8,9,10] ?_);intro Q hQ;(simp only [Ev.ak,Ev.au]);conv=>whnf) | refine' Ev.zT | fail)
    all_goals exact ⟨Ev.jd (decide_eq_true rfl),rfl⟩
set_option maxHeartbeats 2000000 in
theorem Bf (t:ByteArray) (l:List (List Sp)) (a b:Int) (ha:0 <= a /\ a < 256) (hb:0 <= b /\ b < 256):aA env 17 [.v (.string t),.lst 1 (aC l),.agg [.v (.int .u8 a),.v (.int .u8 b)]] (fun r hs=>r = .v (.bool true) /\ hs = []):=by
  have hS:=jL
  have hF:=pq t l
  have hRv:=Gf t l
  obtain ⟨hO,h20⟩:=Ba t l
  generalize jX t l = c at hF hO h20 hRv
  have hcr:=(dJ hO.e).2.2.2.1
  have hrl:=aW c.ah
  have hN:IntKind.i64.wrap (((aC c.ah).length:Int) + 1) = (c.ah.length:Int) + 1:=by rw [hrl,aU (by omega)]
  have hA:IntKind.i64.wrap a = a:=aU (by omega)
  have hB:IntKind.i64.wrap b = b:=aU (by omega)
  have ht1:=Int.tmod_lt_of_pos a (show (0:Int) < (c.ah.length:Int) + 1 by omega)
  have ht2:=Int.tmod_nonneg ((c.ah.length:Int) + 1) ha.1
  obtain ⟨k,hk⟩:∃ k:Nat,(IntKind.i64.wrap a).tmod (IntKind.i64.wrap (((aC c.ah).length:Int) + 1)) = (k:Int):=⟨(a.tmod ((c.ah.length:Int) + 1)).toNat,by rw [hA,hN];omega⟩
  have hkn:k <= c.ah.length:=by rw [hA,hN] at hk;omega
  have hM:IntKind.i64.wrap (IntKind.i64.wrap (((aC c.ah).length:Int) - (k:Int)) + 1) = (c.ah.length:Int) - k + 1:=by rw [hrl,aU (a:=(c.ah.length:Int) - k) (by omega),aU (by omega)]
  have hs1:=Int.tmod_lt_of_pos b (show (0:Int) < (c.ah.length:Int) - k + 1 by omega)
  have hs2:=Int.tmod_nonneg ((c.ah.length:Int) - k + 1) hb.1
  obtain ⟨m,hm⟩:∃ m:Nat,IntKind.i64.wrap ((k:Int) + (IntKind.i64.wrap b).tmod (IntKind.i64.wrap (IntKind.i64.wrap (((aC c.ah).length:Int) - (k:Int)) + 1))) = (m:Int):=⟨(k + b.tmod ((c.ah.length:Int) - k + 1)).toNat,by rw [hB,hM,aU (by omega)];omega⟩
  have hmk:k <= m /\ m <= c.ah.length:=by rw [hB,hM,aU (by omega)] at hm;omega
  have hfl:dh c.revs (k:Int) = k:=by
    have:=Eu c.ah.length (k:Int)
    rw [<- hRv] at this;omega
  have hC1:aA env 60 [kT c,.lst 1 (ints c.revs),.v (.int .i64 k)] (fun r hs=>r = .dB [kT ⟨jD c k,c.revs.drop k,c.ah.drop k⟩,.v (.int .i64 0)] /\ hs = []):=by
    have:=jZ c c.revs k hO hO.s.2.1
    rw [hfl,Et (fun i _ hi=>by rw [gD hi];exact List.getElem_mem _),Bd hO hkn] at this
    exact this
  have hAt:=IZ hO.s hO.e (by have:=hO.b;omega) hkn
  have hAn:=IZ hO.s hO.e (by have:=hO.b;omega) (Nat.le_refl c.ah.length)
  have hgi:∀ i,i <= c.ah.length -> c.revs.getD i 0 = (i:Int):=fun i hi=>by rw [gD (by omega)];simp only [hRv];simp [sK]
  have hC2:aA env 60 [kT c,nilA,.v (.int .i64 k)] (fun r hs=>r = .dB [kT (lu c (fD c [] k)),.v (.int .i64 0)] /\ hs = []):=(jZ c [] k hO (by decide)).arg3 (Le.refl _) (Le.nil 1) (Le.refl _)
  obtain ⟨K,e,hK,hD⟩:=Gp hO [] k
  have CY:fD c [] k = if k = c.revs.length - 1 then [k] else [k,c.revs.length - 1]:=by
    have:=Gq (rs:=c.revs) (fr:=k) (by omega)
    unfold fD;rw [hfl];exact this
  have hod:=hD.od
  have hbb:(lu c (fD c [] k)).base = jD c k:=by rw [e];show jD c (dh c.revs k) = _;rw [hfl]
  have hC3:=jZ (lu c (fD c [] k)) c.revs m hod hO.s.2.1
  have hEq:lu (lu c (fD c [] k)) (uq (lu c (fD c [] k)).revs c.revs (dh (lu c (fD c [] k)).revs m) (lu c (fD c [] k)).revs.length) = if m = c.ah.length /\ k < c.ah.length then ⟨jD c c.ah.length,[(c.ah.length:Int)],[]⟩ else lu c (fD c [] k):=by
    have hall:∀ i,i < (lu c (fD c [] k)).revs.length -> (lu c (fD c [] k)).revs.getD i 0 ∈ c.revs:=fun i hi=>by
      obtain ⟨q0,q1⟩:=hD.rev i hi
      rw [gD hi,q1];exact List.getElem_mem _
    have alI:=fun a ha=>Bd hod (a:=a) ha
    rw [Et (fun i _ hi=>hall i hi)]
    by_cases hkl:k < c.ah.length
    · rw [if_neg (by omega)] at CY
      have hR:(lu c (fD c [] k)).revs = [(k:Int),(c.ah.length:Int)]:=by
        rw [CY]
        show [c.revs.getD k 0,c.revs.getD (c.revs.length - 1) 0] = _
        rw [hgi k (by omega),show c.revs.length - 1 = c.ah.length by omega,hgi _ (Nat.le_refl _)]
      have hS1:(lu c (fD c [] k)).ah = [ji c k (c.revs.length - 1)]:=by rw [CY];rfl
      by_cases hmn:m = c.ah.length
      · rw [if_pos ⟨hmn,hkl⟩]
        have hf1:dh (lu c (fD c [] k)).revs m = 1:=by
          rw [hR];refine Qi (by simp;omega) (by simp) (.inr ?_) (fun j h1 h2=>by simp at h2;omega)
          show (c.ah.length:Int) <= m;omega
        rw [hf1,alI 1 (by rw [hS1];simp),hR,hS1,hD.at_ 1 (by have h:=congrArg List.length hS1;rw [hD.sl] at h;simp at h;omega),CY]
        show Lg.mk (jD c (c.revs.length - 1)) _ _ = _
        rw [show c.revs.length - 1 = c.ah.length by omega];rfl
      · rw [if_neg (by omega)]
        have hf0:dh (lu c (fD c [] k)).revs m = 0:=by
          rw [hR];refine Qi (by simp;omega) (by simp) (.inl rfl) (fun j h1 h2=>?_)
          have:j = 1:=by simp at h2;omega
          subst this
          show (m:Int) < c.ah.length;omega
        rw [hf0,List.drop_zero,KG hod]
    · rw [if_neg (by omega)]
      have aqF:(lu c (fD c [] k)).revs.length = 1:=by rw [if_pos (by omega)] at CY;rw [CY];rfl
      have hf0:dh (lu c (fD c [] k)).revs m = 0:=by
        have:=uo (lu c (fD c [] k)).revs m
        unfold dh;omega
      rw [hf0,List.drop_zero,KG hod]
  rw [hEq] at hC3
  have Y5:=jC ⟨jD c k,c.revs.drop k,c.ah.drop k⟩ ⟨jD c k,c.revs.drop k,c.ah.drop k⟩ (by
    have h1:=Bd hO hkn
    have h2:=(CV hO c.revs k).1
    unfold fD at h2
    rw [hfl,Et (fun i _ hi=>by rw [gD hi];exact List.getElem_mem _),h1] at h2
    exact h2)
  rw [jB] at Y5
  have aj0:=jC (lu c (fD c [] k)) (lu c (fD c [] k)) hod.s
  rw [jB] at aj0
  have Y6:=jC ⟨jD c c.ah.length,[(c.ah.length:Int)],[]⟩ ⟨jD c c.ah.length,[(c.ah.length:Int)],[]⟩ ⟨by have:=(kC hO.e (fun x hx=>(hO.s.2.2.2 x hx).1) (by have:=hO.b;omega) c.ah.length).2.2.2;have:=hO.b;show (jD c _).size <= _;omega,by simp,by simp,fun x hx=>by cases hx⟩
  rw [jB] at Y6
  have Y6:=Y6.arg2 (Le.refl _) (b:=.agg [.v (.string (jD c c.ah.length)),.lst 1 (ints [((aC c.ah).length:Int)]),nilA]) (Le.JC (Le.refl _) (by rw [hrl];exact Le.refl _) (Le.nil 1))
  have alJ:List.take ((ints c.revs).length - (k:Int).toNat) (List.drop (k:Int).toNat (ints c.revs)) = ints (c.revs.drop k):=by
    rw [Int.toNat_natCast];unfold ints
    rw [List.map_drop,List.take_of_length_le (by rw [List.length_drop];exact Nat.le_refl _)]
  have alK:List.take ((aC c.ah).length - (k:Int).toNat) (List.drop (k:Int).toNat (aC c.ah)) = aC (c.ah.drop k):=by
    rw [Int.toNat_natCast,sJ,aW,List.take_of_length_le (by rw [List.length_drop];exact Nat.le_refl _)]
  have Y5:aA env 28 [kT ⟨jD c k,c.revs.drop k,c.ah.drop k⟩,.agg [.v (.string (jD c k)),.lst 1 (List.take ((ints c.revs).length - (k:Int).toNat) (List.drop (k:Int).toNat (ints c.revs))),.lst 1 (List.take ((aC c.ah).length - (k:Int).toNat) (List.drop (k:Int).toNat (aC c.ah)))]] (fun r hs=>r = .v (.bool true) /\ hs = []):=by
    rw [alJ,alK];exact Y5
  generalize lu c (fD c [] k) = d at *
  unfold kT at *
  by_cases hc:m = c.ah.length /\ k < c.ah.length
  · rw [if_pos hc] at hC3
    refine Ev.fn [0,1,2,5,6,7,8,9,10,11,12,13,14,15,16,17,18,19,20,21,22,23,92,111,123] 0 [.tmp 6] Tryd.func17 (Y2 _ rfl) ?_
    repeat' (first | (conv in (IntKind.i64.wrap (_ + Int.tmod _ _))=>rw [hm]) | (conv in (Int.tmod (IntKind.i64.wrap a) _)=>rw [hk]) | (with_reducible first | refine Ev.aK hbb ?_ | refine Ev.aV hbb ?_ | refine Ev.aJ hbb ?_ | refine Ev.aP hbb ?_) | refine' Ev.zP | refine' Ev.zS | refine' Ev.zK | ((with_reducible refine Ev.ca0 ?_);(first | refine Ev.ca (hS) ?_ | refine Ev.ca (hF) ?_ | refine Ev.ca (hC1) ?_ | refine Ev.ca (hAt) ?_ | refine Ev.ca (hC2) ?_ | refine Ev.ca (hC3) ?_ | refine Ev.ca (hAn) ?_ | refine Ev.ca (Y5) ?_ | refine Ev.ca (aj0) ?_ | refine Ev.ca (Y6) ?_);conv=>whnf) | ((with_reducible refine Ev.dG ?_);(first | refine Ev.drv 12 [] [(0,false),(1,false),(2,false),(3,false),(4,true),(5,false),(6,false),(7,false),(8,true),(9,true),(10,false),(11,false)] ?_);intro Q hQ;(simp only [Ev.aX,Ev.aY,Ev.bG]);conv=>whnf) | refine' Ev.zT | fail)
    all_goals first | (exfalso;omega) | exact ⟨rfl,rfl⟩ | skip
  · rw [if_neg hc] at hC3
    refine Ev.fn [0,1,2,5,6,7,8,9,10,11,12,13,14,15,16,17,18,19,20,21,22,23,92,111,123] 0 [.tmp 6] Tryd.func17 (Y2 _ rfl) ?_
    repeat' (first | (conv in (IntKind.i64.wrap (_ + Int.tmod _ _))=>rw [hm]) | (conv in (Int.tmod (IntKind.i64.wrap a) _)=>rw [hk]) | (with_reducible first | refine Ev.aK hbb ?_ | refine Ev.aV hbb ?_ | refine Ev.aJ hbb ?_ | refine Ev.aP hbb ?_) | refine' Ev.zP | refine' Ev.zS | refine' Ev.zK | ((with_reducible refine Ev.ca0 ?_);(first | refine Ev.ca (hS) ?_ | refine Ev.ca (hF) ?_ | refine Ev.ca (hC1) ?_ | refine Ev.ca (hAt) ?_ | refine Ev.ca (hC2) ?_ | refine Ev.ca (hC3) ?_ | refine Ev.ca (hAn) ?_ | refine Ev.ca (Y5) ?_ | refine Ev.ca (aj0) ?_ | refine Ev.ca (Y6) ?_);conv=>whnf) | ((with_reducible refine Ev.dG ?_);(first | refine Ev.drv 12 [] [(0,false),(1,false),(2,false),(3,false),(4,true),(5,false),(6,false),(7,false),(8,true),(9,true),(10,false),(11,false)] ?_);intro Q hQ;(simp only [Ev.aX,Ev.aY,Ev.bG]);conv=>whnf) | refine' Ev.zT | fail)
    all_goals first | (exfalso;omega) | exact ⟨rfl,rfl⟩ | skip
end Go.Proofs.YtadlnaljicikfaaDoor.aB
