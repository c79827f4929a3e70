/- A part of the proof: a calculus over values, and contracts of functions. No condition. -/
import Derived.Test.YtadlnaljicikfaaDoorZC11
set_option linter.unusedVariables false
set_option linter.unusedSimpArgs false
namespace Go.Proofs.YtadlnaljicikfaaDoor.aB
open Go Go.Lib
def Bl:Nat -> List (List Sp) -> Prop
 | _,[]=>True
 | n,x :: L=>IU x /\ bV (dO x) = n /\ bg (dO x) <= 1048576 /\ Bl (bg (dO x)) L
def iQ:Nat -> List (List Sp) -> Nat
 | n,[]=>n
 | _,x :: L=>iQ (bg (dO x)) L
def foldM:List Mk -> List (List Sp) -> List Mk
 | m,[]=>m
 | m,x :: L=>foldM (dD (dO x) m) L
theorem Jd:∀ (a b:List (List Sp)) (m:List Mk),foldM m (a ++ b) = foldM (foldM m a) b
 | [],b,m=>rfl
 | x :: a,b,m=>Jd a b _
theorem NW:∀ (a b:List (List Sp)) (n:Nat),iQ n (a ++ b) = iQ (iQ n a) b
 | [],b,n=>rfl
 | x :: a,b,n=>NW a b _
theorem Bl.app:∀ {a b:List (List Sp)} {n:Nat},Bl n (a ++ b) ↔ Bl n a /\ Bl (iQ n a) b
 | [],b,n=>⟨fun h=>⟨trivial,h⟩,fun h=>h.2⟩
 | x :: a,b,n=>by
   simp only [List.cons_append,Bl,iQ,Bl.app (a:=a),and_assoc]
theorem uH:∀ (L:List (List Sp)) (m:List Mk),Bl (bg m) L -> bV (foldM m L) = bV m /\ bg (foldM m L) = iQ (bg m) L
 | [],m,_=>⟨rfl,rfl⟩
 | x :: L,m,h=>by
   obtain ⟨h1,h2,h3,h4⟩:=h
   obtain ⟨s1,s2,_⟩:=kP (fun _=>0) (dO x) m h2.symm
   obtain ⟨i1,i2⟩:=uH L (dD (dO x) m) (by rw [s2];exact h4)
   exact ⟨i1.trans s1,by rw [s2] at i2;exact i2⟩
theorem xC:∀ (L:List (List Sp)) (m:List Mk),Bl (bg m) L -> foldM m L = dD (foldM (dQ (bg m)) L) m
 | [],m,_=>(Vg m).symm
 | x :: L,m,h=>by
   obtain ⟨h1,h2,h3,h4⟩:=h
   obtain ⟨s1,s2,_⟩:=kP (fun _=>0) (dO x) m h2.symm
   have e1:dD (dO x) (dQ (bg m)) = dO x:=by rw [<- h2];exact lY _
   show foldM (dD (dO x) m) L = dD (foldM (dD (dO x) (dQ (bg m))) L) m
   rw [e1,xC L (dD (dO x) m) (by rw [s2];exact h4),s2,xC L (dO x) h4]
   have hz:=uH L (dQ (bg (dO x))) (by rw [kQ];exact h4)
   rw [jw _ _ _ h2.symm (by rw [hz.1,rV])]
theorem NY:∀ (L:List (List Sp)) (b:List Sp),IU b -> Bl (bg (dO b)) L -> (dS b L).2 = 0 -> IU (dS b L).1 /\ dO (dS b L).1 = foldM (dO b) L
 | [],b,h,_,_=>⟨h,rfl⟩
 | x :: L,b,h,hc,h0=>by
   obtain ⟨h1,h2,h3,h4⟩:=hc
   have hz:=bI h.ops.all
   have hx:=bI h1.ops.all
   obtain ⟨o1,o2,o3,o4,-⟩:=pG h.ops h1.ops (by omega)
   simp only [dS] at h0 ⊢
   by_cases hE:jh b x = 0
   · rw [if_pos hE] at h0 ⊢
     have hm:bg (dO (jR b x)) = bg (dO x):=by have:=bI o1.ops.all;omega
     obtain ⟨i1,i2⟩:=NY L (jR b x) o1 (by rw [hm];exact h4) h0
     exact ⟨i1,by rw [i2,o2];rfl⟩
   · rw [if_neg hE] at h0;exact absurd h0 hE
theorem Vz {n:Int} (hn:0 <= n /\ n <= 1048576):IU (dU n) /\ dO (dU n) = dQ n.toNat:=by
 have hm:=(sG hn).1
 have ho:=(qM.of hm (by have:=(sF n).2;omega)).1
 unfold dU at ho ⊢
 by_cases h:n = 0
 · rw [if_pos h] at ho ⊢;subst h;exact ⟨⟨ho,rfl⟩,rfl⟩
 · rw [if_neg h] at ho ⊢
   refine ⟨⟨ho,?_⟩,?_⟩
   · simp [GH,oW,emptyS,h]
   · rw [adT];rfl
theorem Gg:∀ (L:List (List Sp)) (n:Int),dA n L = 0 -> (∀ x ∈ L,x.length <= 10000000 /\ dw x <= 100000000) -> 0 <= n -> Bl n.toNat L /\ (iQ n.toNat L:Int) = dY n L
 | [],n,_,_,h=>⟨trivial,by simp [iQ,dY];omega⟩
 | x :: L,n,hs,hx,hn=>by
   simp only [dA] at hs
   by_cases h0:iq n x = 0
   · rw [if_pos h0] at hs
     obtain ⟨a,b,c,d,e⟩:=xw h0
     obtain ⟨l1,l2⟩:=hx x (by simp)
     obtain ⟨o1,o2⟩:=qM.of a (by omega)
     have hz:=bI o1.all
     obtain ⟨p1,p2⟩:=yR a l1 l2
     have hout:(bg (dO x):Int) = outW x:=by omega
     obtain ⟨i1,i2⟩:=Gg L (outW x) hs (fun y hy=>hx y (by simp [hy])) p1
     have e1:(outW x).toNat = bg (dO x):=by omega
     rw [e1] at i1 i2
     exact ⟨⟨⟨o1,d⟩,by omega,by omega,i1⟩,i2⟩
   · rw [if_neg h0] at hs;exact absurd hs h0
def runM (n:Nat) (S:List (List Sp)) (a b:Nat):List Mk:=foldM (dQ (iQ n (S.take a))) ((S.drop a).take (b - a))
theorem Bl.split {n:Nat} {S:List (List Sp)} (h:Bl n S) (a:Nat):Bl n (S.take a) /\ Bl (iQ n (S.take a)) (S.drop a):=by
 rw [<- List.take_append_drop a S] at h;exact Bl.app.1 h
theorem Gi {α:Type} (S:List α) {a b:Nat} (h:a <= b):S.take b = S.take a ++ (S.drop a).take (b - a):=by
 have:=List.take_add (l:=S) (i:=a) (j:=b - a)
 rwa [show a + (b - a) = b by omega] at this
theorem Bl.part {n:Nat} {S:List (List Sp)} (h:Bl n S) {a b:Nat} (hab:a <= b):Bl (iQ n (S.take a)) ((S.drop a).take (b - a)) /\ iQ (iQ n (S.take a)) ((S.drop a).take (b - a)) = iQ n (S.take b):=by
 have:=(h.split b).1
 rw [Gi S hab] at this
 exact ⟨(Bl.app.1 this).2,by rw [Gi S hab,NW]⟩
theorem Je {n:Nat} {S:List (List Sp)} (h:Bl n S) {a b:Nat} (hab:a <= b):bV (runM n S a b) = iQ n (S.take a) /\ bg (runM n S a b) = iQ n (S.take b):=by
 obtain ⟨h1,h2⟩:=h.part hab
 have:=uH ((S.drop a).take (b - a)) (dQ (iQ n (S.take a))) (by rw [kQ];exact h1)
 rw [rV,kQ,h2] at this;exact this
theorem xE (n:Nat) (S:List (List Sp)) (a:Nat):runM n S a a = dQ (iQ n (S.take a)):=by
 unfold runM;rw [Nat.sub_self,List.take_zero];rfl
theorem NZ {n:Nat} {S:List (List Sp)} (h:Bl n S) {a b d:Nat} (hab:a <= b) (hbd:b <= d):runM n S a d = dD (runM n S b d) (runM n S a b):=by
 have e:(S.drop a).take (d - a) = (S.drop a).take (b - a) ++ (S.drop b).take (d - b):=by
   rw [Gi (S.drop a) (show b - a <= d - a by omega),List.drop_drop,show a + (b - a) = b by omega,show d - a - (b - a) = d - b by omega]
 have hz:=Je h hab
 unfold runM at hz ⊢
 rw [e,Jd,xC _ (foldM (dQ (iQ n (S.take a))) ((S.drop a).take (b - a))) (by rw [hz.2];exact (h.part hbd).1),hz.2]
theorem N7 {n:Nat} {S:List (List Sp)} (h:Bl n S) {a:Nat} (ha:a < S.length):runM n S a (a + 1) = dO S[a]:=by
 have h1:=(h.split a).2
 rw [List.drop_eq_getElem_cons ha] at h1
 unfold runM
 rw [Nat.add_sub_cancel_left,List.drop_eq_getElem_cons ha,List.take_succ_cons,List.take_zero]
 show dD (dO S[a]) (dQ _) = _
 rw [<- h1.2.1];exact lY _
theorem gD {α:Type} {l:List α} {n:Nat} {d:α} (h:n < l.length):l.getD n d = l[n]:=by rw [List.getD_eq_getElem?_getD,List.getElem?_eq_getElem h];rfl
def qO (c:Lg):Nat:=(aN c.base.data.toList).toNat
theorem Jf {x:List Sp} {L:List (List Sp)} (h:x ∈ L):x.length <= gI L /\ dw x <= gZ L:=by
 induction L with
 | nil=>cases h
 | cons y L ih =>
   obtain ⟨e1,e2⟩:=dL y L
   rw [e1,e2]
   rcases List.mem_cons.1 h with rfl | h
   · omega
   · have:=ih h;omega
theorem xJ.each {c:Lg} (h:xJ c):∀ x ∈ c.ah,x.length <= 900000 /\ dw x <= 900000:=fun x hx=>by
 have:=Jf hx
 have hb:=h.b
 have hl:=h.l
 have htt:gZ c.ah = gV c.ah:=rfl
 omega
theorem xJ.Zi {c:Lg} (h:xJ c):Bl (qO c) c.ah /\ ∀ i,(iQ (qO c) (c.ah.take i):Int) = dY (aN c.base.data.toList) (c.ah.take i):=by
 obtain ⟨z1,z2,z3,z4,z5⟩:=dJ h.e
 have h0:=(qC h 0).1
 rw [List.take_zero] at h0
 have h0:0 <= aN c.base.data.toList:=h0
 refine ⟨(Gg c.ah _ z5 (fun x hx=>by have:=h.each x hx;omega) h0).1,fun i=>(Gg (c.ah.take i) _ (gX z5 i).1 (fun x hx=>by have:=h.each x (List.mem_of_mem_take hx);omega) h0).2⟩
theorem aea{G:Prop}(h:G:=by
 obtain ⟨h1,h2⟩:=h.Zi
 have hm:=qC h a
 obtain ⟨k1,k2⟩:=Vz hm
 have e:(dY (aN c.base.data.toList) (c.ah.take a)).toNat = iQ (qO c) (c.ah.take a):=by have:=h2 a;omega
 rw [e] at k2
 all_goals(rcases(⟨_⟩:PLift _)with⟨h⟩;exact h)):G:=h
theorem A8 {c:Lg} (h:xJ c) {a b:Nat} (hab:a <= b) (hb:b <= c.ah.length):IU (ji c a b) /\ dO (ji c a b) = runM (qO c) c.ah a b:=by
 refine' aea
 have:=NY ((c.ah.drop a).take (b - a)) _ k1 (by rw [k2,kQ];exact (h1.part hab).1) (CU h hab hb).1
 rw [k2] at this
 exact this
theorem Gj:∀ (L:List (List Sp)) (b:List Sp),b.length + gI L <= 10000000 -> dw b + gZ L <= 100000000 -> (dS b L).2 = 0 -> (dS b L).1.length <= b.length + gI L /\ dw (dS b L).1 <= dw b + gZ L
 | [],b,_,_,_=>⟨Nat.le_add_right ..,Nat.le_add_right ..⟩
 | x :: L,b,hl,ht,h0=>by
   obtain ⟨l1,l2⟩:=dL x L
   rw [l1] at hl ⊢
   rw [l2] at ht ⊢
   simp only [dS] at h0 ⊢
   by_cases hE:jh b x = 0
   · rw [if_pos hE] at h0 ⊢
     have hs:=l7 hE (by omega) (by omega) (by omega)
     have:=Gj L (jR b x) (by omega) (by omega) h0
     omega
   · rw [if_neg hE] at h0;exact absurd h0 hE
theorem Y0 {c:Lg} (h:xJ c) {a b:Nat} (hab:a < b) (hb:b <= c.ah.length):(ji c a b).length <= gI ((c.ah.drop a).take (b - a)) /\ dw (ji c a b) <= gZ ((c.ah.drop a).take (b - a)):=by
 have ha:a < c.ah.length:=by omega
 refine' aea
 obtain ⟨f1,-,-,-,-,-,f5,f6⟩:=CU h (Nat.le_of_lt hab) hb
 have hl:=h.l
 have hbb:=h.b
 have htt:gZ c.ah = gV c.ah:=rfl
 have hc:=(h1.part (Nat.le_of_lt hab)).1
 unfold ji
 have eL:(c.ah.drop a).take (b - a) = c.ah[a] :: (c.ah.drop (a + 1)).take (b - a - 1):=by
   rw [List.drop_eq_getElem_cons ha,show b - a = (b - a - 1) + 1 by omega,List.take_succ_cons];rfl
 rw [eL] at f1 hc f5 f6 ⊢
 have hx:=hc.1
 have hz:=bI hx.ops.all
 have hzk:=bI k1.ops.all
 rw [k2,rV,kQ] at hzk
 have hin:=hc.2.1
 obtain ⟨o1,o2,-⟩:=pG k1.ops hx.ops (by omega)
 have hid:jR (dU (dY (aN c.base.data.toList) (c.ah.take a))) c.ah[a] = c.ah[a]:=IU.inj o1 hx (by rw [o2,k2,<- hin];exact lY _)
 simp only [dS] at f1 ⊢
 by_cases hE:jh (dU (dY (aN c.base.data.toList) (c.ah.take a))) c.ah[a] = 0
 · rw [if_pos hE,hid] at f1 ⊢
   obtain ⟨l1,l2⟩:=dL c.ah[a] ((c.ah.drop (a + 1)).take (b - a - 1))
   have b1:c.ah[a].length + gI ((c.ah.drop (a + 1)).take (b - a - 1)) <= gI c.ah:=l1 ▸ f5
   have b2:dw c.ah[a] + gZ ((c.ah.drop (a + 1)).take (b - a - 1)) <= gZ c.ah:=l2 ▸ f6
   rw [l1,l2]
   exact Gj _ _ (by omega) (by omega) f1
 · rw [if_neg hE] at f1;exact absurd f1 hE
structure KL (m:Nat) (a:Nat) (l:List Nat):Prop where
 pw:(a :: l).Pairwise (· < ·)
 le:∀ i ∈ a :: l,i <= m
theorem KL.tail {m a b:Nat} {l:List Nat} (h:KL m a (b :: l)):a < b /\ b <= m /\ KL m b l:=by
 obtain ⟨h1,h2⟩:=h
 rw [List.pairwise_cons] at h1
 exact ⟨h1.1 b (by simp),h2 b (by simp),h1.2,fun i hi=>h2 i (List.mem_cons_of_mem _ hi)⟩
theorem vZ {c:Lg} (h:xJ c):∀ (l:List Nat) (a:Nat),KL c.ah.length a l -> Bl (iQ (qO c) (c.ah.take a)) (eH c (a :: l)) /\
   ∀ i,i <= l.length -> iQ (iQ (qO c) (c.ah.take a)) ((eH c (a :: l)).take i) = iQ (qO c) (c.ah.take ((a :: l).getD i 0))
 | [],a,_=>⟨trivial,fun i hi=>by
   have:i = 0:=by simpa using hi
   subst this;rfl⟩
 | b :: l,a,hK=>by
   obtain ⟨h1,h2,h3⟩:=hK.tail
   obtain ⟨o1,o2⟩:=A8 h (Nat.le_of_lt h1) h2
   obtain ⟨i1,i2⟩:=vZ h l b h3
   obtain ⟨s1,s2⟩:=Je h.Zi.1 (Nat.le_of_lt h1)
   have hb:=(qC h b).2
   rw [<- h.Zi.2 b] at hb
   rw [o2.symm] at s1 s2
   refine ⟨⟨o1,s1,by omega,by rw [s2];exact i1⟩,fun i hi=>?_⟩
   cases i with
   | zero=>rfl
   | succ i =>
     show iQ (bg (dO (ji c a b))) ((eH c (b :: l)).take i) = _
     rw [s2];exact i2 i (by simpa using hi)
theorem Gl {c:Lg} (h:xJ c) {l:List Nat} {a:Nat} (hK:KL c.ah.length a l) {i:Nat}:∀ j,i <= j -> j <= l.length ->
   runM (iQ (qO c) (c.ah.take a)) (eH c (a :: l)) i j = runM (qO c) c.ah ((a :: l).getD i 0) ((a :: l).getD j 0) /\ (a :: l).getD i 0 <= (a :: l).getD j 0
 | 0,hi,_=>by
   have:i = 0:=by omega
   subst this
   exact ⟨by rw [xE,xE,(vZ h l a hK).2 0 (Nat.zero_le _)],Nat.le_refl _⟩
 | j + 1,hi,hj=>by
   obtain ⟨g1,g2⟩:=vZ h l a hK
   by_cases e:i = j + 1
   · subst e;exact ⟨by rw [xE,xE,g2 _ hj],Nat.le_refl _⟩
   · obtain ⟨r1,r2⟩:=Gl h hK (i:=i) j (by omega) (by omega)
     have hjl:j < (eH c (a :: l)).length:=by rw [iC];omega
     have e1:(a :: l).getD j 0 = (a :: l)[j]'(by simp;omega):=by rw [List.getD_eq_getElem?_getD,List.getElem?_eq_getElem (by simp;omega)];rfl
     have e2:(a :: l).getD (j + 1) 0 = (a :: l)[j + 1]'(by simp;omega):=by rw [List.getD_eq_getElem?_getD,List.getElem?_eq_getElem (by simp;omega)];rfl
     have hlt:(a :: l).getD j 0 < (a :: l).getD (j + 1) 0:=by rw [e1,e2];exact List.pairwise_iff_getElem.1 hK.pw _ _ _ _ (Nat.lt_succ_self j)
     have hle:(a :: l).getD (j + 1) 0 <= c.ah.length:=by rw [e2];exact hK.le _ (List.getElem_mem _)
     refine ⟨?_,by omega⟩
     rw [NZ g1 (show i <= j by omega) (Nat.le_succ j),N7 g1 hjl,r1,qB,(A8 h (Nat.le_of_lt hlt) hle).2,<- NZ h.Zi.1 r2 (Nat.le_of_lt hlt)]
theorem N8:∀ (L:List (List Sp)) (n:Nat),Bl n L -> (∀ x ∈ L,x.length <= 10000000 /\ dw x <= 100000000) -> dA (n:Int) L = 0
 | [],_,_,_=>rfl
 | x :: L,n,h,hx=>by
   obtain ⟨h1,h2,h3,h4⟩:=h
   obtain ⟨l1,l2⟩:=hx x (by simp)
   obtain ⟨m1,m2⟩:=h1.ops.may (by omega)
   obtain ⟨p1,p2⟩:=yR m1 l1 l2
   have hz:=bI h1.ops.all
   have e:iq (n:Int) x = 0:=by
     unfold iq
     rw [if_neg (by simpa using m1),if_neg (by omega),if_neg (by omega),if_pos h1.nf]
   simp only [dA]
   rw [if_pos e,show outW x = ((bg (dO x):Nat):Int) by omega]
   exact N8 L _ h4 (fun y hy=>hx y (by simp [hy]))
theorem Gm {c:Lg} (h:xJ c):∀ (l:List Nat) (a:Nat),KL c.ah.length a l -> gI (eH c (a :: l)) <= gI (c.ah.drop a) /\ gZ (eH c (a :: l)) <= gZ (c.ah.drop a)
 | [],a,_=>⟨Nat.zero_le _,Nat.zero_le _⟩
 | b :: l,a,hK=>by
   obtain ⟨h1,h2,h3⟩:=hK.tail
   obtain ⟨f1,f2⟩:=Y0 h h1 h2
   obtain ⟨i1,i2⟩:=Gm h l b h3
   have e:c.ah.drop a = (c.ah.drop a).take (b - a) ++ c.ah.drop b:=by
     conv=>lhs;rw [<- List.take_append_drop (b - a) (c.ah.drop a)]
     rw [List.drop_drop,show a + (b - a) = b by omega]
   have e1:gI (c.ah.drop a) = gI ((c.ah.drop a).take (b - a)) + gI (c.ah.drop b):=by
     conv=>lhs;rw [e]
     simp [gI]
   have e2:gZ (c.ah.drop a) = gZ ((c.ah.drop a).take (b - a)) + gZ (c.ah.drop b):=by
     conv=>lhs;rw [e]
     simp [gZ]
   simp only [eH]
   rw [(dL _ _).1,(dL _ _).2];omega
theorem aeY {c:Lg} (h:xJ c) (set:List Int) (f:Int):∃ l,fD c set f = dh c.revs f :: l /\ KL c.ah.length (dh c.revs f) l /\ (dh c.revs f :: l).getLast (by simp) = c.ah.length:=by
 obtain ⟨z1,z2,z3,z4,z5⟩:=dJ h.e
 have hfr:dh c.revs f <= c.ah.length:=by have:=uo c.revs f;unfold dh;omega
 obtain ⟨K,e0,k1,k2,k3⟩:=xB c.revs set (fr:=dh c.revs f) (by omega)
 exact ⟨K,e0,⟨k1,fun i hi=>by have:=k2 i hi;omega⟩,by rw [k3];omega⟩
theorem KL.at {m a:Nat} {l:List Nat} (h:KL m a l) {i:Nat} (hi:i <= l.length):(a :: l).getD i 0 <= m /\ ∀ j,j < i -> (a :: l).getD j 0 < (a :: l).getD i 0:=by
 have hil:i < (a :: l).length:=by simp;omega
 rw [gD hil]
 exact ⟨h.le _ (List.getElem_mem _),fun j hj=>by rw [gD (show j < (a :: l).length by omega)];exact List.pairwise_iff_getElem.1 h.pw _ _ _ _ hj⟩
theorem Gn {rs:List Int}:∀ (l:List Nat) (w:Int),l.Pairwise (· < ·) -> rs.Pairwise (· < ·) -> (∀ x ∈ rs,x <= 268435455) -> (∀ i ∈ l,i < rs.length) -> (∀ i ∈ l,w < rs.getD i 0) -> dM w (rC rs l) = true
 | [],_,_,_,_,_,_=>rfl
 | i :: l,w,hl,hs,hb,hi,hw=>by
   rw [List.pairwise_cons] at hl
   have h1:=hi i (by simp)
   show (decide (w < rs.getD i 0) && decide (rs.getD i 0 <= 268435455) && dM (rs.getD i 0) (rC rs l)) = true
   rw [decide_eq_true (hw i (by simp)),decide_eq_true (by rw [gD h1];exact hb _ (List.getElem_mem _)),Gn l (rs.getD i 0) hl.2 hs hb (fun j hj=>hi j (by simp [hj])) (fun j hj=>?_)]
   · rfl
   · have h2:=hi j (by simp [hj])
     rw [gD h1,gD h2];exact List.pairwise_iff_getElem.1 hs i j h1 h2 (hl.1 j hj)
theorem Jg:∀ (l:List Int) (w:Int),dM w l = true -> ∀ x ∈ l,x <= 268435455
 | [],_,_,x,hx=>by cases hx
 | y :: l,w,h,x,hx=>by
   simp only [dM,Bool.and_eq_true,decide_eq_true_eq] at h
   rcases List.mem_cons.1 hx with rfl | hx
   · exact h.1.2
   · exact Jg l y h.2 x hx
theorem yT (L:List (List Sp)) (a:Nat):gI (L.take a) + gI (L.drop a) = gI L /\ gZ (L.take a) + gZ (L.drop a) = gZ L:=by
 unfold gI gZ
 rw [<- List.sum_append,<- List.sum_append,<- List.map_append,<- List.map_append,List.take_append_drop]
 exact ⟨rfl,rfl⟩
theorem Ep {c:Lg} (h:xJ c) {a:Nat} {l:List Nat} (hK:KL c.ah.length a l):xJ (lu c (a :: l)) /\ qO (lu c (a :: l)) = iQ (qO c) (c.ah.take a):=by
 obtain ⟨z1,z2,z3,z4,z5⟩:=dJ h.e
 have hb:=h.b
 have hll:=h.l
 have htt:gZ c.ah = gV c.ah:=rfl
 have ha:=hK.le a (by simp)
 obtain ⟨g1,g2,g3,g4⟩:=kC h.e (fun x hx=>(h.s.2.2.2 x hx).1) (by omega) a
 obtain ⟨s1,s2⟩:=Gm h l a hK
 obtain ⟨t1,t2⟩:=yT c.ah a
 have hsz:(jD c a).size <= c.base.size + gV (c.ah.take a):=by
   obtain ⟨u,c1,c2,c3,c4⟩:=xu (c.ah.take a) _ c.base z1 rfl (gX z5 a).1 (fun x hx'=>(h.s.2.2.2 x (List.mem_of_mem_take hx')).1) (by have:=wX c.ah a;omega)
   have:jD c a = u:=by unfold jD;rw [c1]
   rw [this];omega
 have hta:gV (c.ah.take a) = gZ (c.ah.take a):=rfl
 have htc:gV (eH c (a :: l)) = gZ (eH c (a :: l)):=rfl
 have hcnt:aN (jD c a).data.toList = ((iQ (qO c) (c.ah.take a):Nat):Int):=by rw [g3,h.Zi.2 a]
 have hn0:qO (lu c (a :: l)) = iQ (qO c) (c.ah.take a):=by
   show (aN (jD c a).data.toList).toNat = _
   rw [hcnt];rfl
 have hrl:=sN z3
 have hr:dM (-1) c.revs = true:=by unfold rises at z3;simp only [Bool.and_eq_true] at z3;exact z3.2
 obtain ⟨p1,p2⟩:=vY _ _ hr
 have hlen:(a :: l).length <= c.ah.length + 1:=by
   have:∀ (l:List Nat) (a m:Nat),KL m a l -> l.length + a <= m:=by
     intro l
     induction l with
     | nil=>intro a m h;have:=h.le a (by simp);simpa using this
     | cons b l ih =>
       intro a m h
       obtain ⟨h1,h2,h3⟩:=h.tail
       have:=ih b m h3
       simp only [List.length_cons];omega
   have:=this l a _ hK
   simp only [List.length_cons];omega
 have ajW:rises (rC c.revs (a :: l)) = true:=by
   unfold rises
   rw [Gn (a :: l) (-1) hK.pw p1 (Jg _ _ hr) (fun i hi=>by have:=hK.le i hi;omega) (fun i hi=>by
     have:=hK.le i hi
     have e:c.revs.getD i 0 = c.revs[i]:=by rw [List.getD_eq_getElem?_getD,List.getElem?_eq_getElem (by omega)];rfl
     rw [e];exact p2 _ (List.getElem_mem _)),decide_eq_true (by rw [rC,List.length_map];omega)]
   rfl
 have hx:∀ x ∈ eH c (a :: l),x.length <= 900000 /\ dw x <= 900000:=fun x hx=>by have:=Jf hx;omega
 refine ⟨⟨⟨by show (jD c a).size <= _;omega,by show (rC c.revs _).length <= _;rw [rC,List.length_map];omega,by show (eH c _).length <= _;rw [iC];simp only [List.length_cons] at hlen;omega,fun x hx'=>?_⟩,?_,?_,?_⟩,hn0⟩
 · have:=hx x hx';exact ⟨by omega,fM (by omega)⟩
 · have hcb:=(qC h a).2
   rw [<- g3] at hcb
   have hc0:¬ aN (jD c a).data.toList < 0:=by rw [hcnt];omega
   unfold nP
   show (if aN (jD c a).data.toList < 0 then _ else if 1048576 < aN (jD c a).data.toList then _ else if mZ (rC c.revs (a :: l)) ≠ 0 ∨ (rC c.revs (a :: l)).length ≠ (eH c (a :: l)).length + 1 then _ else dA (aN (jD c a).data.toList) (eH c (a :: l))) = 0
   rw [if_neg hc0,if_neg (by omega),if_neg,hcnt]
   · exact N8 _ _ (vZ h l a hK).1 (fun x hx'=>by have:=hx x hx';omega)
   · rintro (h1 | h1)
     · unfold mZ at h1;rw [if_pos ajW] at h1;exact h1 rfl
     · rw [iC,rC,List.length_map] at h1;exact h1 rfl
 · show (jD c a).size + gV (eH c (a :: l)) <= _;omega
 · show gI (eH c (a :: l)) <= _;omega
theorem Y1 {c:Lg} (h:xJ c) {a:Nat} {l:List Nat} (hK:KL c.ah.length a l):∀ i,i <= l.length -> jD (lu c (a :: l)) i = jD c ((a :: l).getD i 0)
 | 0,_=>by unfold jD;rfl
 | i + 1,hi=>by
   have ih:=Y1 h hK i (by omega)
   obtain ⟨d1,d2⟩:=Ep h hK
   have hil:i < (eH c (a :: l)).length:=by rw [iC];omega
   obtain ⟨q1,q2⟩:=hK.at hi
   have q3:=q2 i (Nat.lt_succ_self i)
   have hF:=CU h (Nat.le_of_lt q3) q1
   have hG:=kC d1.e (fun x hx=>(d1.s.2.2.2 x hx).1) (by have:=d1.b;omega) i
   have hsp:(eH c (a :: l)).take (i + 1) = (eH c (a :: l)).take i ++ [ji c ((a :: l).getD i 0) ((a :: l).getD (i + 1) 0)]:=by
     rw [List.take_succ_eq_append_getElem hil,qB]
   have hall:=vV ((eH c (a :: l)).take i) [ji c ((a :: l).getD i 0) ((a :: l).getD (i + 1) 0)] (lu c (a :: l)).base (by rw [show (eH c (a :: l)).take i = (lu c (a :: l)).ah.take i from rfl,hG.1])
   unfold jD at ih ⊢
   show (jK ((eH c (a :: l)).take (i + 1)) _).2 = _
   rw [hsp,hall]
   have ih':(jK ((eH c (a :: l)).take i) (lu c (a :: l)).base).2 = jD c ((a :: l).getD i 0):=ih
   rw [ih']
   simp only [jK]
   rw [if_pos hF.2.1,hF.2.2.1];rfl
theorem aeZ {c:Lg} (h:xJ c) {a:Nat} {l:List Nat} (hK:KL c.ah.length a l) {i j:Nat} (hij:i <= j) (hj:j <= l.length):ji (lu c (a :: l)) i j = ji c ((a :: l).getD i 0) ((a :: l).getD j 0):=by
 obtain ⟨d1,d2⟩:=Ep h hK
 obtain ⟨r1,r2⟩:=Gl h hK j hij hj
 obtain ⟨o1,o2⟩:=A8 d1 hij (show j <= (eH c (a :: l)).length by rw [iC];exact hj)
 obtain ⟨p1,p2⟩:=A8 h r2 (hK.at hj).1
 refine IU.inj o1 p1 ?_
 rw [o2,p2,d2];exact r1
theorem afA {c:Lg} (h:xJ c) {i:Nat} (hi:i < c.ah.length):ji c i (i + 1) = c.ah[i]:=by
 obtain ⟨p1,p2⟩:=A8 h (Nat.le_succ i) hi
 have h1:=(h.Zi.1.split i).2
 rw [List.drop_eq_getElem_cons hi] at h1
 exact IU.inj p1 h1.1 (by rw [p2];exact N7 h.Zi.1 hi)
theorem Jh:∀ {l m:List Nat},l.Pairwise (· < ·) -> m.Pairwise (· < ·) -> (∀ x,x ∈ l ↔ x ∈ m) -> l = m
 | [],[],_,_,_=>rfl
 | [],y :: m,_,_,h=>absurd ((h y).2 (by simp)) (by simp)
 | x :: l,[],_,_,h=>absurd ((h x).1 (by simp)) (by simp)
 | x :: l,y :: m,hl,hm,h=>by
   rw [List.pairwise_cons] at hl hm
   have e:x = y:=by
     rcases List.mem_cons.1 ((h x).1 (by simp)) with e | e
     · exact e
     · rcases List.mem_cons.1 ((h y).2 (by simp)) with e' | e'
       · exact e'.symm
       · have h1:=hm.1 x e;have h2:=hl.1 y e';omega
   subst e
   rw [Jh hl.2 hm.2 (fun z=>⟨fun hz=>?_,fun hz=>?_⟩)]
   · rcases List.mem_cons.1 ((h z).1 (List.mem_cons_of_mem _ hz)) with e | e
     · subst e;exact absurd (hl.1 z hz) (Nat.lt_irrefl _)
     · exact e
   · rcases List.mem_cons.1 ((h z).2 (List.mem_cons_of_mem _ hz)) with e | e
     · subst e;exact absurd (hm.1 z hz) (Nat.lt_irrefl _)
     · exact e
theorem afB {rs set:List Int} {fr n i:Nat}:i ∈ uq rs set fr n ↔ fr <= i /\ i < n /\ Gs rs set fr i = true:=by
 unfold uq
 rw [List.mem_filter]
 have:i ∈ (List.range n).drop fr ↔ fr <= i /\ i < n:=by
   constructor
   · intro h
     obtain ⟨j,hj,rfl⟩:=List.getElem_of_mem h
     rw [List.length_drop,List.length_range] at hj
     simp;omega
   · rintro ⟨h1,h2⟩
     exact List.mem_iff_getElem.2 ⟨i - fr,by simp;omega,by simp;omega⟩
 rw [this,and_assoc]
theorem ajX (rs set:List Int) (fr n:Nat):(uq rs set fr n).Pairwise (· < ·):=List.Pairwise.sublist ((List.filter_sublist).trans (List.drop_sublist _ _)) List.pairwise_lt_range
theorem RX {rs set:List Int} {fr i:Nat}:Gs rs set fr i = true ↔ i = fr ∨ i = rs.length - 1 ∨ rs.getD i 0 ∈ set:=by
 unfold Gs;simp
theorem Qi {rs:List Int} (hs:rs.Pairwise (· < ·)) {f:Int} {k:Nat} (hk:k < rs.length) (h1:k = 0 ∨ rs.getD k 0 <= f) (h2:∀ j,k < j -> j < rs.length -> f < rs.getD j 0):dh rs f = k:=by
 unfold dh
 by_cases h:rs.getD k 0 <= f
 · rw [vO (i:=k + 1) hk (fun x hx=>?_) (fun hl hn=>?_)];· rfl
   · obtain ⟨j,hj,rfl⟩:=List.getElem_of_mem hx
     rw [List.length_take] at hj
     rw [List.getElem_take]
     rw [gD hk] at h
     rcases Nat.lt_or_ge j k with h' | h'
     · have:=List.pairwise_iff_getElem.1 hs j k (by omega) hk h';omega
     · have:j = k:=by omega
       subst this;exact h
   · have:=h2 (k + 1) (Nat.lt_succ_self k) hl
     rw [gD hl] at this;omega
 · have hk0:k = 0:=h1.resolve_right h
   subst hk0
   rw [vO (i:=0) (Nat.zero_le _) (by simp) (fun hl hn=>by rw [gD hl] at h;exact h hn)]
end Go.Proofs.YtadlnaljicikfaaDoor.aB
namespace Go.Proofs.YtadlnaljicikfaaDoor.aB
open Go
set_option maxRecDepth 100000
attribute [local irreducible] Ev.iE Ev.iG Ev.bW Ev.runK Ev.bY Ev.gq Ev.Side Ev.Wp Ev.Again Ev.To Ev.Fin
open Go.Lib Go.RowKit
def Es:Ev.Pl:=(.one 0 false (.one 1 false (.one 2 false (.one 3 false (.one 4 false (.one 5 false (.one 6 true (.one 7 true (.one 8 false (.one 9 false (.two 10 (.one 11 false (.one 12 false (.one 13 false (.one 14 false (.one 15 false (.one 16 false .fin)))))) 14 (.one 10 false (.one 11 false (.one 12 false (.one 13 false (.one 15 false (.one 16 false .fin)))))))))))))))))
theorem ajY:∀ c,Tryd.f18.body = some c -> comp c = (.seq (.reg 0 [I.n 0 5 (.box 85 (.tmp 2)),I.n 1 6 (I.sb false)]) (.seq (.reg 1 [I.n 0 19 (I.c0 58),I.n 1 7 (I.sa 19)]) (.seq (.reg 2 [I.n 0 20 (I.mv 0),I.n 1 21 (I.mv 1),I.n 2 22 (I.c2 23 20 21 9 22),I.n 3 8 (.alloc 27),I.u 4 (I.st 27 8 22)]) (.seq (.draw 3 [I.n 0 24 (I.ld 27 8),I.n 1 25 (I.fa 85 5 0),I.n 2 26 (I.ld 25 25),I.n 3 27 (I.fa 85 5 0),I.n 4 28 (I.ld 25 27),I.n 5 29 (I.ln 28 25),I.n 6 30 (.call { callee:=.builtin .min,args:=#[.tmp 29,.const (Value.int .i64 30)],argTypes:=#[3,3] }),I.n 7 31 (.slice 25 (.tmp 26) none (some (.tmp 30)) none),I.n 8 32 (I.fa 85 5 1),I.n 9 33 (I.ld 3 32),I.n 10 34 (.call { callee:=.value (.func 60),args:=#[.tmp 24,.tmp 31,.tmp 33],argTypes:=#[27,25,3] }),I.n 11 23 (I.mv 34),I.n 12 35 (I.ex 23 0),I.n 13 36 (I.ex 23 1),I.n 14 9 (.alloc 27),I.u 15 (I.st 27 9 35),I.n 16 10 (I.sa 36)] [[],[],[1],[],[3],[4],[5],[2,6],[],[8],[0,7,9],[10],[11],[11],[],[14,12,10,0,1,2,3,4,5,6,7,8,9,10,11,12,14],[13,15,0,1,2,3,4,5,6,7,8,9,10,11,12,13,14,15]]) (.seq (.seq (.reg 4 [I.n 0 37 (I.mv 7),I.n 1 38 (.unOp .not 4 (.tmp 37)),I.n 2 39 (I.mv 38),I.w 3 40 (I.mv 10) 39 false,I.w 4 41 (I.bc .neq 30 40 0 30) 39 false,I.n 5 42 (I.pb 39 true 41),I.n 6 43 (I.mv 42),I.w 7 44 (I.ld 27 9) 43 false,I.w 8 45 (I.c1 46 44 27) 43 false,I.w 9 46 (I.bc .neq 30 45 0 30) 43 false,I.n 10 47 (I.pb 43 true 46)]) (.cond (.tmp 47) (.seq (.reg 5 [I.n 0 6 (I.sb false)]) .ret) .skip)) (.seq (.seq (.reg 6 [I.n 0 11 (I.si 0)]) (.block 0 (.loop (.seq (.seq (.reg 7 [I.n 0 48 (I.mv 11),I.n 1 49 (I.fa 27 9 1),I.n 2 50 (I.ld 25 49),I.n 3 51 (I.ln 50 25),I.n 4 52 (I.bo .lss 3 48 51 3)]) (.cond (.tmp 52) .skip (.exit 0))) (.seq (.block 1 (.seq (.draw 9 [I.n 0 56 (I.fa 27 8 1),I.n 1 57 (I.ld 25 56),I.n 2 58 (I.fa 27 9 1),I.n 3 59 (I.ld 25 58),I.n 4 60 (I.mv 11),I.n 5 61 (I.ia 25 59 60),I.n 6 62 (I.ld 3 61),I.n 7 63 (I.c2 64 57 62 25 3),I.n 8 55 (I.mv 63),I.n 9 64 (I.ex 55 0),I.n 10 65 (I.ex 55 1),I.n 11 66 (I.ex 55 2),I.n 12 12 (I.sa 64),I.n 13 13 (I.sa 65),I.n 14 14 (I.sa 66)] [[],[0],[],[2],[],[3,4],[5],[1,6],[7],[8],[8],[8],[9,7,0,1,2,3,4,5,6,7,8,9],[10,12,0,1,2,3,4,5,6,7,8,9,10,12],[11,13,0,1,2,3,4,5,6,7,8,9,10,11,12,13]]) (.seq (.reg 10 [I.n 0 68 (I.ld 27 8),I.n 1 69 (I.mv 12),I.n 2 70 (I.c2 62 68 69 27 3),I.n 3 67 (I.mv 70),I.n 4 71 (I.ex 67 0),I.n 5 72 (I.ex 67 1),I.n 6 15 (I.sa 71),I.n 7 16 (I.sa 72)]) (.seq (.reg 11 [I.n 0 74 (I.ld 27 9),I.n 1 75 (I.mv 11),I.n 2 76 (I.c2 62 74 75 27 3),I.n 3 73 (I.mv 76),I.n 4 77 (I.ex 73 0),I.n 5 78 (I.ex 73 1),I.n 6 17 (I.sa 77),I.n 7 18 (I.sa 78)]) (.seq (.reg 12 [I.n 0 79 (I.mv 14),I.n 1 80 (I.bc .neq 30 79 0 30),I.n 2 81 (I.mv 80),I.w 3 82 (I.mv 16) 81 false,I.w 4 83 (I.bc .neq 30 82 0 30) 81 false,I.n 5 84 (I.pb 81 true 83),I.n 6 85 (I.mv 84),I.w 7 86 (I.mv 18) 85 false,I.w 8 87 (I.bc .neq 30 86 0 30) 85 false,I.n 9 88 (I.pb 85 true 87),I.n 10 89 (I.mv 88),I.w 11 90 (I.mv 15) 89 false,I.w 12 91 (I.mv 17) 89 false,I.w 13 92 (I.bo .neq 9 90 91 9) 89 false,I.n 14 93 (I.pb 89 true 92)]) (.cond (.tmp 93) (.seq (.reg 13 [I.n 0 6 (I.sb false)]) .ret) .skip)))))) (.reg 8 [I.n 0 53 (I.mv 11),I.n 1 54 (I.bc .add 3 53 1 3),I.n 2 11 (I.sa 54)])))))) (.seq (.draw 14 [I.n 0 94 (I.fa 27 9 1),I.n 1 95 (I.ld 25 94),I.n 2 96 (I.fa 27 9 1),I.n 3 97 (I.ld 25 96),I.n 4 98 (I.ln 97 25),I.n 5 99 (I.bc .sub 3 98 1 3),I.n 6 100 (I.ia 25 95 99),I.n 7 101 (I.ld 3 100),I.n 8 102 (I.fa 27 8 1),I.n 9 103 (I.ld 25 102),I.n 10 104 (I.fa 27 8 1),I.n 11 105 (I.ld 25 104),I.n 12 106 (I.ln 105 25),I.n 13 107 (I.bc .sub 3 106 1 3),I.n 14 108 (I.ia 25 103 107),I.n 15 109 (I.ld 3 108),I.n 16 110 (I.bo .eql 3 101 109 3),I.n 17 6 (I.sa 110)] [[],[0],[],[2],[3],[4],[1,5],[6],[],[8],[],[10],[11],[12],[9,13],[14],[7,15],[16,0,1,2,3,4,5,6,7,8,9,10,11,12,13,14,15,16]]) .ret))))))):=by
 intro c h
 have:c = Tryd.f18.body.get rfl:=by rw [<- Option.some_inj,<- h];rfl
 rw [this];rfl
structure CD (c d:Lg) (K:Nat -> Nat) (m:Nat):Prop where
 oc:xJ c
 od:xJ d
 sl:d.ah.length = m
 rl:d.revs.length = m + 1
 cl:c.revs.length = c.ah.length + 1
 pw:c.revs.Pairwise (· < ·)
 rev:∀ i (h:i < d.revs.length),∃ h':K i < c.revs.length,d.revs[i] = c.revs[K i]
 le:∀ i,i <= m -> K i <= c.ah.length
 at_:∀ i,i <= m -> jD d i = jD c (K i)
 last:K m = c.ah.length
 mono:∀ i j,i < j -> j <= m -> K i < K j
 seg:∀ i (h:i < d.ah.length),d.ah[i] = ji c (K i) (K (i + 1))
 ml:m <= c.ah.length
theorem KL.len:∀ {l:List Nat} {a m:Nat},KL m a l -> l.length + a <= m
 | [],a,m,h=>by have:=h.le a (by simp);simpa using this
 | b :: l,a,m,h=>by
   obtain ⟨h1,h2,h3⟩:=h.tail
   have:=KL.len h3
   simp only [List.length_cons];omega
theorem Gp {c:Lg} (h:xJ c) (set:List Int) (f:Int):∃ l,fD c set f = dh c.revs f :: l /\ KL c.ah.length (dh c.revs f) l /\ CD c (lu c (fD c set f)) (fun i=>(fD c set f).getD i 0) l.length:=by
 obtain ⟨l,e,hK,hl⟩:=aeY h set f
 obtain ⟨z1,z2,z3,z4,z5⟩:=dJ h.e
 rw [e]
 obtain ⟨d1,d2⟩:=Ep h hK
 have hpw:=(vY _ _ (by unfold rises at z3;rw [Bool.and_eq_true] at z3;exact z3.2)).1
 refine ⟨l,rfl,hK,⟨h,d1,iC c _ _,by show (rC _ _).length = _;rw [rC,List.length_map,List.length_cons],z4,hpw,fun i hi=>?_,fun i hi=>(hK.at hi).1,fun i hi=>Y1 h hK i hi,?_,fun i j hij hj=>(hK.at hj).2 i hij,fun i hi=>qB c _ _ hi,by have:=hK.len;omega⟩⟩
 · have hi:i < (rC c.revs (dh c.revs f :: l)).length:=hi
   have hi':i <= l.length:=by rw [rC,List.length_map,List.length_cons] at hi;omega
   have hlt:(dh c.revs f :: l).getD i 0 < c.revs.length:=by have:=(hK.at hi').1;omega
   refine ⟨hlt,?_⟩
   show (rC c.revs (dh c.revs f :: l))[i] = _
   simp only [rC,List.getElem_map]
   rw [gD (by rw [<- gD (d:=0)];exact hlt)]
   simp only [gD (show i < (dh c.revs f :: l).length by simp;omega)]
 · rw [List.getLast_eq_getElem] at hl
   show (dh c.revs f :: l).getD l.length 0 = _
   rw [gD (by simp),<- hl];rfl
theorem Ba (t:ByteArray) (l:List (List Sp)):xJ (jX t l) /\ (jX t l).ah.length <= 20:=by
 obtain ⟨g1,g2,g3,g4,g5⟩:=NH t l
 obtain ⟨n0,hF⟩:=YQ t l
 exact ⟨⟨g2,g1,by omega,by have:=hF.lens;omega⟩,g5⟩
theorem CD.ends {c d:Lg} {K:Nat -> Nat} {m:Nat} (h:CD c d K m) {a b:Nat} {ha:a < d.revs.length} {hb:b < c.revs.length} (e1:a = d.revs.length - 1) (e2:b = c.revs.length - 1):d.revs[a] = c.revs[b]:=by
 obtain ⟨h1,h2⟩:=h.rev a ha
 have:=h.last
 have h3:=h.rl
 have h4:=h.cl
 have e3:a = m:=by omega
 have e4:K a = b:=by rw [e3];omega
 rw [h2];simp only [e4]
theorem RY (rs:List Int) (hl:rs.length <= 100000000) (hs:rs.Pairwise (· < ·)) {k:Nat} (hk:k < rs.length):aA env 64 [.lst 1 (ints rs),.v (.int .i64 rs[k])] (fun x h=>x = .dB [.v (.int .i64 k),.v (.int .i64 rs[k]),.v (.int .i64 0)] /\ h = []):=by
 have:=U5 rs rs[k] hl
 rw [NU hs hk] at this;exact this
set_option maxHeartbeats 1000000 in
theorem Bc (t:ByteArray) (l:List (List Sp)) (S:List Int) (F:Int):aA env 18 [.v (.string t),.lst 1 (aC l),.agg [.lst 1 (ints S),.v (.int .i64 F)]] (fun r hs=>r = .v (.bool true) /\ hs = []):=by
  have hS:=jL
  have hF:=pq t l
  obtain ⟨hO,h20⟩:=Ba t l
  generalize jX t l = c at hF hO h20
  obtain ⟨K,e,hK,hD⟩:=Gp hO (S.take 30) F
  have hC:=jZ c (S.take 30) F hO (by rw [List.length_take];omega)
  have hC:aA env 60 [kT c,.lst 1 (ints (S.take 30)),.v (.int .i64 F)] (fun r hs=>r = .dB [kT (lu c (fD c (S.take 30) F)),.v (.int .i64 0)] /\ hs = []):=hC
  generalize (fun i=>(fD c (S.take 30) F).getD i 0) = k at hD
  generalize lu c (fD c (S.take 30) F) = d at hC hD
  have hM:=IJ d hD.od.s
  rw [hD.od.e] at hM
  rw [<- YZ S] at hC
  unfold kT at *
  refine Ev.fn [0,1,2,5,6,7,8,9,10,11,12,14,15,16,17,18,47,52,93] 0 [.tmp 6] Tryd.func18 (ajY _ rfl) ?_
  repeat' (first | refine' Ev.zP | (with_reducible refine Ev.join (a:=.draw 3 _ _) (fun s=>∃ v w k,s = ⟨[(6,.v (.bool false)),(7,.v (.bool true)),(8,.ptr 1048 v 0 0),(9,.ptr 1648 w 0 0),(10,.v (.int .i64 0))],[(1048,⟨3,27,v,0,true,[[.v (.string c.base),.lst 1 (ints c.revs),.lst 1 (aC c.ah)]]⟩),(1648,⟨3,27,w,0,true,[[.v (.string d.base),.lst 1 (ints d.revs),.lst 1 (aC d.ah)]]⟩)],k⟩ /\ True) ?_ ?_) | refine' Ev.zS | refine' Ev.zK | ((with_reducible refine Ev.ca0 ?_);(first | refine Ev.ca (hS) ?_ | refine Ev.ca (hF) ?_ | refine Ev.ca (hC) ?_ | refine Ev.ca (hM) ?_);conv=>whnf) | ((with_reducible refine Ev.dG ?_);(first | refine Ev.dr 9 [] [0,1,2,3,4,5,6,7,8,9,10,11,12,13,14] ?_);intro Q hQ;(simp only [Ev.ak,Ev.au]);conv=>whnf) | ((with_reducible refine Ev.dG ?_);(first | refine Ev.drv 14 [] [(0,false),(1,false),(2,false),(3,false),(4,false),(5,true),(6,false),(7,false),(8,false),(9,false),(10,false),(11,false),(12,false),(13,true),(14,false),(15,false),(16,false),(17,false)] ?_);intro Q hQ;(simp only [Ev.aX,Ev.aY,Ev.bG]);conv=>whnf) | ((with_reducible refine Ev.dG ?_);(first | refine Ev.H7 3 [] Es ?_);intro Q hQ;(simp only [Ev.gK,Ev.eP,Ev.eU,Ev.gQ]);conv=>whnf) | ((with_reducible refine Ev.both ?_ ?_) <;> (conv=>whnf)) | refine' Ev.zT | fail)
  case refine_2 =>
    rintro s1 ⟨v,w,k0,rfl,-⟩
    repeat' (first | refine' Ev.zP | refine' Ev.zS | refine' Ev.zK | ((with_reducible refine Ev.ca0 ?_);(first | refine Ev.ca (hM) ?_);conv=>whnf) | ((with_reducible refine Ev.dG ?_);(first | refine Ev.dr 9 [] [0,1,2,3,4,5,6,7,8,9,10,11,12,13,14] ?_);intro Q hQ;(simp only [Ev.ak,Ev.au]);conv=>whnf) | ((with_reducible refine Ev.dG ?_);(first | refine Ev.drv 14 [] [(0,false),(1,false),(2,false),(3,false),(4,false),(5,true),(6,false),(7,false),(8,false),(9,false),(10,false),(11,false),(12,false),(13,true),(14,false),(15,false),(16,false),(17,false)] ?_);intro Q hQ;(simp only [Ev.aX,Ev.aY,Ev.bG]);conv=>whnf) | ((with_reducible refine Ev.dG ?_);(first | refine Ev.H7 3 [] Es ?_);intro Q hQ;(simp only [Ev.gK,Ev.eP,Ev.eU,Ev.gQ]);conv=>whnf) | ((with_reducible refine Ev.both ?_ ?_) <;> (conv=>whnf)) | refine' Ev.zT | fail)
    have hcr:=hD.cl
    have hdr:=hD.rl
    have hds:=hD.sl
    have hic:=bP c.revs
    have hid:=bP d.revs
    have hb1:=hO.b
    have hb2:=hD.od.b
    have hr1:=hO.s.2.1
    have hr2:=hD.od.s.2.1
    refine Ev.loop (fun k1 s=>∃ (i c0:Nat),s = ⟨[(6,.v (.bool false)),(8,.ptr 1048 v 0 0),(9,.ptr 1648 w 0 0),(11,.v (.int .i64 i))],[(1048,⟨3,27,v,0,true,[[.v (.string c.base),.lst 1 (ints c.revs),.lst 1 (aC c.ah)]]⟩),(1648,⟨3,27,w,0,true,[[.v (.string d.base),.lst 1 (ints d.revs),.lst 1 (aC d.ah)]]⟩)],c0⟩ /\ k1 + i = d.revs.length) ?_ ?_
    · refine Ev.zB ⟨d.revs.length,0,?_,rfl,?_⟩
      omega
    rintro k1 s1 ⟨i,c0,rfl,hk1⟩
    by_cases hi:i < d.revs.length
    · have hii:(i:Int) < ((ints d.revs).length:Int):=by omega
      obtain ⟨q0,q1⟩:=hD.rev i hi
      have hFi:=RY c.revs hO.s.2.1 hD.pw q0
      rw [<- q1] at hFi
      have hle:=hD.le i (by omega)
      have hA1:=IZ hO.s hO.e (by omega) hle
      have hA2:=IZ hD.od.s hD.od.e (by omega) (show i <= d.ah.length by omega)
      rw [hD.at_ i (by omega)] at hA2
      unfold kT at hA1 hA2
      repeat' (first | (with_reducible first | refine Ev.aK hii ?_ | refine Ev.aV hii ?_ | refine Ev.aJ hii ?_ | refine Ev.aP hii ?_) | refine' Ev.zP | refine' Ev.zS | refine' Ev.zK | ((with_reducible refine Ev.ca0 ?_);(first | refine Ev.ca (hFi) ?_ | refine Ev.ca (hA1) ?_ | refine Ev.ca (hA2) ?_);conv=>whnf) | ((with_reducible refine Ev.dG ?_);(first | refine Ev.dr 9 [] [0,1,2,3,4,5,6,7,8,9,10,11,12,13,14] ?_);intro Q hQ;(simp only [Ev.ak,Ev.au]);conv=>whnf) | ((with_reducible refine Ev.dG ?_);(first | refine Ev.drv 14 [] [(0,false),(1,false),(2,false),(3,false),(4,false),(5,true),(6,false),(7,false),(8,false),(9,false),(10,false),(11,false),(12,false),(13,true),(14,false),(15,false),(16,false),(17,false)] ?_);intro Q hQ;(simp only [Ev.aX,Ev.aY,Ev.bG]);conv=>whnf) | ((with_reducible refine Ev.dG ?_);(first | refine Ev.H7 3 [] Es ?_);intro Q hQ;(simp only [Ev.gK,Ev.eP,Ev.eU,Ev.gQ]);conv=>whnf) | ((with_reducible refine Ev.both ?_ ?_) <;> (conv=>whnf)) | refine' Ev.zT | fail)
      · refine Ev.zA (k1 - 1) ⟨i + 1,?_,rfl,?_⟩
        omega
      · rename_i h;exact absurd rfl h
    · have hii:¬ (i:Int) < ((ints d.revs).length:Int):=by omega
      have hwd:IntKind.i64.wrap (((ints d.revs).length:Int) - 1) = ((d.revs.length - 1:Nat):Int):=by rw [aU (by have:=hD.od.s.2.1;omega)];omega
      have hwc:IntKind.i64.wrap (((ints c.revs).length:Int) - 1) = ((c.revs.length - 1:Nat):Int):=by rw [aU (by omega)];omega
      have anA:(IntKind.i64.wrap (((ints d.revs).length:Int) - 1)).toNat = d.revs.length - 1:=by rw [hwd];rfl
      have hwc':(IntKind.i64.wrap (((ints c.revs).length:Int) - 1)).toNat = c.revs.length - 1:=by rw [hwc];rfl
      repeat' (first | (with_reducible first | refine Ev.aK hii ?_ | refine Ev.aV hii ?_ | refine Ev.aJ hii ?_ | refine Ev.aP hii ?_) | refine' Ev.zP | refine' Ev.zS | refine' Ev.zK | ((with_reducible refine Ev.dG ?_);(first | refine Ev.dr 9 [] [0,1,2,3,4,5,6,7,8,9,10,11,12,13,14] ?_);intro Q hQ;(simp only [Ev.ak,Ev.au]);conv=>whnf) | ((with_reducible refine Ev.dG ?_);(first | refine Ev.drv 14 [] [(0,false),(1,false),(2,false),(3,false),(4,false),(5,true),(6,false),(7,false),(8,false),(9,false),(10,false),(11,false),(12,false),(13,true),(14,false),(15,false),(16,false),(17,false)] ?_);intro Q hQ;(simp only [Ev.aX,Ev.aY,Ev.bG]);conv=>whnf) | ((with_reducible refine Ev.dG ?_);(first | refine Ev.H7 3 [] Es ?_);intro Q hQ;(simp only [Ev.gK,Ev.eP,Ev.eU,Ev.gQ]);conv=>whnf) | ((with_reducible refine Ev.both ?_ ?_) <;> (conv=>whnf)) | refine' Ev.zT | fail)
      · refine ⟨Ev.jd (decide_eq_true (hD.ends anA hwc')),rfl⟩
      · refine Ev.Side.of ?_
        show (IntKind.i64.wrap (((ints c.revs).length:Int) - 1)).toNat < _
        omega
      · refine Ev.Side.of ?_
        show (IntKind.i64.wrap (((ints d.revs).length:Int) - 1)).toNat < _
        omega
  all_goals (refine Ev.zB ⟨?_,?_,?_,rfl,?_⟩;trivial)
def alL (l:List ByteArray):List (List AV):=l.map fun t=>[.v (.string t)]
@[simp] theorem alM (l:List ByteArray):(alL l).length = l.length:=by simp [alL]
theorem VA {t:ByteArray}:validD t.data.toList = false ↔ aN t.data.toList < 0:=by
 constructor
 · intro h;rw [oV h];decide
 · intro h
   cases hv:validD t.data.toList with
   | false=>rfl
   | true=>rw [bU hv] at h;omega
def afY (Ts:List ByteArray) (Ls:List (List Sp)) (r:Int):AV:=if 0 <= r /\ r <= Ls.length then .dB [.v (.string (Ts.getD r.toNat ⟨#[]⟩)),.v (.int .i64 0)] else .dB [.v (.string ⟨#[]⟩),.v (.int .i64 6)]
theorem getD_at {α:Type} {l:List α} {n:Nat} {d:α} (h:n < l.length):l.getD n d = l[n]:=by rw [List.getD_eq_getElem?_getD,List.getElem?_eq_getElem h];rfl
section
variable {nm ct:Nat} {hp:List (Nat × aG)} {K:AV -> List (Nat × aG) -> Nat -> Prop} (B T L:Nat) (F:List (Nat × aG)) {vb vt ft vl fl:Nat} {Ts:List ByteArray} {Ls:List (List Sp)}
end
end Go.Proofs.YtadlnaljicikfaaDoor.aB
namespace Go.Proofs.YtadlnaljicikfaaDoor.aB
open Go Go.Lib
namespace Ev
end Ev
structure PI (s:ByteArray) (Ls:List (List Sp)) (Ns:List Int) (Ts:List ByteArray):Prop where
 ts:Ts.length = Ls.length + 1
 nt:Ns = Ts.map AU
 all:∀ i ≤ Ls.length,jK (Ls.take i) s = (0,Ts.getD i ⟨#[]⟩)
 val:∀ t ∈ Ts,validD t.data.toList = true /\ AU t <= 1048576
 sz:∀ t ∈ Ts,t.size <= 4000 + 1200 * Ls.length
 each:∀ x ∈ Ls,x.length <= 20 /\ dw x <= 1200
 may:∀ x ∈ Ls,aH x = 0 -> bC dK x <= 1048576
 n:Ls.length <= 12
 seg:dA (AU s) Ls = 0
 szs:Ns = Az (AU s) Ls
theorem Y7 {w:List Sp} {n:Int} (h:NP w n = 0):aH w = 0 /\ jV w = n /\ outW w <= 1048576:=by
 unfold NP at h
 have m0:aH w = 0:=Decidable.byContradiction fun h0=>by rw [if_pos h0] at h;exact h0 h
 rw [if_neg (by simpa using m0)] at h
 have m1:jV w = n:=Decidable.byContradiction fun h0=>by rw [if_pos h0] at h;cases h
 rw [if_neg (by simpa using m1)] at h
 exact ⟨m0,m1,Decidable.byContradiction fun h0=>by rw [if_pos (by omega)] at h;cases h⟩
theorem PI.first {s:ByteArray} (h:newE s = 0) (hs:s.size <= 4000):PI s [] [AU s] [s]:=by
 unfold newE at h
 have h0:¬ AU s < 0:=fun h0=>by rw [if_pos h0] at h;cases h
 have h1:¬ 1048576 < AU s:=fun h1=>by rw [if_neg h0,if_pos h1] at h;cases h
 have hv:validD s.data.toList = true:=by
   cases hv:validD s.data.toList with
   | true=>rfl
   | false=>exact absurd (VA.1 hv) h0
 refine ⟨rfl,rfl,fun i hi=>?_,fun t ht=>?_,fun t ht=>?_,fun x hx=>by simp at hx,fun x hx=>by simp at hx,by simp,rfl,rfl⟩
 · obtain rfl:i = 0:=by simpa using hi
   rfl
 · simp at ht;subst ht;exact ⟨hv,by omega⟩
 · simp at ht;subst ht;simp;omega
theorem PI.last {s:ByteArray} {Ls:List (List Sp)} {Ns:List Int} {Ts:List ByteArray} (h:PI s Ls Ns Ts):∃ u,(∀ hl:Ls.length < Ts.length,Ts[Ls.length] = u) /\ u ∈ Ts /\ (∀ hn:Ns ≠ [],Ns.getLast hn = AU u) /\ jK Ls s = (0,u):=by
 have ht:=h.ts
 have hlt:Ls.length < Ts.length:=by omega
 refine ⟨Ts[Ls.length],fun _=>rfl,List.getElem_mem hlt,fun hn=>?_,?_⟩
 · have e:=h.nt
   subst e
   rw [List.getLast_eq_getElem]
   simp only [List.length_map,List.getElem_map]
   congr 2;omega
 · have:=h.all _ (Nat.le_refl _)
   rw [List.take_length,getD_at hlt] at this
   exact this
theorem Y8 {w:List Sp} {u:ByteArray} (h:mP w u = 0) (hl:w.length <= 1000000000):mP (norm w) u = 0 /\ rM (norm w) u = rM w u:=by
 obtain ⟨h1,h2,h3⟩:=o9 h
 obtain ⟨o,e⟩:=qM.of h1 hl
 obtain ⟨n1,n2,n3,n4,n5,n6,n7,n8⟩:=o.norm
 obtain ⟨m1,m2⟩:=n1.may (by omega)
 have g:mP (norm w) u = 0:=yL m1 h2 (by omega)
 refine ⟨g,?_⟩
 have e1:rM (norm w) u = txt (fQ (norm w) (pts u.data.toList)):=if_pos g
 have e2:rM w u = txt (fQ w (pts u.data.toList)):=if_pos h
 rw [e1,e2,AX g (by omega),AX h hl,n3]
theorem PI.next {s:ByteArray} {Ls:List (List Sp)} {Ns:List Int} {Ts:List ByteArray} (h:PI s Ls Ns Ts) {w:List Sp} {u:ByteArray} (hu:∀ hl:Ls.length < Ts.length,Ts[Ls.length] = u) (hw:w.length <= 20 /\ dw w <= 1200) (he:NP w (AU u) = 0) (hn:Ls.length < 12) :
   PI s (Ls ++ [norm w]) (Ns ++ [outW w]) (Ts ++ [rM w u]):=by
 have ht:=h.ts
 have hlt:Ls.length < Ts.length:=by omega
 have hum:u ∈ Ts:=by rw [<- hu hlt];exact List.getElem_mem hlt
 obtain ⟨m0,m1,m2⟩:=Y7 he
 obtain ⟨v1,v2⟩:=h.val u hum
 have us:=h.sz u hum
 have hz:mP w u = 0:=yL m0 v1 (by rw [m1];exact bU v1)
 obtain ⟨t1,t2,t3,t4⟩:=CB hz (by omega) (by omega)
 obtain ⟨n1,n2⟩:=Y8 hz (by omega)
 obtain ⟨o,e⟩:=qM.of m0 (by omega)
 obtain ⟨o1,o2,o3,o4,o5,o6,o7,o8⟩:=o.norm
 have hc:AU (rM w u) = outW w:=by show aN _ = _;rw [bU t1,t3]
 have hon:=yR m0 (by omega) (by omega)
 obtain ⟨p1,p2⟩:=o1.may (by omega)
 have aqG:=yR p1 (by omega) (by omega)
 have wo:outW (norm w) = outW w:=by omega
 have hne:Ns ≠ []:=by rw [h.szs];exact YN _ _
 have hend:dY (AU s) Ls = AU u:=by
   obtain ⟨u',a1,a2,a3,a4⟩:=h.last
   have e0:u = u':=(hu hlt).symm.trans (a1 hlt)
   have e1:=a3 hne
   have e2:=h.szs
   subst e2
   rw [NQ] at e1
   rw [e1,e0]
 refine ⟨by simp [ht],by rw [List.map_append,h.nt,List.map_singleton,hc],fun i hi=>?_,fun t hx=>?_,fun t hx=>?_,fun x hx=>?_,fun x hx hm=>?_,by simp;omega,?_,by rw [RV,<- h.szs,wo]⟩
 · rcases Nat.lt_or_ge i (Ls.length + 1) with h1 | h1
   · have hi2:i < Ts.length:=by omega
     have e1:(Ts ++ [rM w u]).getD i ⟨#[]⟩ = Ts.getD i ⟨#[]⟩:=by
       rw [getD_at (by simp;omega),getD_at hi2,List.getElem_append_left hi2]
     rw [List.take_append_of_le_length (by omega),e1]
     exact h.all i (by omega)
   · obtain rfl:i = Ls.length + 1:=by simp at hi;omega
     have hg:(Ts ++ [rM w u]).getD (Ls.length + 1) ⟨#[]⟩ = rM w u:=by
       rw [getD_at (by simp;omega),List.getElem_append_right (by omega)];simp [ht]
     rw [hg,List.take_of_length_le (by simp)]
     have hl:=h.all _ (Nat.le_refl _)
     rw [List.take_length,getD_at hlt,hu hlt] at hl
     rw [vV _ _ _ (by rw [hl]),hl]
     simp only [jK]
     rw [if_pos n1,n2]
 · rcases List.mem_append.1 hx with hx | hx
   · exact h.val t hx
   · simp at hx;subst hx;exact ⟨t1,by omega⟩
 · rw [List.length_append,List.length_singleton,Nat.mul_succ]
   rcases List.mem_append.1 hx with hx | hx
   · have:=h.sz t hx;omega
   · simp at hx;subst hx;omega
 · rcases List.mem_append.1 hx with hx | hx
   · exact h.each x hx
   · simp at hx;subst hx;omega
 · rcases List.mem_append.1 hx with hx | hx
   · exact h.may x hx hm
   · simp at hx;subst hx;omega
 · rw [rG,if_pos h.seg,hend]
   simp only [dA]
   rw [if_pos (Rx p1 (by omega) (by omega) o2)]
theorem PI.at {s:ByteArray} {Ls:List (List Sp)} {Ns:List Int} {Ts:List ByteArray} (h:PI s Ls Ns Ts) (hv:validD s.data.toList = true) (r:Int):∃ x e,aeS s Ls r = .dB [.v (.string x),.v (.int .i64 e)] /\ afY Ts Ls r = .dB [.v (.string x),.v (.int .i64 e)]:=by
 unfold aeS afY
 by_cases hr:0 <= r /\ r <= Ls.length
 · rw [if_pos hr,if_pos hr]
   have:=h.all r.toNat (by omega)
   refine ⟨Ts.getD r.toNat ⟨#[]⟩,0,?_,rfl⟩
   unfold allA Na
   rw [if_neg (by rw [hv];simp),this]
 · rw [if_neg hr,if_neg hr]
   exact ⟨_,_,rfl,rfl⟩
theorem PI.lens {s:ByteArray} {Ls:List (List Sp)} {Ns:List Int} {Ts:List ByteArray} (h:PI s Ls Ns Ts):gI Ls <= 240 /\ gZ Ls <= 14400:=by
 have h1:=Eo (k:=20) Ls (fun x hx=>(h.each x hx).1)
 have h2:∀ (l:List (List Sp)),(∀ x ∈ l,dw x <= 1200) -> gZ l <= 1200 * l.length:=by
   intro l
   induction l with
   | nil=>intro _;exact Nat.zero_le _
   | cons x l ih =>
     intro hl
     rw [(dL x l).2,List.length_cons,Nat.mul_succ]
     have:=ih (fun y hy=>hl y (by simp [hy]))
     have:=hl x (by simp)
     omega
 have h3:=h2 Ls (fun x hx=>(h.each x hx).2)
 have:=h.n
 omega
def SX (x:AV):Prop:=(∃ y:List Sp,x = .lst 3 (bD y) /\ y.length <= 1000000000) ∨ x = nilA
end Go.Proofs.YtadlnaljicikfaaDoor.aB
namespace Go.Proofs.YtadlnaljicikfaaDoor.aB
open Go
set_option maxRecDepth 100000
attribute [local irreducible] Ev.iE Ev.iG Ev.bW Ev.runK Ev.bY Ev.gq Ev.Side Ev.Wp Ev.Again Ev.To Ev.Fin
open Go.Lib Go.RowKit
theorem SX.le {x:AV} (h:SX x):∃ y:List Sp,je x (.lst 3 (bD y)) /\ SX (.lst 3 (bD y)):=by
 rcases h with ⟨y,rfl,hy⟩ | rfl
 · exact ⟨y,je.refl _,.inl ⟨y,rfl,hy⟩⟩
 · exact ⟨[],je.nil 3,.inl ⟨[],rfl,by simp⟩⟩
theorem anB {r n:Int} (hn:0 < n /\ n <= 1000):∃ k:Nat,(IntKind.i64.wrap (r.tmod n + n)).tmod n = (k:Int) /\ (k:Int) < n:=by
 have h1:=Int.tmod_lt_of_pos r hn.1
 have h2 : -n < r.tmod n:=by
   have h3:=Int.tmod_eq_emod (a:=r) (b:=n)
   have h4:=Int.emod_nonneg r (show n ≠ 0 by omega)
   have h5:=Int.emod_lt_of_pos r hn.1
   split at h3 <;> omega
 have h6:IntKind.i64.wrap (r.tmod n + n) = r.tmod n + n:=aU (by omega)
 have h7:=Int.tmod_lt_of_pos (IntKind.i64.wrap (r.tmod n + n)) hn.1
 have h8:0 <= (IntKind.i64.wrap (r.tmod n + n)).tmod n:=Int.tmod_nonneg _ (by omega)
 exact ⟨((IntKind.i64.wrap (r.tmod n + n)).tmod n).toNat,by omega,by omega⟩
def Si:Ev.Pl:=(.one 0 false (.one 1 false (.one 2 false (.one 3 false (.one 4 false (.one 5 false (.one 6 true (.one 7 true (.one 8 false (.one 9 false (.two 10 (.one 11 false (.one 12 false (.one 13 false (.one 14 false (.one 15 false (.one 16 false .fin)))))) 14 (.one 10 false (.one 11 false (.one 12 false (.one 13 false (.one 15 false (.one 16 false .fin)))))))))))))))))
theorem aj1:∀ c,Tryd.f20.body = some c -> comp c = (.seq (.reg 0 [I.n 0 5 (.box 89 (.tmp 2)),I.n 1 6 (I.sb false)]) (.seq (.reg 1 [I.n 0 23 (I.c0 58),I.n 1 7 (I.sa 23)]) (.seq (.reg 2 [I.n 0 24 (I.mv 0),I.n 1 25 (I.mv 1),I.n 2 26 (I.c2 23 24 25 9 22),I.n 3 8 (.alloc 27),I.u 4 (I.st 27 8 26)]) (.seq (.draw 3 [I.n 0 28 (I.ld 27 8),I.n 1 29 (I.fa 89 5 0),I.n 2 30 (I.ld 25 29),I.n 3 31 (I.fa 89 5 0),I.n 4 32 (I.ld 25 31),I.n 5 33 (I.ln 32 25),I.n 6 34 (.call { callee:=.builtin .min,args:=#[.tmp 33,.const (Value.int .i64 30)],argTypes:=#[3,3] }),I.n 7 35 (.slice 25 (.tmp 30) none (some (.tmp 34)) none),I.n 8 36 (I.fa 89 5 1),I.n 9 37 (I.ld 3 36),I.n 10 38 (.call { callee:=.value (.func 60),args:=#[.tmp 28,.tmp 35,.tmp 37],argTypes:=#[27,25,3] }),I.n 11 27 (I.mv 38),I.n 12 39 (I.ex 27 0),I.n 13 40 (I.ex 27 1),I.n 14 9 (.alloc 27),I.u 15 (I.st 27 9 39),I.n 16 10 (I.sa 40)] [[],[],[1],[],[3],[4],[5],[2,6],[],[8],[0,7,9],[10],[11],[11],[],[14,12,10,0,1,2,3,4,5,6,7,8,9,10,11,12,14],[13,15,0,1,2,3,4,5,6,7,8,9,10,11,12,13,14,15]]) (.seq (.reg 4 [I.n 0 42 (I.ld 27 9),I.n 1 43 (I.c1 67 42 27),I.n 2 41 (I.mv 43),I.n 3 44 (I.ex 41 0),I.n 4 45 (I.ex 41 1),I.n 5 11 (I.sa 44),I.n 6 12 (I.sa 45)]) (.seq (.seq (.reg 5 [I.n 0 46 (I.mv 7),I.n 1 47 (.unOp .not 4 (.tmp 46)),I.n 2 48 (I.mv 47),I.w 3 49 (I.mv 10) 48 false,I.w 4 50 (I.bc .neq 30 49 0 30) 48 false,I.n 5 51 (I.pb 48 true 50),I.n 6 52 (I.mv 51),I.w 7 53 (I.mv 12) 52 false,I.w 8 54 (I.bc .neq 30 53 0 30) 52 false,I.n 9 55 (I.pb 52 true 54),I.n 10 56 (I.mv 55),I.w 11 57 (I.mv 11) 56 false,I.w 12 58 (I.ln 57 25) 56 false,I.w 13 59 (I.bc .eql 3 58 0 3) 56 false,I.n 14 60 (I.pb 56 true 59),I.n 15 61 (I.mv 60),I.w 16 62 (I.fa 27 9 1) 61 false,I.w 17 63 (I.ld 25 62) 61 false,I.w 18 64 (I.ln 63 25) 61 false,I.w 19 65 (I.mv 11) 61 false,I.w 20 66 (I.ln 65 25) 61 false,I.w 21 67 (I.bo .neq 3 64 66 3) 61 false,I.n 22 68 (I.pb 61 true 67)]) (.cond (.tmp 68) (.seq (.reg 6 [I.n 0 6 (I.sb false)]) .ret) .skip)) (.seq (.reg 7 [I.n 0 69 (I.mv 11),I.n 1 70 (I.ln 69 25),I.n 2 13 (I.sa 70)]) (.seq (.reg 8 [I.n 0 71 (I.fa 89 5 2),I.n 1 72 (I.ld 3 71),I.n 2 73 (I.mv 13),I.n 3 74 (I.bo .rem 3 72 73 3),I.n 4 75 (I.mv 13),I.n 5 76 (I.bo .add 3 74 75 3),I.n 6 77 (I.mv 13),I.n 7 78 (I.bo .rem 3 76 77 3),I.n 8 14 (I.sa 78)]) (.seq (.draw 9 [I.n 0 79 (I.fa 89 5 3),I.n 1 80 (I.ld 23 79),I.n 2 81 (I.mv 11),I.n 3 82 (I.mv 14),I.n 4 83 (I.ia 25 81 82),I.n 5 84 (I.ld 3 83),I.n 6 85 (I.c2 31 80 84 23 3),I.n 7 15 (I.sa 85)] [[],[0],[],[],[2,3],[4],[1,5],[6,6,0,1,2,3,4,5,6]]) (.seq (.draw 10 [I.n 0 87 (I.fa 27 8 1),I.n 1 88 (I.ld 25 87),I.n 2 89 (I.fa 27 9 1),I.n 3 90 (I.ld 25 89),I.n 4 91 (I.mv 14),I.n 5 92 (I.ia 25 90 91),I.n 6 93 (I.ld 3 92),I.n 7 94 (I.c2 64 88 93 25 3),I.n 8 86 (I.mv 94),I.n 9 95 (I.ex 86 0),I.n 10 96 (I.ex 86 1),I.n 11 97 (I.ex 86 2),I.n 12 16 (I.sa 95),I.n 13 17 (I.sa 96),I.n 14 18 (I.sa 97)] [[],[0],[],[2],[],[3,4],[5],[1,6],[7],[8],[8],[8],[9,7,0,1,2,3,4,5,6,7,8,9],[10,12,0,1,2,3,4,5,6,7,8,9,10,12],[11,13,0,1,2,3,4,5,6,7,8,9,10,11,12,13]]) (.seq (.seq (.reg 11 [I.n 0 98 (I.mv 18),I.n 1 99 (I.bc .neq 30 98 0 30)]) (.cond (.tmp 99) (.seq (.reg 12 [I.n 0 6 (I.sb false)]) .ret) .skip)) (.seq (.reg 13 [I.n 0 101 (I.mv 15),I.n 1 102 (I.fa 27 8 2),I.n 2 103 (I.ld 22 102),I.n 3 104 (I.mv 16),I.n 4 105 (.slice 22 (.tmp 103) (some (.tmp 104)) none none),I.n 5 106 (I.c2 68 101 105 23 22),I.n 6 100 (I.mv 106),I.n 7 107 (I.ex 100 0),I.n 8 108 (I.ex 100 1),I.n 9 19 (I.sa 107),I.n 10 20 (I.sa 108)]) (.seq (.reg 14 [I.n 0 110 (I.mv 15),I.n 1 111 (I.fa 27 9 2),I.n 2 112 (I.ld 22 111),I.n 3 113 (I.mv 14),I.n 4 114 (.slice 22 (.tmp 112) (some (.tmp 113)) none none),I.n 5 115 (I.c2 68 110 114 23 22),I.n 6 109 (I.mv 115),I.n 7 116 (I.ex 109 0),I.n 8 117 (I.ex 109 1),I.n 9 21 (I.sa 116),I.n 10 22 (I.sa 117)]) (.seq (.reg 15 [I.n 0 118 (I.mv 20),I.n 1 119 (I.bc .eql 30 118 0 30),I.n 2 120 (I.mv 119),I.w 3 121 (I.mv 22) 120 true,I.w 4 122 (I.bc .eql 30 121 0 30) 120 true,I.n 5 123 (I.pc 120 122 false),I.n 6 124 (I.mv 123),I.w 7 125 (I.mv 19) 124 true,I.w 8 126 (I.mv 21) 124 true,I.w 9 127 (I.c2 34 125 126 23 23) 124 true,I.n 10 128 (I.pc 124 127 false),I.n 11 6 (I.sa 128)]) .ret)))))))))))))):=by
 intro c h
 have:c = Tryd.f20.body.get rfl:=by rw [<- Option.some_inj,<- h];rfl
 rw [this];rfl
def ovF:List Mk -> List (List Sp) -> List Mk
 | m,[]=>m
 | m,s :: L=>ovF (fP (dO s) m) L
theorem KH:∀ (L:List (List Sp)) (k:Nat) (m:List Mk),Bl k L -> bV m = k -> ovF m L = fP (foldM (dQ k) L) m
 | [],k,m,_,h=>by subst h;exact (Vh m).symm
 | s :: L,k,m,hc,h=>by
   obtain ⟨h1,h2,h3,h4⟩:=hc
   have e1:dD (dO s) (dQ k) = dO s:=by rw [<- h2];exact lY _
   have hsz:=lX (fun _=>0) (dO s) m (by omega)
   show ovF (fP (dO s) m) L = fP (foldM (dD (dO s) (dQ k)) L) m
   rw [e1,KH L (bg (dO s)) (fP (dO s) m) h4 (by omega),xC L (dO s) h4]
   have hz:=uH L (dQ (bg (dO s))) (by rw [kQ];exact h4)
   rw [mQ _ _ _ (by rw [hz.1,rV]) (by omega)]
theorem KI:∀ (L:List (List Sp)) (x:List Sp),IU x -> Bl (bV (dO x)) L -> IU (sH x L) /\ dO (sH x L) = ovF (dO x) L
 | [],x,h,_=>⟨h,rfl⟩
 | s :: L,x,h,hc=>by
   obtain ⟨h1,h2,h3,h4⟩:=hc
   have hx:=bI h.ops.all
   have hs:=bI h1.ops.all
   obtain ⟨o1,o2,o3,-⟩:=FZ h.ops h1.ops (by omega) (by omega)
   have ho:=bI o1.ops.all
   have e:bV (dO (qN x s)) = bg (dO s):=by omega
   obtain ⟨i1,i2⟩:=KI L (qN x s) o1 (by rw [e];exact h4)
   exact ⟨i1,by rw [show sH x (s :: L) = sH (qN x s) L from rfl,i2,o2];rfl⟩
theorem N9 (n:Nat) (S:List (List Sp)) (a:Nat):runM n S a S.length = foldM (dQ (iQ n (S.take a))) (S.drop a):=by
 unfold runM;rw [List.take_of_length_le (l:=S.drop a) (by rw [List.length_drop];exact Nat.le_refl _)]
theorem Y9 {c:Lg} {set:List Int} {f:Int} (h:xJ c) {l:List Nat} {a:Nat} (hK:KL c.ah.length a l) (hl:(a :: l).getD l.length 0 = c.ah.length) {i:Nat} (hi:i <= l.length) {x:List Sp} (hx:IU x) (hn:bV (dO x) = iQ (qO c) (c.ah.take ((a :: l).getD i 0))) :
   sH x (c.ah.drop ((a :: l).getD i 0)) = sH x ((lu c (a :: l)).ah.drop i):=by
 obtain ⟨d1,d2⟩:=Ep h hK
 have hle:=(hK.at hi).1
 have g1:=(h.Zi.1.split ((a :: l).getD i 0)).2
 have g2:=(d1.Zi.1.split i).2
 have e2:=(vZ h l a hK).2 i hi
 have e2':iQ (qO (lu c (a :: l))) ((lu c (a :: l)).ah.take i) = iQ (qO c) (c.ah.take ((a :: l).getD i 0)):=by rw [d2];exact e2
 rw [<- hn] at g1
 rw [e2',<- hn] at g2
 obtain ⟨o1,o2⟩:=KI _ x hx g1
 obtain ⟨p1,p2⟩:=KI _ x hx g2
 refine IU.inj o1 p1 ?_
 rw [o2,p2,KH _ _ _ g1 rfl,KH _ _ _ g2 rfl]
 have r:=(Gl h hK l.length hi (Nat.le_refl _)).1
 rw [hl] at r
 have hsl:(eH c (a :: l)).length = l.length:=iC c a l
 have r1:=N9 (qO c) c.ah ((a :: l).getD i 0)
 have r2:=N9 (iQ (qO c) (c.ah.take a)) (eH c (a :: l)) i
 rw [hsl] at r2
 rw [hn,<- r1,<- r,r2,e2];rfl
theorem Sj {c:Lg} (h:xJ c) {i:Nat} (hi:i <= c.ah.length) (A:List Sp) {n:Int} (hn:n = dY (aN c.base.data.toList) (c.ah.take i)) :
   aA env 68 [.lst 3 (bD (iY A n)),.lst 1 (aC (c.ah.drop i))] (fun r hs=>r = .dB [.lst 3 (bD (sH (norm (iY A n)) (c.ah.drop i))),.v (.int .i64 0)] /\ hs = []) /\
   (sH (norm (iY A n)) (c.ah.drop i)).length <= 10000000 /\ IU (norm (iY A n)) /\ bV (dO (norm (iY A n))) = iQ (qO c) (c.ah.take i):=by
 obtain ⟨z1,z2,z3,z4,z5⟩:=dJ h.e
 have hen:=qC h i
 rw [<- hn] at hen
 have hl:=h.l
 have hb:=h.b
 have htt:gZ c.ah = gV c.ah:=rfl
 obtain ⟨t1,t2⟩:=yT c.ah i
 have hfl:=wW A hen
 have hfm:=Fq A hen
 have hfi:=JJ A hen
 have hout:∀ s ∈ c.ah.drop i,aH s = 0 -> bC dK s <= 1048576:=fun s hs h0=>by
   obtain ⟨m,hm⟩:=Ja z5 (List.mem_of_mem_drop hs)
   obtain ⟨a,b,c',d,e⟩:=xw hm
   have he:=h.each s (List.mem_of_mem_drop hs)
   have:=(yR a (by omega) (by omega)).2
   omega
 have htm:Zg (iY A n) (c.ah.drop i) = 0:=by
   unfold Zg
   rw [if_pos hfm,hfi,hn]
   exact Jb _ _ (gX z5 i).2
 have hT:=YM (iY A n) (c.ah.drop i) (by omega) (by omega) (fun x hx=>by have:=h.each x (List.mem_of_mem_drop hx);omega) (by have:=sN z3;rw [List.length_drop];omega) hout
 unfold ajL at hT
 rw [htm,if_pos rfl] at hT
 obtain ⟨o1,o2⟩:=qM.of hfm (by omega)
 obtain ⟨n1,n2,n3,n4,-⟩:=o1.norm
 have hz:=bI n1.all
 have hc:=h.Zi.2 i
 refine ⟨hT,?_,⟨n1,n2⟩,by omega⟩
 have hTL:=TI.first htm (by omega) (by omega)
 have:=YO htm (by omega) (by omega) hout
 omega
set_option maxHeartbeats 2000000 in
theorem C9 (t:ByteArray) (l:List (List Sp)) (S:List Int) (F A0:Int) (A:List Sp):aA env 20 [.v (.string t),.lst 1 (aC l),.agg [.lst 1 (ints S),.v (.int .i64 F),.v (.int .i64 A0),.lst 3 (bD A)]] (fun r hs=>r = .v (.bool true) /\ hs = []):=by
  have hS:=jL
  have hF:=pq t l
  obtain ⟨hO,h20⟩:=Ba t l
  generalize jX t l = c at hF hO h20
  obtain ⟨K,e,hK,hD⟩:=Gp hO (S.take 30) F
  have hC:=jZ c (S.take 30) F hO (by rw [List.length_take];omega)
  have hC:aA env 60 [kT c,.lst 1 (ints (S.take 30)),.v (.int .i64 F)] (fun r hs=>r = .dB [kT (lu c (fD c (S.take 30) F)),.v (.int .i64 0)] /\ hs = []):=hC
  have Za:=fun (i:Nat) (x:List Sp)=>@Y9 c (S.take 30) F hO K (dh c.revs F) hK (by have:=hD.last;rw [e] at this;exact this) i
  rw [<- e] at Za
  generalize hk:(fun i=>(fD c (S.take 30) F).getD i 0) = k at hD
  have Zb:∀ (i:Nat) (x:List Sp),i <= K.length -> IU x -> bV (dO x) = iQ (qO c) (c.ah.take (k i)) -> sH x (c.ah.drop (k i)) = sH x ((lu c (fD c (S.take 30) F)).ah.drop i):=fun i x h1 h2 h3=>by
    subst hk;exact Za i x h1 h2 h3
  clear Za hk
  generalize lu c (fD c (S.take 30) F) = d at hC hD Zb
  have hZ:=vS d hD.od.s
  rw [hD.od.e] at hZ
  rw [<- YZ S] at hC
  unfold kT at *
  refine Ev.fn [0,1,2,5,6,7,8,9,10,11,12,13,14,15,16,18,19,20,21,22,68,99] 0 [.tmp 6] Tryd.func20 (aj1 _ rfl) ?_
  repeat' (first | refine' Ev.zP | (with_reducible refine Ev.join (a:=.draw 3 _ _) (fun s=>∃ v w k,s = ⟨[(5,.ptr 0 0 0 0),(6,.v (.bool false)),(7,.v (.bool true)),(8,.ptr 1048 v 0 0),(9,.ptr 1648 w 0 0),(10,.v (.int .i64 0))],[(0,⟨4,89,0,0,true,[[.lst 1 (ints S),.v (.int .i64 F),.v (.int .i64 A0),.lst 3 (bD A)]]⟩),(1048,⟨3,27,v,0,true,[[.v (.string c.base),.lst 1 (ints c.revs),.lst 1 (aC c.ah)]]⟩),(1648,⟨3,27,w,0,true,[[.v (.string d.base),.lst 1 (ints d.revs),.lst 1 (aC d.ah)]]⟩)],k⟩ /\ True) ?_ ?_) | refine' Ev.zS | refine' Ev.zK | ((with_reducible refine Ev.ca0 ?_);(first | refine Ev.ca (hS) ?_ | refine Ev.ca (hF) ?_ | refine Ev.ca (hC) ?_);conv=>whnf) | ((with_reducible refine Ev.dG ?_);(first | refine Ev.dr 9 [] [0,1,2,3,4,5,6,7] ?_ | refine Ev.dr 10 [] [0,1,2,3,4,5,6,7,8,9,10,11,12,13,14] ?_);intro Q hQ;(simp only [Ev.ak,Ev.au]);conv=>whnf) | ((with_reducible refine Ev.dG ?_);(first | refine Ev.H7 3 [] Si ?_);intro Q hQ;(simp only [Ev.gK,Ev.eP,Ev.eU,Ev.gQ]);conv=>whnf) | ((with_reducible refine Ev.both ?_ ?_) <;> (conv=>whnf)) | refine' Ev.zT | fail)
  case refine_2 =>
    rintro s1 ⟨v,w,k0,rfl,-⟩
    have hsz:(jW d).length = d.ah.length + 1:=by unfold jW;rw [if_pos hD.od.e,qx]
    have hsz':(ints (jW d)).length = d.ah.length + 1:=by rw [bP];exact hsz
    have hcr:=hD.cl
    have hdr:=hD.rl
    have hds:=hD.sl
    have hid:=bP d.revs
    have f1:¬ ((ints (jW d)).length:Int) = 0:=by omega
    have f2:((ints d.revs).length:Int) = ((ints (jW d)).length:Int):=by omega
    obtain ⟨r,hr,hrn⟩:=anB (r:=A0) (n:=((ints (jW d)).length:Int)) (by have:=hD.ml;omega)
    have hrl:r < (jW d).length:=by omega
    have hen:=qC hD.od r
    have alN:(jW d)[r] = dY (aN d.base.data.toList) (d.ah.take r):=by
      have h1:(jW d).getD r 0 = (jW d)[r]:=gD hrl
      rw [<- h1];unfold jW;rw [if_pos hD.od.e,uF _ _ _ (by omega)]
    have anD:=Cb A (jW d)[r] (by omega)
    have hri:r < d.revs.length:=by omega
    obtain ⟨q0,q1⟩:=hD.rev r hri
    have hFi:=RY c.revs hO.s.2.1 hD.pw q0
    rw [<- q1] at hFi
    have hle:=hD.le r (by omega)
    have alO:List.take ((aC c.ah).length - ((k r:Nat):Int).toNat) (List.drop ((k r:Nat):Int).toNat (aC c.ah)) = aC (c.ah.drop (k r)):=by
      rw [Int.toNat_natCast,sJ,aW,List.take_of_length_le (by rw [List.length_drop];exact Nat.le_refl _)]
    have alP:List.take ((aC d.ah).length - (r:Int).toNat) (List.drop (r:Int).toNat (aC d.ah)) = aC (d.ah.drop r):=by
      rw [Int.toNat_natCast,sJ,aW,List.take_of_length_le (by rw [List.length_drop];exact Nat.le_refl _)]
    obtain ⟨w1,w2⟩:=Sj hO hle A (n:=(jW d)[r]) (by
      rw [alN]
      have h1:=(kC hD.od.e (fun x hx=>(hD.od.s.2.2.2 x hx).1) (by have:=hD.od.b;omega) r).2.2.1
      rw [<- h1,hD.at_ r (by omega)]
      exact (kC hO.e (fun x hx=>(hO.s.2.2.2 x hx).1) (by have:=hO.b;omega) (k r)).2.2.1)
    obtain ⟨x1,x2⟩:=Sj hD.od (show r <= d.ah.length by omega) A (n:=(jW d)[r]) alN
    have hEq:=Zb r (norm (iY A (jW d)[r])) (by omega) w2.2.1 w2.2.2
    rw [<- alO] at w1
    rw [<- alP,<- hEq] at x1
    have RZ:=wO (sH (norm (iY A (jW d)[r])) (c.ah.drop (k r))) (sH (norm (iY A (jW d)[r])) (c.ah.drop (k r))) (by have:=w2.1;omega)
    repeat' (first | (with_reducible first | refine Ev.aK f1 ?_ | refine Ev.aV f1 ?_ | refine Ev.aJ f1 ?_ | refine Ev.aP f1 ?_) | (with_reducible first | refine Ev.aK f2 ?_ | refine Ev.aV f2 ?_ | refine Ev.aJ f2 ?_ | refine Ev.aP f2 ?_) | (conv in (Int.tmod (IntKind.i64.wrap _) _)=>rw [hr]) | refine' Ev.zP | refine' Ev.zS | refine' Ev.zK | ((with_reducible refine Ev.ca0 ?_);(first | refine Ev.ca (hZ) ?_ | refine Ev.ca (anD) ?_ | refine Ev.ca (hFi) ?_ | refine Ev.ca (w1) ?_ | refine Ev.ca (x1) ?_ | refine Ev.ca (RZ) ?_);conv=>whnf) | ((with_reducible refine Ev.dG ?_);(first | refine Ev.dr 9 [] [0,1,2,3,4,5,6,7] ?_ | refine Ev.dr 10 [] [0,1,2,3,4,5,6,7,8,9,10,11,12,13,14] ?_);intro Q hQ;(simp only [Ev.ak,Ev.au]);conv=>whnf) | ((with_reducible refine Ev.dG ?_);(first | refine Ev.H7 3 [] Si ?_);intro Q hQ;(simp only [Ev.gK,Ev.eP,Ev.eU,Ev.gQ]);conv=>whnf) | ((with_reducible refine Ev.both ?_ ?_) <;> (conv=>whnf)) | refine' Ev.zT | fail)
    all_goals exact ⟨Ev.jd (decide_eq_true rfl),rfl⟩
  all_goals (refine Ev.zB ⟨?_,?_,?_,rfl,?_⟩;trivial)
end Go.Proofs.YtadlnaljicikfaaDoor.aB
