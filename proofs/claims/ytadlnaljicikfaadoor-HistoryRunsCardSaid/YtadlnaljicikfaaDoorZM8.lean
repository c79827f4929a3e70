/- A part of the proof: a calculus over values, and contracts of functions. No condition. -/
import Derived.Test.YtadlnaljicikfaaDoorZM7
set_option linter.unusedVariables false
set_option linter.unusedSimpArgs false
namespace Go.Proofs.YtadlnaljicikfaaDoor.aB
open Go Go.Lib
def lq (s:Sp):List Mk:=if s.k = 2 then (pts s.t.data.toList).map Mk.put else if s.k = 1 then List.replicate s.n.toNat Mk.keep else List.replicate s.n.toNat Mk.drop
def gK (l:List Sp):List Mk:=l.flatMap lq
theorem fE:gK [] = []:=rfl
theorem aC (s:Sp) (l:List Sp):gK (s :: l) = lq s ++ gK l:=rfl
abbrev aQ (l:List Sp):Prop:=∀ s ∈ l,aZ s
theorem aQ.tail {s:Sp} {l:List Sp} (h:aQ (s :: l)):aQ l:=fun x hx=>h x (by simp [hx])
theorem aQ.head {s:Sp} {l:List Sp} (h:aQ (s :: l)):aZ s:=h s (by simp)
theorem aQ.cons {s:Sp} {l:List Sp} (h:aZ s) (h':aQ l):aQ (s :: l):=fun x hx=>by
 rcases List.mem_cons.1 hx with rfl | hx
 · exact h
 · exact h' x hx
theorem aQ.app {a b:List Sp} (h:aQ a) (h':aQ b):aQ (a ++ b):=fun x hx=>by
 rcases List.mem_append.1 hx with hx | hx
 · exact h x hx
 · exact h' x hx
theorem aQ.nil:aQ []:=fun x hx=>by simp at hx
theorem iw (n:Nat):dA (List.replicate n Mk.keep) = n /\ bJ (List.replicate n Mk.keep) = n:=⟨G8 n,Dn n⟩
theorem jh:∀ n:Nat,dA (List.replicate n Mk.drop) = n /\ bJ (List.replicate n Mk.drop) = 0
 | 0=>⟨rfl,rfl⟩
 | n + 1=>by have:=jh n;simp only [List.replicate_succ,dA,bJ];omega
theorem mF:∀ l:List Nat,dA (l.map Mk.put) = 0 /\ bJ (l.map Mk.put) = l.length
 | []=>⟨rfl,rfl⟩
 | c :: l=>by have:=mF l;simp only [List.map_cons,dA,bJ,List.length_cons];omega
theorem bP {s:Sp} (h:s.k = 2):lq s = (pts s.t.data.toList).map Mk.put:=if_pos h
theorem cO {s:Sp} (h:s.k = 1):lq s = List.replicate s.n.toNat Mk.keep:=by unfold lq;rw [if_neg (by omega),if_pos h]
theorem bV {s:Sp} (h:s.k = 3):lq s = List.replicate s.n.toNat Mk.drop:=by unfold lq;rw [if_neg (by omega),if_neg (by omega)]
theorem ado{G:Prop}(h:G:=by (rcases h.cases with ⟨a | a,b,c,d⟩ | ⟨a,b,c⟩);all_goals(rcases(⟨_⟩:PLift _)with⟨h⟩;exact h)):G:=h
theorem iM {s:Sp} (h:aZ s):(dA (lq s):Int) = dh s /\ (bJ (lq s):Int) = bZ s:=by
 refine' ado
 · rw [cO a];have:=iw s.n.toNat
   unfold dh bZ sQ jk;rw [if_pos (.inl a),if_pos a];omega
 · rw [bV a];have:=jh s.n.toNat
   unfold dh bZ sQ jk;rw [if_pos (.inr a),if_neg (by omega),if_neg (by omega)];omega
 · rw [bP a];have:=mF (pts s.t.data.toList)
   unfold dh bZ sQ jk;rw [if_neg (by omega),if_neg (by omega),if_pos a,cu c];omega
theorem dB:∀ {l:List Sp},aQ l -> (dA (gK l):Int) = aS dh l /\ (bJ (gK l):Int) = aS bZ l
 | [],_=>⟨rfl,rfl⟩
 | s :: l,h=>by
   have h1:=iM h.head
   have h2:=dB h.tail
   rw [aC,dJ,dZ,aV,aV];omega
theorem WR {a b:Sp} (ha:aZ a) (hb:aZ b) (hk:b.k = a.k) (hs:dh a + dh b <= 1048576):lq (mrg a b) = lq a ++ lq b:=by
 obtain ⟨m1,m2,m3,m4,m5⟩:=Es ha hb hk hs
 have ek:(mrg a b).k = a.k:=rfl
 rcases ha.cases with ⟨a1 | a1,a2,a3,a4⟩ | ⟨a1,a2,a3⟩
 · have:=hb.cases
   rw [cO (ek.trans a1),cO a1,cO (hk.trans a1),m5,List.replicate_append_replicate]
   congr 1;omega
 · have:=hb.cases
   rw [bV (ek.trans a1),bV a1,bV (hk.trans a1),m5,List.replicate_append_replicate]
   congr 1;omega
 · rw [bP (ek.trans a1),bP a1,bP (hk.trans a1),<- List.map_append]
   congr 1
   show pts (a.t ++ b.t).data.toList = _
   rw [rC,Kz _ a3]
theorem wX {s:Sp} (h:emptyS s = true):lq s = []:=by
 obtain ⟨h1,h2⟩:=jW.1 h
 unfold lq;rw [h1,h2]
 split
 · rfl
 · split <;> rfl
theorem rO:∀ (l:List Sp) (cur:Sp),aZ cur -> aQ l -> dh cur + aS dh l <= 1048576 -> gK (dH cur l) = lq cur ++ gK l
 | [],cur,_,_,_=>by simp [dH,gK]
 | s :: l,cur,hc,hl,hs=>by
   have h1:=hl.head
   have h3:0 <= aS dh l:=(jr dh 1048576 l (fun x hx=>(hl.tail x hx).dh)).1
   have h4:=h1.dh;have h5:=hc.dh
   rw [aV] at hs
   simp only [dH]
   by_cases he:emptyS s = true
   · rw [if_pos he,aC,wX he,List.nil_append]
     exact rO l cur hc hl.tail (by omega)
   · rw [if_neg he]
     by_cases hk:s.k = cur.k
     · rw [if_pos hk]
       obtain ⟨m1,m2,m3,m4,_⟩:=Es hc h1 hk (by omega)
       rw [rO l (mrg cur s) m1 hl.tail (by omega),WR hc h1 hk (by omega),aC,List.append_assoc]
     · rw [if_neg hk,aC,rO l s h1 hl.tail (by omega),aC]
theorem vM:∀ {l:List Sp},aQ l -> aS dh l <= 1048576 -> gK (norm l) = gK l
 | [],_,_=>rfl
 | s :: l,hl,hs=>by
   have h1:=hl.head
   rw [aV] at hs
   simp only [norm]
   by_cases he:emptyS s = true
   · rw [if_pos he,aC,wX he,List.nil_append]
     exact vM hl.tail (by have:=(qG he).1;omega)
   · rw [if_neg he,rO l s h1 hl.tail hs,aC]
def Dq:Mk -> Int
 | .put _=>2
 | .keep=>1
 | .drop=>3
theorem nS {s:Sp} (h:aZ s):∀ m ∈ lq s,Dq m = s.k:=by
 intro m hm
 refine' ado
 · rw [cO a] at hm;rw [(List.mem_replicate.1 hm).2,a];rfl
 · rw [bV a] at hm;rw [(List.mem_replicate.1 hm).2,a];rfl
 · rw [bP a] at hm;obtain ⟨c,_,rfl⟩:=List.mem_map.1 hm;rw [a];rfl
theorem tZ {s:Sp} (h:aZ s) (he:emptyS s = false):lq s ≠ []:=by
 intro h0
 have he':¬ (s.n = 0 /\ s.t = ⟨#[]⟩):=fun x=>by rw [jW.2 x] at he;cases he
 refine' ado
 · rw [cO a] at h0;have:=congrArg List.length h0;rw [List.length_replicate] at this;simp at this;exact he' ⟨by omega,d⟩
 · rw [bV a] at h0;have:=congrArg List.length h0;rw [List.length_replicate] at this;simp at this;exact he' ⟨by omega,d⟩
 · rw [bP a] at h0
   have:=List.map_eq_nil_iff.1 h0
   refine he' ⟨b,KA.2 ?_⟩
   refine Decidable.byContradiction fun hne=>ZT hne this
theorem Ar {k:Int}:∀ {A A' B B':List Mk},A ++ B = A' ++ B' -> (∀ m ∈ A,Dq m = k) -> (∀ m ∈ A',Dq m = k) -> (∀ m ∈ B.head?,Dq m ≠ k) -> (∀ m ∈ B'.head?,Dq m ≠ k) -> A = A' /\ B = B'
 | [],[],B,B',h,_,_,_,_=>⟨rfl,h⟩
 | [],m :: A',B,B',h,_,h2,h3,_=>by
   rw [List.nil_append,List.cons_append] at h
   rw [h] at h3
   exact absurd (h2 m (by simp)) (h3 m (by simp))
 | m :: A,[],B,B',h,h1,_,_,h4=>by
   rw [List.nil_append,List.cons_append] at h
   rw [<- h] at h4
   exact absurd (h1 m (by simp)) (h4 m (by simp))
 | m :: A,m' :: A',B,B',h,h1,h2,h3,h4=>by
   rw [List.cons_append,List.cons_append] at h
   obtain ⟨e1,e2⟩:=List.cons.inj h
   obtain ⟨i1,i2⟩:=Ar e2 (fun x hx=>h1 x (by simp [hx])) (fun x hx=>h2 x (by simp [hx])) h3 h4
   exact ⟨by rw [e1,i1],i2⟩
theorem G9:∀ {l:List Sp} {k:Int},aQ l -> jT (some k) l = true -> ∀ m ∈ (gK l).head?,Dq m ≠ k
 | [],k,_,_,m,hm=>by simp [gK] at hm
 | s :: l,k,h,hn,m,hm=>by
   simp only [jT,Bool.and_eq_true,Bool.not_eq_true',decide_eq_false_iff_not,Option.some.injEq] at hn
   have hne:=tZ h.head hn.1.1
   rw [aC] at hm
   cases hA:lq s with
   | nil=>exact absurd hA hne
   | cons x A =>
     rw [hA] at hm
     simp only [List.cons_append,List.head?_cons,Option.mem_def,Option.some.injEq] at hm
     subst hm
     rw [nS h.head x (by rw [hA];simp)]
     exact fun e=>hn.1.2 e.symm
theorem acv{G:Prop}(h:G:=by
 have:=congrArg List.length h;rw [List.length_replicate,List.length_replicate] at this
 simp only at this
 have:n = n':=by omega
 rw [this,d,d']):G:=h
theorem WS {s u:Sp} (hs:aZ s) (hu:aZ u) (hk:s.k = u.k) (h:lq s = lq u):s = u:=by
 obtain ⟨k,n,t⟩:=s
 obtain ⟨k',n',t'⟩:=u
 simp only at hk
 subst hk
 rcases hs.cases with ⟨a | a,b,c,d⟩ | ⟨a,b,c⟩
 · rcases hu.cases with ⟨a',b',c',d'⟩ | ⟨a',b',c'⟩
   · simp only at a b c d a' b' c' d'
     rw [cO a,cO a] at h
     refine' acv
   · simp only at a a';omega
 · rcases hu.cases with ⟨a',b',c',d'⟩ | ⟨a',b',c'⟩
   · simp only at a b c d a' b' c' d'
     rw [bV a,bV a] at h
     refine' acv
   · simp only at a a';omega
 · rcases hu.cases with ⟨a',b',c',d'⟩ | ⟨a',b',c'⟩
   · simp only at a a';omega
   · simp only at a b c a' b' c'
     rw [bP a,bP a] at h
     have:=(List.map_inj_right (fun x y e=>by cases e;rfl)).1 h
     simp only at this
     have:t = t':=by rw [<- rJ c,<- rJ c',this]
     rw [this,b,b']
theorem EH:∀ {l m:List Sp} {p q:Option Int},aQ l -> aQ m -> jT p l = true -> jT q m = true -> gK l = gK m -> l = m
 | [],[],_,_,_,_,_,_,_=>rfl
 | [],u :: m,_,_,_,h2,_,h4,h=>by
   simp only [jT,Bool.and_eq_true,Bool.not_eq_true'] at h4
   rw [fE,aC] at h
   exact absurd (List.append_eq_nil_iff.1 h.symm).1 (tZ h2.head h4.1.1)
 | s :: l,[],_,_,h1,_,h3,_,h=>by
   simp only [jT,Bool.and_eq_true,Bool.not_eq_true'] at h3
   rw [fE,aC] at h
   exact absurd (List.append_eq_nil_iff.1 h).1 (tZ h1.head h3.1.1)
 | s :: l,u :: m,_,_,h1,h2,h3,h4,h=>by
   simp only [jT,Bool.and_eq_true,Bool.not_eq_true'] at h3 h4
   rw [aC,aC] at h
   have hk:s.k = u.k:=by
     have n1:=tZ h1.head h3.1.1
     have n2:=tZ h2.head h4.1.1
     cases hA:lq s with
     | nil=>exact absurd hA n1
     | cons x A =>
       cases hB:lq u with
       | nil=>exact absurd hB n2
       | cons y B =>
         rw [hA,hB,List.cons_append,List.cons_append] at h
         obtain ⟨e,_⟩:=List.cons.inj h
         rw [<- nS h1.head x (by rw [hA];simp),<- nS h2.head y (by rw [hB];simp),e]
   obtain ⟨e1,e2⟩:=Ar h (nS h1.head) (fun m hm=>by rw [hk];exact nS h2.head m hm) (G9 h1.tail h3.2) (by rw [hk];exact G9 h2.tail h4.2)
   rw [WS h1.head h2.head hk e1,EH h1.tail h2.tail h3.2 h4.2 e2]
def XA:Mk -> Sp
 | .put c=>⟨2,0,txt [c]⟩
 | .keep=>⟨1,1,⟨#[]⟩⟩
 | .drop=>⟨3,1,⟨#[]⟩⟩
def xW (A:List Mk):Prop:=∀ c,.put c ∈ A -> Bf c
def Pm (A:List Mk):List Sp:=norm (A.map XA)
theorem aaI {m:Mk} (h:∀ c,m = .put c -> Bf c):aZ (XA m) /\ lq (XA m) = [m]:=by
 cases m with
 | put c =>
   obtain ⟨h1,h2⟩:=jY [c] (by simpa using h c rfl)
   refine ⟨aZ.put rfl rfl (by rw [show (XA (.put c)).t = txt [c] from rfl,dY];exact h1),?_⟩
   rw [bP rfl,show (XA (.put c)).t = txt [c] from rfl,dY,h2];rfl
 | keep=>exact ⟨aZ.keep (.inl rfl) (by decide) rfl,by rw [cO rfl];rfl⟩
 | drop=>exact ⟨aZ.keep (.inr rfl) (by decide) rfl,by rw [bV rfl];rfl⟩
theorem xW.tail {m:Mk} {A:List Mk} (h:xW (m :: A)):xW A:=fun c hc=>h c (by simp [hc])
theorem KU:∀ {A:List Mk},xW A -> aQ (A.map XA) /\ gK (A.map XA) = A
 | [],_=>⟨aQ.nil,rfl⟩
 | m :: A,h=>by
   obtain ⟨h1,h2⟩:=aaI (m:=m) (fun c hc=>h c (by simp [hc]))
   obtain ⟨i1,i2⟩:=KU h.tail
   rw [List.map_cons]
   exact ⟨aQ.cons h1 i1,by rw [aC,h2,i2];rfl⟩
theorem KW {A:List Mk} (h:xW A) (hn:dA A <= 1048576):aQ (Pm A) /\ Bd (Pm A) = true /\ gK (Pm A) = A:=by
 obtain ⟨h1,h2⟩:=KU h
 have hs:aS dh (A.map XA) <= 1048576:=by have:=(dB h1).1;rw [h2] at this;omega
 exact ⟨(jg _ h1 hs).1,nK _ h1 hs,by unfold Pm;rw [vM h1 hs,h2]⟩
theorem yN {l:List Sp} (h:aQ l):xW (gK l):=by
 intro c hc
 obtain ⟨s,hs,hm⟩:=List.mem_flatMap.1 hc
 rcases (h s hs).cases with ⟨a | a,b,c,d⟩ | ⟨a,b,c⟩
 · rw [cO a] at hm;cases (List.mem_replicate.1 hm).2
 · rw [bV a] at hm;cases (List.mem_replicate.1 hm).2
 · rw [bP a] at hm
   obtain ⟨d,hd,e⟩:=List.mem_map.1 hm
   cases e
   exact (jE _ c).2 _ hd
theorem He {l:List Sp} (h:aQ l) (hs:aS dh l <= 1048576):norm l = Pm (gK l):=by
 have hi:dA (gK l) <= 1048576:=by have:=(dB h).1;omega
 obtain ⟨h1,h2,h3⟩:=KW (yN h) hi
 exact EH (jg _ h hs).1 h1 (nK _ h hs) h2 (by rw [vM h hs,h3])
theorem xW.cons {m:Mk} {A:List Mk} (h:∀ c,m = .put c -> Bf c) (h':xW A):xW (m :: A):=fun c hc=>by
 rcases List.mem_cons.1 hc with e | hc
 · exact h c e.symm
 · exact h' c hc
theorem rP:∀ (y x:List Mk),xW y -> xW x -> xW (fM y x)
 | [],x,hy,hx=>hx
 | .put c :: y,x,hy,hx=>xW.cons (fun d e=>hy d (by rw [<- e];simp)) (rP y x hy.tail hx)
 | .keep :: y,x,hy,hx=>by
   simp only [fM]
   induction x with
   | nil=>exact hx
   | cons a x ih =>
     cases a with
     | drop=>exact xW.cons (fun d e=>by cases e) (ih hx.tail)
     | put c=>simp only [jL,if_true];exact xW.cons (fun d e=>hx d (by rw [<- e];simp)) (rP y x hy.tail hx.tail)
     | keep=>simp only [jL,if_true];exact xW.cons (fun d e=>by cases e) (rP y x hy.tail hx.tail)
 | .drop :: y,x,hy,hx=>by
   simp only [fM]
   induction x with
   | nil=>exact hx
   | cons a x ih =>
     cases a with
     | drop=>exact xW.cons (fun d e=>by cases e) (ih hx.tail)
     | put c=>simp only [jL,Bool.false_eq_true,if_false];exact rP y x hy.tail hx.tail
     | keep=>simp only [jL,Bool.false_eq_true,if_false];exact xW.cons (fun d e=>by cases e) (rP y x hy.tail hx.tail)
theorem rQ:∀ (s a:List Mk),xW a -> xW (iL s a)
 | [],a,ha=>ha
 | .put c :: s,a,ha=>xW.cons (fun d e=>by cases e) (rQ s a ha)
 | .keep :: s,a,ha=>by
   simp only [iL]
   induction a with
   | nil=>exact ha
   | cons b a ih =>
     cases b with
     | put c=>exact xW.cons (fun d e=>ha d (by rw [<- e];simp)) (ih ha.tail)
     | keep=>simp only [o7,if_true];exact xW.cons (fun d e=>by cases e) (rQ s a ha.tail)
     | drop=>simp only [o7,if_true];exact xW.cons (fun d e=>by cases e) (rQ s a ha.tail)
 | .drop :: s,a,ha=>by
   simp only [iL]
   induction a with
   | nil=>exact ha
   | cons b a ih =>
     cases b with
     | put c=>exact xW.cons (fun d e=>ha d (by rw [<- e];simp)) (ih ha.tail)
     | keep=>simp only [o7,Bool.false_eq_true,if_false];exact rQ s a ha.tail
     | drop=>simp only [o7,Bool.false_eq_true,if_false];exact rQ s a ha.tail
theorem vN:∀ (a b:List Mk) (r:List Nat),dA a <= r.length -> jl (a ++ b) r = jl a (r.take (dA a)) ++ jl b (r.drop (dA a))
 | [],b,r,h=>by simp [jl,dA]
 | .put c :: a,b,r,h=>by simp only [List.cons_append,jl,dA];rw [vN a b r h]
 | .keep :: a,b,[],h=>by simp [dA] at h
 | .keep :: a,b,p :: r,h=>by simp only [List.cons_append,jl,dA,List.take_succ_cons,List.drop_succ_cons];rw [vN a b r (by simpa [dA] using h)]
 | .drop :: a,b,[],h=>by simp [dA] at h
 | .drop :: a,b,p :: r,h=>by simp only [List.cons_append,jl,dA,List.take_succ_cons,List.drop_succ_cons];rw [vN a b r (by simpa [dA] using h)]
theorem Hf:∀ (l:List Nat),jl (l.map Mk.put) [] = l
 | []=>rfl
 | c :: l=>by simp only [List.map_cons,jl];rw [Hf l]
theorem Dt:∀ (r:List Nat),jl (List.replicate r.length Mk.drop) r = []
 | []=>rfl
 | p :: r=>by simp only [List.length_cons,List.replicate_succ,jl];exact Dt r
theorem Au:∀ (l:List Sp) (r:List Nat),aQ l -> aS dh l = r.length -> eX l r = jl (gK l) r
 | [],r,h,hr=>by
   have:r = []:=List.length_eq_zero_iff.1 (by simp [aS] at hr;omega)
   subst this;rfl
 | s :: l,r,h,hr=>by
   have hs:=h.head
   have h1:=iM hs
   have h3:=EF h.tail
   rw [aV] at hr
   rw [nO,aC,vN _ _ _ (by omega)]
   rcases iP hs with ⟨a,b,c,d⟩ | ⟨a,b,c,d⟩
   · have e0:dA (lq s) = 0:=by omega
     rw [e0,b]
     simp only [Int.toNat_zero,List.drop_zero,List.take_zero]
     rw [Au l r h.tail (by omega),bP a,Hf]
     unfold xU;rw [if_pos a]
   · have e0:dA (lq s) = s.n.toNat:=by omega
     rw [e0,Au l _ h.tail (by rw [List.length_drop];omega)]
     congr 1
     have hl:(r.take s.n.toNat).length = s.n.toNat:=by rw [List.length_take];omega
     unfold xU
     rcases a with a | a
     · rw [cO a,if_neg (by omega),if_pos a]
       have:=Dp (r.take s.n.toNat)
       rw [hl] at this;exact this.symm
     · rw [bV a,if_neg (by omega),if_neg (by omega)]
       have:=Dt (r.take s.n.toNat)
       rw [hl] at this;exact this.symm
def WT:List Mk -> Prop
 | .put _ :: _=>False
 | _=>True
theorem wY:∀ (l:List Nat) (Y X:List Mk),fM (l.map Mk.put ++ Y) X = l.map Mk.put ++ fM Y X
 | [],_,_=>rfl
 | c :: l,Y,X=>by simp only [List.map_cons,List.cons_append,fM];rw [wY l]
theorem uf:∀ (n:Nat) (Y X:List Mk),WT Y -> fM Y (List.replicate n Mk.drop ++ X) = List.replicate n Mk.drop ++ fM Y X
 | 0,Y,X,_=>rfl
 | n + 1,[],X,h=>rfl
 | n + 1,.put c :: Y,X,h=>h.elim
 | n + 1,.keep :: Y,X,h=>by have:=uf n (.keep :: Y) X h;simp only [List.replicate_succ,List.cons_append,fM,jL] at this ⊢;rw [this]
 | n + 1,.drop :: Y,X,h=>by have:=uf n (.drop :: Y) X h;simp only [List.replicate_succ,List.cons_append,fM,jL] at this ⊢;rw [this]
theorem Aw:∀ (l:List Nat) (Y X:List Mk),fM (List.replicate l.length Mk.keep ++ Y) (l.map Mk.put ++ X) = l.map Mk.put ++ fM Y X
 | [],_,_=>rfl
 | c :: l,Y,X=>by simp only [List.length_cons,List.map_cons,List.replicate_succ,List.cons_append,fM,jL,if_true];rw [Aw l]
theorem Az:∀ (n:Nat) (Y X:List Mk),fM (List.replicate n Mk.keep ++ Y) (List.replicate n Mk.keep ++ X) = List.replicate n Mk.keep ++ fM Y X
 | 0,_,_=>rfl
 | n + 1,Y,X=>by simp only [List.replicate_succ,List.cons_append,fM,jL,if_true];rw [Az n]
theorem AA:∀ (n:Nat) (Y X:List Mk),fM (List.replicate n Mk.drop ++ Y) (List.replicate n Mk.keep ++ X) = List.replicate n Mk.drop ++ fM Y X
 | 0,_,_=>rfl
 | n + 1,Y,X=>by simp only [List.replicate_succ,List.cons_append,fM,jL,Bool.false_eq_true,if_false];rw [AA n]
theorem AB:∀ (l:List Nat) (Y X:List Mk),fM (List.replicate l.length Mk.drop ++ Y) (l.map Mk.put ++ X) = fM Y X
 | [],_,_=>rfl
 | c :: l,Y,X=>by simp only [List.length_cons,List.map_cons,List.replicate_succ,List.cons_append,fM,jL,Bool.false_eq_true,if_false];exact AB l Y X
theorem wZ:∀ (l:List Nat) (S A:List Mk),iL (l.map Mk.put ++ S) A = List.replicate l.length Mk.keep ++ iL S A
 | [],_,_=>rfl
 | c :: l,S,A=>by simp only [List.length_cons,List.map_cons,List.replicate_succ,List.cons_append,iL];rw [wZ l]
theorem xg:∀ (l:List Nat) (S A:List Mk),WT S -> iL S (l.map Mk.put ++ A) = l.map Mk.put ++ iL S A
 | [],_,_,_=>rfl
 | c :: l,[],A,h=>rfl
 | c :: l,.put _ :: S,A,h=>h.elim
 | c :: l,.keep :: S,A,h=>by have:=xg l (.keep :: S) A h;simp only [List.map_cons,List.cons_append,iL,o7] at this ⊢;rw [this]
 | c :: l,.drop :: S,A,h=>by have:=xg l (.drop :: S) A h;simp only [List.map_cons,List.cons_append,iL,o7] at this ⊢;rw [this]
theorem ug:∀ (n:Nat) (m:Mk) (S A:List Mk),(m = .keep ∨ m = .drop) -> iL (List.replicate n Mk.keep ++ S) (List.replicate n m ++ A) = List.replicate n m ++ iL S A
 | 0,_,_,_,_=>rfl
 | n + 1,m,S,A,h=>by
   rcases h with rfl | rfl
   · simp only [List.replicate_succ,List.cons_append,iL,o7,if_true];rw [ug n _ S A (.inl rfl)]
   · simp only [List.replicate_succ,List.cons_append,iL,o7,if_true];rw [ug n _ S A (.inr rfl)]
theorem uh:∀ (n:Nat) (m:Mk) (S A:List Mk),(m = .keep ∨ m = .drop) -> iL (List.replicate n Mk.drop ++ S) (List.replicate n m ++ A) = iL S A
 | 0,_,_,_,_=>rfl
 | n + 1,m,S,A,h=>by
   rcases h with rfl | rfl
   · simp only [List.replicate_succ,List.cons_append,iL,o7,Bool.false_eq_true,if_false];exact uh n _ S A (.inl rfl)
   · simp only [List.replicate_succ,List.cons_append,iL,o7,Bool.false_eq_true,if_false];exact uh n _ S A (.inr rfl)
def dP (s:Sp):Nat:=if s.k = 2 then (pts s.t.data.toList).length else s.n.toNat
def fB (s:Sp) (n:Nat):Sp:=if s.k = 2 then ⟨2,0,txt ((pts s.t.data.toList).take n)⟩ else ⟨s.k,n,⟨#[]⟩⟩
def iO (s:Sp) (n:Nat):Sp:=if s.k = 2 then ⟨2,0,txt ((pts s.t.data.toList).drop n)⟩ else ⟨s.k,s.n - n,⟨#[]⟩⟩
def bF (s:Sp) (n:Nat) (l:List Sp):List Sp:=if dP s = n then l else iO s n :: l
theorem rU {s:Sp} (h:aZ s):(lq s).length = dP s:=by
 unfold dP
 refine' ado
 · rw [cO a,List.length_replicate,if_neg (by omega)]
 · rw [bV a,List.length_replicate,if_neg (by omega)]
 · rw [bP a,List.length_map,if_pos a]
theorem yO {s:Sp} (h:s.k = 2):dP s = (pts s.t.data.toList).length:=if_pos h
theorem ji {s:Sp} (h:s.k ≠ 2):dP s = s.n.toNat:=if_neg h
theorem AL {s:Sp} (n:Nat) (h:s.k ≠ 2):fB s n = ⟨s.k,n,⟨#[]⟩⟩:=if_neg h
theorem SL {s:Sp} (n:Nat) (h:s.k ≠ 2):iO s n = ⟨s.k,s.n - n,⟨#[]⟩⟩:=if_neg h
theorem mG {s:Sp} (h:aZ s) {n:Nat} (hn:n <= dP s):aZ (fB s n) /\ aZ (iO s n) /\ lq (fB s n) = (lq s).take n /\ lq (iO s n) = (lq s).drop n /\ (fB s n).t.size + (iO s n).t.size = s.t.size /\ (fB s n).k = s.k /\ (iO s n).k = s.k:=by
 rcases h.cases with ⟨a,b,c,d⟩ | ⟨a,b,c⟩
 · have hk:s.k ≠ 2:=by omega
   rw [ji hk] at hn
   rw [AL n hk,SL n hk,d]
   refine ⟨aZ.keep a (by simp only;omega) rfl,aZ.keep a (by simp only;omega) rfl,?_,?_,rfl,rfl,rfl⟩
   · rcases a with a | a
     · rw [cO a,cO (s:=⟨s.k,n,⟨#[]⟩⟩) a,List.take_replicate];congr 1;simp only;omega
     · rw [bV a,bV (s:=⟨s.k,n,⟨#[]⟩⟩) a,List.take_replicate];congr 1;simp only;omega
   · rcases a with a | a
     · rw [cO a,cO (s:=⟨s.k,s.n - n,⟨#[]⟩⟩) a,List.drop_replicate];congr 1;simp only;omega
     · rw [bV a,bV (s:=⟨s.k,s.n - n,⟨#[]⟩⟩) a,List.drop_replicate];congr 1;simp only;omega
 · have hp:=(jE _ c).2
   have e1:fB s n = ⟨2,0,txt ((pts s.t.data.toList).take n)⟩:=if_pos a
   have e2:iO s n = ⟨2,0,txt ((pts s.t.data.toList).drop n)⟩:=if_pos a
   obtain ⟨s1,s2⟩:=jY ((pts s.t.data.toList).take n) (fun p hp'=>hp p (List.mem_of_mem_take hp'))
   obtain ⟨s3,s4⟩:=jY ((pts s.t.data.toList).drop n) (fun p hp'=>hp p (List.mem_of_mem_drop hp'))
   rw [e1,e2]
   refine ⟨aZ.put rfl rfl (by simp only;rw [dY];exact s1),aZ.put rfl rfl (by simp only;rw [dY];exact s3),?_,?_,?_,a.symm,a.symm⟩
   · rw [bP rfl,bP a];simp only;rw [dY,s2,List.map_take]
   · rw [bP rfl,bP a];simp only;rw [dY,s4,List.map_drop]
   · simp only
     have:txt ((pts s.t.data.toList).take n) ++ txt ((pts s.t.data.toList).drop n) = s.t:=by rw [WL,List.take_append_drop,rJ c]
     rw [<- Gv,this]
theorem lu {s:Sp} {l:List Sp} (h:aZ s) (hl:aQ l) {n:Nat} (hn:n <= dP s):aQ (bF s n l) /\ gK (bF s n l) = (lq s).drop n ++ gK l /\ (bF s n l).length <= l.length + 1 /\ (dP s = n -> (bF s n l).length = l.length) /\ (fB s n).t.size + bU (bF s n l) <= s.t.size + bU l:=by
 obtain ⟨h1,h2,h3,h4,h5,_,_⟩:=mG h hn
 unfold bF
 by_cases hz:dP s = n
 · rw [if_pos hz]
   refine ⟨hl,?_,by omega,fun _=>rfl,by omega⟩
   rw [List.drop_of_length_le (by rw [rU h];omega),List.nil_append]
 · rw [if_neg hz]
   exact ⟨aQ.cons h2 hl,by rw [aC,h4],by simp,fun e=>absurd e hz,by rw [aG];omega⟩
theorem fQ {s:Sp} (h:aZ s) {n:Nat} (hn:n <= dP s):(s.k = 1 /\ (lq s).take n = List.replicate n Mk.keep) ∨ (s.k = 3 /\ (lq s).take n = List.replicate n Mk.drop) ∨ (s.k = 2 /\ ∃ l:List Nat,l.length = n /\ (lq s).take n = l.map Mk.put):=by
 refine' ado
 · rw [ji (by omega)] at hn
   refine .inl ⟨a,?_⟩
   rw [cO a,List.take_replicate];congr 1;omega
 · rw [ji (by omega)] at hn
   refine .inr (.inl ⟨a,?_⟩)
   rw [bV a,List.take_replicate];congr 1;omega
 · rw [yO a] at hn
   refine .inr (.inr ⟨a,(pts s.t.data.toList).take n,by rw [List.length_take];omega,?_⟩)
   rw [bP a,List.map_take]
theorem SN:∀ {l:List Sp},aQ l -> (∀ s ∈ l.head?,s.k ≠ 2 /\ lq s ≠ []) -> WT (gK l)
 | [],_,_=>trivial
 | s :: l,h,hk=>by
   have hs:=h.head
   obtain ⟨h2,h3⟩:=hk s (by simp)
   have hkk:=nS hs
   rw [aC]
   cases hA:lq s with
   | nil=>exact absurd hA h3
   | cons m A =>
     rw [hA] at hkk
     have:=hkk m (by simp)
     cases m with
     | put c=>exact absurd this.symm h2
     | keep=>trivial
     | drop=>trivial
def Ii (l:List Sp):Prop:=∀ s ∈ l,emptyS s = false
theorem Ii.tail {s:Sp} {l:List Sp} (h:Ii (s :: l)):Ii l:=fun x hx=>h x (by simp [hx])
theorem Hg:∀ {l:List Sp} {p:Option Int},jT p l = true -> Ii l
 | [],_,_=>fun x hx=>by simp at hx
 | s :: l,p,h=>by
   simp only [jT,Bool.and_eq_true,Bool.not_eq_true'] at h
   intro x hx
   rcases List.mem_cons.1 hx with rfl | hx
   · exact h.1.1
   · exact Hg h.2 x hx
theorem iZ {s:Sp} {l:List Sp} (h:aZ s) (hl:Ii l) {n:Nat} (hn:n <= dP s):Ii (bF s n l):=by
 unfold bF
 by_cases hz:dP s = n
 · rw [if_pos hz];exact hl
 · rw [if_neg hz]
   intro x hx
   rcases List.mem_cons.1 hx with rfl | hx
   · obtain ⟨h1,h2,h3,h4,_⟩:=mG h hn
     cases he:emptyS (iO s n) with
     | false=>rfl
     | true =>
       have:=wX he
       rw [h4] at this
       have:=congrArg List.length this
       rw [List.length_drop,rU h] at this
       simp at this;omega
   · exact hl x hx
theorem vO {s:Sp} (h:aZ s) (he:emptyS s = false):0 < dP s:=by
 rw [<- rU h];exact List.length_pos_iff.2 (tZ h he)
def jy:Nat -> List Sp -> List Sp -> List Sp
 | 0,_,_=>[]
 | f + 1,[],[]=>[]
 | f + 1,u :: x,[]=>u :: jy f x []
 | f + 1,[],v :: y=>if v.k = 2 then v :: jy f [] y else []
 | f + 1,u :: x,v :: y =>
   if v.k = 2 then v :: jy f (u :: x) y else
   if u.k = 3 then u :: jy f x (v :: y) else
   (if v.k = 1 then [fB u (min (dP u) (dP v))] else if u.k = 1 then [fB v (min (dP u) (dP v))] else []) ++ jy f (bF u (min (dP u) (dP v)) x) (bF v (min (dP u) (dP v)) y)
theorem kC {s:Sp} {l:List Sp} (h:aZ s) (hl:aQ l) {n:Nat} (hn:n <= dP s):gK (s :: l) = (lq s).take n ++ gK (bF s n l):=by
 rw [(lu h hl hn).2.1,aC,<- List.append_assoc,List.take_append_drop]
theorem xk {s:Sp} (h:s.k = 2):dA (lq s) = 0:=by rw [bP h];exact (mF _).1
theorem Hl {s:Sp} (h:s.k = 3):bJ (lq s) = 0:=by rw [bV h];exact (jh _).2
theorem Ho {l:List Sp} (h:aQ l) (hf:Ii l) (hk:∀ s ∈ l.head?,s.k ≠ 2):WT (gK l) :=
 SN h fun s hs=>⟨hk s hs,by
   cases l with
   | nil=>simp at hs
   | cons x l=>simp only [List.head?_cons,Option.mem_def,Option.some.injEq] at hs;subst hs;exact tZ h.head (hf _ (by simp))⟩
theorem nT:∀ (f:Nat) (x y:List Sp),x.length + y.length <= f -> aQ x -> aQ y -> Ii x -> Ii y -> bJ (gK x) = dA (gK y) ->
   gK (jy f x y) = fM (gK y) (gK x) /\ aQ (jy f x y) /\ (jy f x y).length <= x.length + y.length /\ bU (jy f x y) <= bU x + bU y
 | 0,x,y,hf,hx,hy,_,_,_=>by
   obtain rfl:x = []:=List.length_eq_zero_iff.1 (by omega)
   obtain rfl:y = []:=List.length_eq_zero_iff.1 (by omega)
   exact ⟨rfl,aQ.nil,Nat.le_refl _,Nat.le_refl _⟩
 | f + 1,[],[],hf,hx,hy,_,_,_=>⟨rfl,aQ.nil,Nat.le_refl _,Nat.le_refl _⟩
 | f + 1,u :: x,[],hf,hx,hy,fx,fy,ho=>by
   rw [aC,dZ,fE] at ho
   simp only [dA] at ho
   obtain ⟨i1,i2,i3,i4⟩:=nT f x [] (by simp at hf ⊢;omega) hx.tail hy fx.tail fy (by rw [fE];simp only [dA];omega)
   simp only [jy]
   refine ⟨?_,aQ.cons hx.head i2,by simp at i3 ⊢;omega,by rw [aG,aG];omega⟩
   rw [aC,i1,fE,aC];rfl
 | f + 1,[],v :: y,hf,hx,hy,fx,fy,ho=>by
   rw [aC,dJ,fE] at ho
   simp only [bJ] at ho
   have hv2:v.k = 2:=by
     refine Decidable.byContradiction fun hk=>?_
     have h1:=(iM hy.head).1
     have h2:=vO hy.head (fy v (by simp))
     rw [ji hk] at h2
     rcases iP hy.head with ⟨a,_⟩ | ⟨a,b,c,d⟩
     · exact hk a
     · omega
   simp only [jy];rw [if_pos hv2]
   obtain ⟨i1,i2,i3,i4⟩:=nT f [] y (by simp at hf ⊢;omega) hx hy.tail fx fy.tail (by rw [fE];simp only [bJ];omega)
   refine ⟨?_,aQ.cons hy.head i2,by simp at i3 ⊢;omega,by rw [aG,aG];omega⟩
   rw [aC,i1,aC,bP hv2,wY]
 | f + 1,u :: x,v :: y,hf,hx,hy,fx,fy,ho=>by
   simp only [jy]
   by_cases hv2:v.k = 2
   · rw [if_pos hv2]
     have hv0:=xk hv2
     rw [aC v,dJ] at ho
     obtain ⟨i1,i2,i3,i4⟩:=nT f (u :: x) y (by simp at hf ⊢;omega) hx hy.tail fx fy.tail (by omega)
     refine ⟨?_,aQ.cons hy.head i2,by simp at i3 ⊢;omega,by rw [aG,aG v];omega⟩
     rw [aC,i1,aC v,bP hv2,wY]
   · rw [if_neg hv2]
     by_cases hu3:u.k = 3
     · rw [if_pos hu3]
       have hu0:=Hl hu3
       rw [aC u,dZ] at ho
       obtain ⟨i1,i2,i3,i4⟩:=nT f x (v :: y) (by simp at hf ⊢;omega) hx.tail hy fx.tail fy (by omega)
       refine ⟨?_,aQ.cons hx.head i2,by simp at i3 ⊢;omega,by rw [aG,aG u];omega⟩
       rw [aC u,i1,aC u,bV hu3,uf _ _ _ (Ho hy fy (fun s hs=>by simp at hs;subst hs;exact hv2))]
     · rw [if_neg hu3]
       have hn1:min (dP u) (dP v) <= dP u:=Nat.min_le_left ..
       have hn2:min (dP u) (dP v) <= dP v:=Nat.min_le_right ..
       have hone:dP u = min (dP u) (dP v) ∨ dP v = min (dP u) (dP v):=by omega
       generalize min (dP u) (dP v) = n at *
       obtain ⟨a1,a2,a3,a4,a5⟩:=lu hx.head hx.tail hn1
       obtain ⟨b1,b2,b3,b4,b5⟩:=lu hy.head hy.tail hn2
       obtain ⟨p1,p2,p3,p4,p5,p6,p7⟩:=mG hx.head hn1
       obtain ⟨q1,q2,q3,q4,q5,q6,q7⟩:=mG hy.head hn2
       have mx:=kC hx.head hx.tail hn1
       have my:=kC hy.head hy.tail hn2
       have hlen:(bF u n x).length + (bF v n y).length <= x.length + y.length + 1:=by
         rcases hone with h | h
         · have:=a4 h;omega
         · have:=b4 h;omega
       have hom:bJ ((lq u).take n) = n /\ dA ((lq v).take n) = n:=by
         refine ⟨?_,?_⟩
         · rcases fQ hx.head hn1 with ⟨_,e⟩ | ⟨e,_⟩ | ⟨_,l,e1,e2⟩
           · rw [e];exact (iw n).2
           · exact absurd e hu3
           · rw [e2,<- e1];exact (mF l).2
         · rcases fQ hy.head hn2 with ⟨_,e⟩ | ⟨_,e⟩ | ⟨e,_⟩
           · rw [e];exact (iw n).1
           · rw [e];exact (jh n).1
           · exact absurd e hv2
       rw [mx,my,dZ,dJ] at ho
       simp only [List.length_cons] at hf
       obtain ⟨i1,i2,i3,i4⟩:=nT f _ _ (by omega) a1 b1 (iZ hx.head fx.tail hn1) (iZ hy.head fy.tail hn2) (by omega)
       rw [mx,my,aG,aG]
       simp only [List.length_cons]
       rcases fQ hy.head hn2 with ⟨hk,e⟩ | ⟨hk,e⟩ | ⟨e,_⟩
       · rw [if_pos hk]
         refine ⟨?_,aQ.app (aQ.cons p1 aQ.nil) i2,by simp only [List.singleton_append,List.length_cons];omega,by rw [List.singleton_append,aG];omega⟩
         rw [List.singleton_append,aC,p3,i1,e]
         rcases fQ hx.head hn1 with ⟨_,e'⟩ | ⟨e',_⟩ | ⟨_,l,e1,e2⟩
         · rw [e',Az]
         · exact absurd e' hu3
         · rw [e2,<- e1,Aw]
       · rw [if_neg (by omega)]
         rcases fQ hx.head hn1 with ⟨hk',e'⟩ | ⟨e',_⟩ | ⟨hk',l,e1,e2⟩
         · rw [if_pos hk']
           have ht:(fB v n).t.size = 0:=by rw [AL n hv2];rfl
           refine ⟨?_,aQ.app (aQ.cons q1 aQ.nil) i2,by simp only [List.singleton_append,List.length_cons];omega,by rw [List.singleton_append,aG];omega⟩
           rw [List.singleton_append,aC,q3,i1,e,e',AA]
         · exact absurd e' hu3
         · rw [if_neg (by omega),List.nil_append]
           refine ⟨?_,i2,by omega,by omega⟩
           rw [i1,e,e2,<- e1,AB]
       · exact absurd e hv2
def kpO (s:Sp):Sp:=⟨1,bZ s,⟨#[]⟩⟩
def jF:Nat -> List Sp -> List Sp -> List Sp
 | 0,_,_=>[]
 | f + 1,[],[]=>[]
 | f + 1,u :: a,[]=>u :: jF f a []
 | f + 1,[],v :: s=>if v.k = 2 then kpO v :: jF f [] s else []
 | f + 1,u :: a,v :: s =>
   if v.k = 2 then kpO v :: jF f (u :: a) s else
   if u.k = 2 then u :: jF f a (v :: s) else
   (if v.k = 1 then [fB u (min (dP u) (dP v))] else []) ++ jF f (bF u (min (dP u) (dP v)) a) (bF v (min (dP u) (dP v)) s)
theorem SQ {v:Sp} (h:aZ v) (hk:v.k = 2) (ho:bZ v <= 1048576):aZ (kpO v) /\ lq (kpO v) = List.replicate (pts v.t.data.toList).length Mk.keep /\ (kpO v).t.size = 0:=by
 have h2:=(iM h).2
 rw [bP hk,(mF _).2] at h2
 refine ⟨aZ.keep (.inl rfl) (by show 0 <= bZ v /\ bZ v <= 1048576;omega) rfl,?_,rfl⟩
 rw [cO rfl];congr 1;show (bZ v).toNat = _;omega
theorem nU:∀ (f:Nat) (a s:List Sp),a.length + s.length <= f -> aQ a -> aQ s -> Ii a -> Ii s -> dA (gK a) = dA (gK s) -> bJ (gK s) <= 1048576 ->
   gK (jF f a s) = iL (gK s) (gK a) /\ aQ (jF f a s) /\ (jF f a s).length <= a.length + s.length /\ bU (jF f a s) <= bU a
 | 0,x,y,hf,hx,hy,_,_,_,_=>by
   obtain rfl:x = []:=List.length_eq_zero_iff.1 (by omega)
   obtain rfl:y = []:=List.length_eq_zero_iff.1 (by omega)
   exact ⟨rfl,aQ.nil,Nat.le_refl _,Nat.le_refl _⟩
 | f + 1,[],[],hf,hx,hy,_,_,_,_=>⟨rfl,aQ.nil,Nat.le_refl _,Nat.le_refl _⟩
 | f + 1,u :: x,[],hf,hx,hy,fx,fy,ho,hb=>by
   rw [aC,dJ,fE] at ho
   simp only [dA] at ho
   obtain ⟨i1,i2,i3,i4⟩:=nU f x [] (by simp at hf ⊢;omega) hx.tail hy fx.tail fy (by rw [fE];simp only [dA];omega) hb
   simp only [jF]
   refine ⟨?_,aQ.cons hx.head i2,by simp at i3 ⊢;omega,by rw [aG,aG];omega⟩
   rw [aC,i1,fE,aC];rfl
 | f + 1,[],v :: y,hf,hx,hy,fx,fy,ho,hb=>by
   rw [aC,dJ,fE] at ho
   rw [aC,dZ] at hb
   simp only [dA] at ho
   have hv2:v.k = 2:=by
     refine Decidable.byContradiction fun hk=>?_
     have h1:=(iM hy.head).1
     have h2:=vO hy.head (fy v (by simp))
     rw [ji hk] at h2
     rcases iP hy.head with ⟨a,_⟩ | ⟨a,b,c,d⟩
     · exact hk a
     · omega
   simp only [jF];rw [if_pos hv2]
   obtain ⟨k1,k2,k3⟩:=SQ hy.head hv2 (by have:=(iM hy.head).2;omega)
   obtain ⟨i1,i2,i3,i4⟩:=nU f [] y (by simp at hf ⊢;omega) hx hy.tail fx fy.tail (by rw [fE];simp only [dA];omega) (by omega)
   refine ⟨?_,aQ.cons k1 i2,by simp at i3 ⊢;omega,by rw [aG];omega⟩
   rw [aC,i1,aC,bP hv2,wZ,k2]
 | f + 1,u :: x,v :: y,hf,hx,hy,fx,fy,ho,hb=>by
   simp only [jF]
   by_cases hv2:v.k = 2
   · rw [if_pos hv2]
     have hv0:=xk hv2
     rw [aC v,dJ] at ho
     rw [aC v,dZ] at hb
     obtain ⟨k1,k2,k3⟩:=SQ hy.head hv2 (by have:=(iM hy.head).2;omega)
     obtain ⟨i1,i2,i3,i4⟩:=nU f (u :: x) y (by simp at hf ⊢;omega) hx hy.tail fx fy.tail (by omega) (by omega)
     refine ⟨?_,aQ.cons k1 i2,by simp at i3 ⊢;omega,by rw [aG];omega⟩
     rw [aC,i1,aC v,bP hv2,wZ,k2]
   · rw [if_neg hv2]
     by_cases hu2:u.k = 2
     · rw [if_pos hu2]
       have hu0:=xk hu2
       rw [aC u,dJ] at ho
       obtain ⟨i1,i2,i3,i4⟩:=nU f x (v :: y) (by simp at hf ⊢;omega) hx.tail hy fx.tail fy (by omega) hb
       refine ⟨?_,aQ.cons hx.head i2,by simp at i3 ⊢;omega,by rw [aG,aG u];omega⟩
       rw [aC u,i1,aC u,bP hu2,xg _ _ _ (Ho hy fy (fun s hs=>by simp at hs;subst hs;exact hv2))]
     · rw [if_neg hu2]
       have hn1:min (dP u) (dP v) <= dP u:=Nat.min_le_left ..
       have hn2:min (dP u) (dP v) <= dP v:=Nat.min_le_right ..
       have hone:dP u = min (dP u) (dP v) ∨ dP v = min (dP u) (dP v):=by omega
       generalize min (dP u) (dP v) = n at *
       obtain ⟨a1,a2,a3,a4,a5⟩:=lu hx.head hx.tail hn1
       obtain ⟨b1,b2,b3,b4,b5⟩:=lu hy.head hy.tail hn2
       obtain ⟨p1,p2,p3,p4,p5,p6,p7⟩:=mG hx.head hn1
       have mx:=kC hx.head hx.tail hn1
       have my:=kC hy.head hy.tail hn2
       have hlen:(bF u n x).length + (bF v n y).length <= x.length + y.length + 1:=by
         rcases hone with h | h
         · have:=a4 h;omega
         · have:=b4 h;omega
       have tk:∃ m,(m = Mk.keep ∨ m = Mk.drop) /\ (lq u).take n = List.replicate n m /\ dA (List.replicate n m) = n:=by
         rcases fQ hx.head hn1 with ⟨_,e⟩ | ⟨_,e⟩ | ⟨e,_⟩
         · exact ⟨_,.inl rfl,e,(iw n).1⟩
         · exact ⟨_,.inr rfl,e,(jh n).1⟩
         · exact absurd e hu2
       obtain ⟨m,hm,e',hin⟩:=tk
       have hom:dA ((lq v).take n) = n:=by
         rcases fQ hy.head hn2 with ⟨_,e⟩ | ⟨_,e⟩ | ⟨e,_⟩
         · rw [e];exact (iw n).1
         · rw [e];exact (jh n).1
         · exact absurd e hv2
       rw [mx,my,dJ,dJ,e'] at ho
       rw [my,dZ] at hb
       simp only [List.length_cons] at hf
       obtain ⟨i1,i2,i3,i4⟩:=nU f _ _ (by omega) a1 b1 (iZ hx.head fx.tail hn1) (iZ hy.head fy.tail hn2) (by omega) (by omega)
       rw [mx,my,aG]
       simp only [List.length_cons]
       rcases fQ hy.head hn2 with ⟨hk,e⟩ | ⟨hk,e⟩ | ⟨e,_⟩
       · rw [if_pos hk]
         refine ⟨?_,aQ.app (aQ.cons p1 aQ.nil) i2,by simp only [List.singleton_append,List.length_cons];omega,by rw [List.singleton_append,aG];omega⟩
         rw [List.singleton_append,aC,p3,i1,e,e',ug _ _ _ _ hm]
       · rw [if_neg (by omega),List.nil_append]
         refine ⟨?_,i2,by omega,by omega⟩
         rw [i1,e,e',uh _ _ _ _ hm]
       · exact absurd e hv2
structure sS (l:List Sp):Prop where
 all:aQ l
 bnd:aS dh l <= 1048576
theorem sS.of {l:List Sp} (h:aF l = 0) (hl:l.length <= 1000000000):sS l /\ jK l = aS dh l:=by
 obtain ⟨h1,h2⟩:=(eP l).1 h
 have h3:=jf h1 hl
 exact ⟨⟨h1,by omega⟩,h3⟩
theorem sS.may {l:List Sp} (h:sS l) (hl:l.length <= 1000000000):aF l = 0 /\ jK l = aS dh l:=by
 have h3:=jf h.all hl
 exact ⟨(eP l).2 ⟨h.all,by rw [h3];exact h.bnd⟩,h3⟩
theorem sS.norm {l:List Sp} (h:sS l):sS (norm l) /\ Bd (norm l) = true /\ gK (norm l) = gK l /\ aS dh (norm l) = aS dh l /\ aS bZ (norm l) = aS bZ l /\ bU (norm l) = bU l /\ (norm l).length <= l.length /\ Ii (norm l):=by
 obtain ⟨a,b,c,d,e⟩:=jg l h.all h.bnd
 have hn:=nK l h.all h.bnd
 exact ⟨⟨a,by rw [b];exact h.bnd⟩,hn,vM h.all h.bnd,b,c,d,e,Hg hn⟩
def jG (a b:List Sp):List Sp:=Pm (fM (gK b) (gK a))
def xq (a s:List Sp):List Sp:=Pm (iL (gK s) (gK a))
structure OpN (l:List Sp):Prop where
 ops:sS l
 nf:Bd l = true
theorem OpN.inj {l m:List Sp} (h:OpN l) (h':OpN m) (he:gK l = gK m):l = m:=EH h.ops.all h'.ops.all h.nf h'.nf he
theorem KX {A:List Mk} (h:xW A) (hn:dA A <= 1048576):OpN (Pm A) /\ gK (Pm A) = A:=by
 obtain ⟨h1,h2,h3⟩:=KW h hn
 exact ⟨⟨⟨h1,by have:=(dB h1).1;rw [h3] at this;omega⟩,h2⟩,h3⟩
theorem vP {a b:List Sp} (ha:sS a) (hb:sS b) (ho:aS bZ a = aS dh b) :
   OpN (jG a b) /\ gK (jG a b) = fM (gK b) (gK a) /\ aS dh (jG a b) = aS dh a /\ aS bZ (jG a b) = aS bZ b /\
   aB.norm (jy ((aB.norm a).length + (aB.norm b).length) (aB.norm a) (aB.norm b)) = jG a b /\ aQ (jy ((aB.norm a).length + (aB.norm b).length) (aB.norm a) (aB.norm b)) /\
   aS dh (jy ((aB.norm a).length + (aB.norm b).length) (aB.norm a) (aB.norm b)) <= 1048576 /\ (jy ((aB.norm a).length + (aB.norm b).length) (aB.norm a) (aB.norm b)).length <= a.length + b.length /\
   bU (jy ((aB.norm a).length + (aB.norm b).length) (aB.norm a) (aB.norm b)) <= bU a + bU b /\ (jG a b).length <= a.length + b.length /\ bU (jG a b) <= bU a + bU b:=by
 obtain ⟨a1,a2,a3,a4,a5,a6,a7,a8⟩:=ha.norm
 obtain ⟨b1,b2,b3,b4,b5,b6,b7,b8⟩:=hb.norm
 have ma:=dB ha.all
 have mb:=dB hb.all
 have hm:bJ (gK a) = dA (gK b):=by omega
 obtain ⟨i1,i2,i3,i4⟩:=nT _ _ _ (Nat.le_refl _) a1.all b1.all a8 b8 (by rw [a3,b3];exact hm)
 rw [a3,b3] at i1
 have hsz:=jZ (fun _=>0) (gK b) (gK a) hm
 have hab:=ha.bnd
 obtain ⟨o1,o2⟩:=KX (rP _ _ (yN hb.all) (yN ha.all)) (by omega:dA (fM (gK b) (gK a)) <= 1048576)
 have hc:=dB i2
 rw [i1] at hc
 have hd:=dB o1.ops.all
 rw [o2] at hd
 have hbn:aS dh (jy ((aB.norm a).length + (aB.norm b).length) (aB.norm a) (aB.norm b)) <= 1048576:=by omega
 have he:aB.norm (jy ((aB.norm a).length + (aB.norm b).length) (aB.norm a) (aB.norm b)) = jG a b:=by rw [He i2 hbn,i1];rfl
 obtain ⟨n1,n2,n3,n4,n5⟩:=jg _ i2 hbn
 rw [he] at n1 n2 n3 n4 n5
 exact ⟨o1,o2,by show aS dh (Pm _) = _;omega,by show aS bZ (Pm _) = _;omega,he,i2,hbn,by omega,by omega,by omega,by omega⟩
theorem SS {a s:List Sp} (ha:sS a) (hs:sS s) (ho:aS dh a = aS dh s) (hb:aS bZ s <= 1048576) :
   OpN (xq a s) /\ gK (xq a s) = iL (gK s) (gK a) /\ aS dh (xq a s) = aS bZ s /\
   aB.norm (jF ((aB.norm a).length + (aB.norm s).length) (aB.norm a) (aB.norm s)) = xq a s /\ aQ (jF ((aB.norm a).length + (aB.norm s).length) (aB.norm a) (aB.norm s)) /\
   aS dh (jF ((aB.norm a).length + (aB.norm s).length) (aB.norm a) (aB.norm s)) <= 1048576 /\ (jF ((aB.norm a).length + (aB.norm s).length) (aB.norm a) (aB.norm s)).length <= a.length + s.length /\
   bU (jF ((aB.norm a).length + (aB.norm s).length) (aB.norm a) (aB.norm s)) <= bU a /\ (xq a s).length <= a.length + s.length /\ bU (xq a s) <= bU a:=by
 obtain ⟨a1,a2,a3,a4,a5,a6,a7,a8⟩:=ha.norm
 obtain ⟨b1,b2,b3,b4,b5,b6,b7,b8⟩:=hs.norm
 have ma:=dB ha.all
 have mb:=dB hs.all
 have hm:dA (gK a) = dA (gK s):=by omega
 obtain ⟨i1,i2,i3,i4⟩:=nU _ _ _ (Nat.le_refl _) a1.all b1.all a8 b8 (by rw [a3,b3];exact hm) (by rw [b3];omega)
 rw [a3,b3] at i1
 have hsz:=ku (fun _=>0) (gK s) (gK a) hm
 obtain ⟨o1,o2⟩:=KX (rQ _ _ (yN ha.all)) (by omega:dA (iL (gK s) (gK a)) <= 1048576)
 have hc:=dB i2
 rw [i1] at hc
 have hd:=dB o1.ops.all
 rw [o2] at hd
 have hbn:aS dh (jF ((aB.norm a).length + (aB.norm s).length) (aB.norm a) (aB.norm s)) <= 1048576:=by omega
 have he:aB.norm (jF ((aB.norm a).length + (aB.norm s).length) (aB.norm a) (aB.norm s)) = xq a s:=by rw [He i2 hbn,i1];rfl
 obtain ⟨n1,n2,n3,n4,n5⟩:=jg _ i2 hbn
 rw [he] at n1 n2 n3 n4 n5
 exact ⟨o1,o2,by show aS dh (Pm _) = _;omega,he,i2,hbn,by omega,by omega,by omega,by omega⟩
end Go.Proofs.YtadlnaljicikfaaDoor.aB
