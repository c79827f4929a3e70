/- A part of the proof: a calculus over values, and contracts of functions. No condition. -/
import Derived.Test.YtadlnaljicikfaaDoorZN7
set_option linter.unusedVariables false
set_option linter.unusedSimpArgs false
namespace Go.Proofs.YtadlnaljicikfaaDoor.aI
open Go Go.Lib Go.RowKit
theorem zZ {α:Type}:∀ (a b:List (Nat × α)) (t:Nat),get (a ++ b) t = match get a t with | some x=>some x | none=>get b t
 | [],b,t=>rfl
 | (k,x) :: a,b,t=>by
   rw [List.cons_append,au,au]
   by_cases h:t = k
   · rw [if_pos h,if_pos h]
   · rw [if_neg h,if_neg h];exact zZ a b t
def H6 (J:bJ) (F:List (Nat × aG)) (b:Nat):Prop:=∃ r k L,get F r = some k /\ J k.ver = some L /\ L.nil = false /\ L.b = b
open Classical in
noncomputable def BP (M0:qV) (J:bJ) (F:List (Nat × aG)) (w:World) (b:Nat):Option Obj:=if H6 J F b then w.heap[b]? else M0.x b
section
variable {E:Env} {M0:qV} {w0:World} {c:Nat} {M:Mem} {J:bJ} {w:World} {hp hp' F:List (Nat × aG)}
theorem Inv.aside (inv:Inv E M0 w0 c M J ⟨[],hp,0⟩ #[] w) (hs:subs hp hp') (hF:subs hp F) (hd:∀ r,get hp' r ≠ none -> get F r = none) :
   Inv E ⟨M,J,BP M0 J F w,[]⟩ w0 c M J ⟨[],hp',0⟩ #[] w:=by
 have h1:=kW hs
 have h2:=kW hF
 refine ⟨inv.below,inv.mem,fun b o u h=>.inl h,fun b o u h=>h,inv.glob,fun t x h=>by simp [get_nil] at h,?_,?_,?_,inv.vers,fun r L h=>h,?_⟩
 · intro r k hk
   obtain ⟨L,C,hL,hb,ok⟩:=inv.heap r k (h1 r k hk)
   refine ⟨L,C,hL,fun hn=>⟨(hb hn).1,?_⟩,ok⟩
   show BP M0 J F w L.b = none
   unfold BP
   rw [if_neg,(hb hn).2]
   rintro ⟨r',k',L',g1,g2,g3,g4⟩
   refine inv.apart r r' k k' L L' (h1 r k hk) (h2 r' k' g1) hL g2 hn g3 (fun e=>?_) g4.symm
   subst e
   have:=hd r (by rw [hk];simp)
   rw [g1] at this;cases this
 · intro r r' k k' L L' a b
   exact inv.apart r r' k k' L L' (h1 _ _ a) (h1 _ _ b)
 · intro r k L o u a
   exact inv.owns r k L o u (h1 _ _ a)
 · intro b o h
   have h:BP M0 J F w b = some o:=h
   unfold BP at h
   split at h
   · exact h
   · exact inv.far b o h
theorem afr{G:Prop}(h:G:=by
 obtain ⟨r,k,L,g1,g2,g3,g4⟩:=hb
 obtain ⟨L',C,a1,a2,ok⟩:=inv.heap r k (h2 r k g1)
 rw [g2] at a1;obtain rfl:=Option.some.inj a1
 all_goals(rcases(⟨_⟩:PLift _)with⟨h⟩;exact h)):G:=h
theorem Inv.back {c':Nat} {M':Mem} {J':bJ} {w':World} {hp1:List (Nat × aG)} (inv:Inv E M0 w0 c M J ⟨[],hp,0⟩ #[] w) (hF:subs hp F)
   (i:Inv E ⟨M,J,BP M0 J F w,[]⟩ w0 c' M' J' ⟨[],hp1,0⟩ #[] w') (hd:∀ r,get hp1 r ≠ none -> get F r = none) :
   Inv E M0 w0 c' M' J' ⟨[],hp1 ++ F,0⟩ #[] w':=by
 have h2:=kW hF
 have hx:∀ b,BP M0 J F w b = none -> M0.x b = none /\ ¬ H6 J F b:=by
   intro b h
   by_cases hb:H6 J F b
   · refine' afr
     have:BP M0 J F w b = w.heap[b]?:=if_pos ⟨r,k,L,g1,g2,g3,g4⟩
     rw [this,<- g4,ok.blk g3] at h;cases h
   · have:BP M0 J F w b = M0.x b:=if_neg hb
     exact ⟨by rw [<- this];exact h,hb⟩
 have hw:∀ b,H6 J F b -> w'.heap[b]? = w.heap[b]? /\ M0.x b = none:=by
   intro b hb
   have hb':=hb
   refine' afr
   have hk:=ok.blk g3
   rw [g4] at hk
   have e:BP M0 J F w b = w.heap[b]?:=if_pos hb'
   have:=i.far b _ (e.trans hk)
   exact ⟨this.trans hk.symm,by rw [<- g4];exact (a2 g3).2⟩
 have hget:∀ r k,get (hp1 ++ F) r = some k -> get hp1 r = some k ∨ (get hp1 r = none /\ get F r = some k):=by
   intro r k h
   rw [zZ] at h
   cases hg:get hp1 r with
   | some q=>rw [hg] at h;exact .inl h
   | none=>rw [hg] at h;exact .inr ⟨rfl,h⟩
 refine ⟨i.below,i.mem,?_,fun b o u h=>i.jV b o u (inv.jV b o u h),i.glob,fun t x h=>by simp [get_nil] at h,?_,?_,?_,i.vers,fun r L h=>i.jF r L (inv.jF r L h),?_⟩
 · intro b o u h
   rcases i.kH b o u h with h | ⟨h,hn⟩
   · exact inv.kH b o u h
   · exact .inr ⟨h,(hx b hn).1⟩
 · intro r k hk
   rcases hget r k hk with h | ⟨_,h⟩
   · obtain ⟨L,C,a1,a2,a3⟩:=i.heap r k h
     exact ⟨L,C,a1,fun hn=>⟨(a2 hn).1,(hx _ (a2 hn).2).1⟩,a3⟩
   · obtain ⟨L,C,a1,a2,a3⟩:=inv.heap r k (h2 r k h)
     refine ⟨L,C,i.jF _ _ a1,a2,((a3.mono (M':=M') (J':=J') (fun b o u h=>i.jV b o u h) (fun r L h=>i.jF r L h))).world fun hn=>(hw L.b ⟨r,k,L,h,a1,hn,rfl⟩).1⟩
 · have mix:∀ r r' k k' L L',get hp1 r = some k -> get F r' = some k' -> J' k.ver = some L -> J' k'.ver = some L' -> L.nil = false -> L'.nil = false -> L.b ≠ L'.b:=by
     intro r r' k k' L L' h h' hL hL' hN hN' e
     obtain ⟨L1,C1,a1,a2,a3⟩:=i.heap r k h
     rw [hL] at a1;obtain rfl:=Option.some.inj a1
     obtain ⟨L2,C2,b1,b2,b3⟩:=inv.heap r' k' (h2 r' k' h')
     have:J' k'.ver = some L2:=i.jF _ _ b1
     rw [hL'] at this;obtain rfl:=Option.some.inj this
     exact (hx _ (a2 hN).2).2 ⟨r',k',L',h',b1,hN',e.symm⟩
   intro r r' k k' L L' hk hk' hL hL' hN hN' hne
   rcases hget r k hk with h | ⟨_,h⟩ <;> rcases hget r' k' hk' with h' | ⟨_,h'⟩
   · exact i.apart r r' k k' L L' h h' hL hL' hN hN' hne
   · exact mix r r' k k' L L' h h' hL hL' hN hN'
   · exact fun e=>mix r' r k' k L' L h' h hL' hL hN' hN e.symm
   · obtain ⟨L1,C1,a1,_⟩:=inv.heap r k (h2 r k h)
     obtain ⟨L2,C2,b1,_⟩:=inv.heap r' k' (h2 r' k' h')
     have e1:J' k.ver = some L1:=i.jF _ _ a1
     have e2:J' k'.ver = some L2:=i.jF _ _ b1
     rw [hL] at e1;obtain rfl:=Option.some.inj e1
     rw [hL'] at e2;obtain rfl:=Option.some.inj e2
     exact inv.apart r r' k k' L L' (h2 r k h) (h2 r' k' h') a1 b1 hN hN' hne
 · intro r k L o u hk hL hN hu
   rcases hget r k hk with h | ⟨_,h⟩
   · exact i.owns r k L o u h hL hN hu
   · obtain ⟨L1,C1,a1,_⟩:=inv.heap r k (h2 r k h)
     have e1:J' k.ver = some L1:=i.jF _ _ a1
     rw [hL] at e1;obtain rfl:=Option.some.inj e1
     rcases i.kH L.b o u hu with hm | ⟨_,hn⟩
     · exact inv.owns r k L o u (h2 r k h) a1 hN hm
     · exact absurd ⟨r,k,L,h,a1,hN,rfl⟩ (hx _ hn).2
 · intro b o h
   by_cases hb:H6 J F b
   · rw [(hw b hb).2] at h;cases h
   · exact i.far b o (by show BP M0 J F w b = some o;rw [<- h];exact if_neg hb)
end
namespace Ev
theorem sO {E:Env} {N nm:Nat} {f:FuncId} {args args':List AV} {hp hp':List (Nat × aG)} {ct:Nat} {K:AV -> List (Nat × aG) -> Nat -> Prop} {R:AV -> List (Nat × aG) -> Prop} (F:List (Nat × aG))
   (hc:dn E N f args' hp' R) (ha:args = args') (hs:subs hp hp') (hF:subs hp F) (hd:∀ r,get hp' r ≠ none -> get F r = none)
   (h:∀ r hp1,R r hp1 -> (∀ q,get hp1 q ≠ none -> get F q = none) /\ ∀ c',ct + 8 <= c' -> K r (hp1 ++ F) c'):dK E nm f args hp ct K:=by
 subst ha
 refine ⟨N,fun M0 w0 c M J w vs inv hn hr=>?_⟩
 obtain ⟨a,b⟩:=hc _ w0 c M J w vs (inv.aside hs hF hd) hn hr
 refine ⟨a,b.mono ?_⟩
 rintro e w' ⟨v,r,hp1,c',M',J',x1,x2,x3,x4,x5,x6⟩
 obtain ⟨d1,d2⟩:=h r hp1 x2
 exact ⟨v,r,hp1 ++ F,c',M',J',x1,d2,inv.back hF x3 d1,x4,x5,x6⟩
end Ev
end Go.Proofs.YtadlnaljicikfaaDoor.aI
