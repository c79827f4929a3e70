/- A part of the proof: a calculus over values, and contracts of functions. No condition. -/
import Derived.Test.YtadlnaljicikfaaDoorZC6
import Derived.MapKept
set_option linter.unusedVariables false
set_option linter.unusedSimpArgs false
namespace Go.Proofs.YtadlnaljicikfaaDoor.aB
open Go Go.RowKit Go.MapKept
def GK (o:Obj) (S:List Int):Prop:=∃ es clk,o = .map es clk /\ (∀ x ∈ es.toList,∃ k,x.key = .int .i64 k /\ k ∈ S /\ x.val = .bool true) /\ ∀ k ∈ S,∃ x ∈ es.toList,x.key = .int .i64 k
theorem GK.new:GK (.map #[] 0) []:=⟨_,_,rfl,fun x h=>by simp at h,fun k h=>by simp at h⟩
section
variable {P:Program} {w:World} {mty kt et:TypeId} {r:Nat} {o:Obj} {S:List Int}
theorem ac2{G:Prop}(h:G:=by
 obtain ⟨es,clk,rfl,h1,h2⟩:=hO
 have hk:IsKey (.int .i64) (.int .i64 k):=rfl
 have hks:∀ x ∈ es.toList,IsKey (.int .i64) x.key:=fun x hx=>by obtain ⟨k',e,_⟩:=h1 x hx;rw [e];rfl
 rcases Go.MapKept.findNow_spec hk es.toList 0 hks with ⟨f1,f2⟩ | ⟨j,e,f1,f2,f3⟩
 all_goals(rcases(⟨_⟩:PLift _)with⟨h⟩;exact h)):G:=h
theorem PY (hm:P.underlying mty = some (.map kt et)) (hd:P.underlying kt = some (.int .i64)) (hb:w.heap[r]? = some o) (hO:GK o S) (k:Int) :
   ∃ o',(Instr.mapUpdate mty (.map (some r)) (.int .i64 k) (.bool true)).run P w = .ok () { w with heap:=w.heap.setIfInBounds r o' } /\ GK o' (k :: S):=by
 refine' ac2
 · refine ⟨.map (es.push { key:=.int .i64 k,val:=.bool true,born:=clk }) (clk + 1),?_,_,_,rfl,?_,?_⟩
   · simp [Instr.mapUpdate,run_underlying hm,Go.MapKept.run_getObj_map hb,Go.MapKept.run_checkKey hd hk,Go.MapKept.run_findKey hd f1,Go.MapKept.run_setObj_map _ hb,Result.andThen]
   · intro x hx
     simp only [Array.toList_push,List.mem_append,List.mem_singleton] at hx
     rcases hx with hx | rfl
     · obtain ⟨k',a,b,c⟩:=h1 x hx
       exact ⟨k',a,List.mem_cons_of_mem _ b,c⟩
     · exact ⟨k,rfl,List.mem_cons_self,rfl⟩
   · intro k' hk'
     simp only [Array.toList_push,List.mem_append,List.mem_singleton]
     rcases List.mem_cons.1 hk' with rfl | hk'
     · exact ⟨_,.inr rfl,rfl⟩
     · obtain ⟨x,a,b⟩:=h2 k' hk'
       exact ⟨x,.inl a,b⟩
 · have hj:es[j]? = some e:=by simpa using f2
   refine ⟨.map (es.modify j fun e=>{ e with key:=.int .i64 k,val:=.bool true }) clk,?_,_,_,rfl,?_,?_⟩
   · simp [Instr.mapUpdate,run_underlying hm,Go.MapKept.run_getObj_map hb,Go.MapKept.run_checkKey hd hk,Go.MapKept.run_findKey hd f1,hj,f3,Go.MapKept.run_keyThatStays hk,Go.MapKept.run_setObj_map _ hb,Result.andThen]
   · intro x hx
     obtain ⟨i,hi⟩:=List.getElem?_of_mem hx
     rw [Array.getElem?_toList,Array.getElem?_modify] at hi
     split at hi
     · rename_i hij
       rw [Option.map_eq_some_iff] at hi
       obtain ⟨y,hy,rfl⟩:=hi
       exact ⟨k,rfl,List.mem_cons_self,rfl⟩
     · obtain ⟨k',a,b,c⟩:=h1 x (by rw [Array.mem_toList_iff];exact Array.mem_of_getElem? hi)
       exact ⟨k',a,List.mem_cons_of_mem _ b,c⟩
   · have key:∀ k',(∃ x ∈ es.toList,x.key = .int .i64 k') -> ∃ x ∈ (es.modify j fun e=>{ e with key:=.int .i64 k,val:=.bool true }).toList,x.key = .int .i64 k':=by
       rintro k' ⟨x,hx,hxk⟩
       obtain ⟨i,hi⟩:=List.getElem?_of_mem hx
       rw [Array.getElem?_toList] at hi
       by_cases hij:j = i
       · subst hij
         rw [hj] at hi
         obtain rfl:=Option.some.inj hi
         refine ⟨{ e with key:=.int .i64 k,val:=.bool true },?_,by rw [<- hxk,f3]⟩
         rw [Array.mem_toList_iff]
         exact Array.mem_of_getElem? (i:=j) (by rw [Array.getElem?_modify,if_pos rfl,hj];rfl)
       · refine ⟨x,?_,hxk⟩
         rw [Array.mem_toList_iff]
         exact Array.mem_of_getElem? (i:=i) (by rw [Array.getElem?_modify,if_neg hij,hi])
     intro k' hk'
     rcases List.mem_cons.1 hk' with rfl | hk'
     · exact key _ ⟨e,by rw [Array.mem_toList_iff];exact Array.mem_of_getElem? hj,f3⟩
     · exact key _ (h2 k' hk')
theorem ajh (hm:P.underlying mty = some (.map kt et)) (hd:P.underlying kt = some (.int .i64)) (hz:∀ w,(zeroValue et).run P w = .ok (.bool false) w) (hb:w.heap[r]? = some o) (hO:GK o S) (k:Int) :
   (Instr.lookup mty (.map (some r)) (.int .i64 k) false).run P w = .ok (.bool (decide (k ∈ S))) w:=by
 refine' ac2
 · have:¬ k ∈ S:=fun h=>by obtain ⟨x,a,b⟩:=h2 k h;exact f2 x a b
   simp [Instr.lookup,run_underlying hm,Go.MapKept.run_getObj_map hb,Go.MapKept.run_checkKey hd hk,Go.MapKept.run_findKey hd f1,Result.andThen,hz,this]
 · have hj:es[j]? = some e:=by simpa using f2
   obtain ⟨k',a,b,c⟩:=h1 e (by rw [Array.mem_toList_iff];exact Array.mem_of_getElem? hj)
   have:k ∈ S:=by rw [f3] at a;injection a with _ a;rw [a];exact b
   simp [Instr.lookup,run_underlying hm,Go.MapKept.run_getObj_map hb,Go.MapKept.run_checkKey hd hk,Go.MapKept.run_findKey hd f1,Result.andThen,c,this]
end
section
variable {E:Env} {M0:pR} {w0:World} {c:Nat} {M:Mem} {J:cO} {s:St} {tm:Array Value} {w:World}
theorem pO.at {w':World} {L:Loc} {k:aG} {C:Array Value} (h:pO M J w L k C) (hb:L.nil = false -> w'.heap[L.b]? = w.heap[L.b]?):pO M J w' L k C :=
 ⟨fun hn=>(hb hn).trans (h.blk hn),h.none,h.size,h.fits,h.gJ,h.sz,h.len,h.cell,h.cap⟩
theorem Inv.QL (inv:Inv E M0 w0 c M J s tm w) {b0:Nat} {es:Array MapEntry} {clk:Nat} (hx:M0.x b0 = some (.map es clk)) (hb:w0.heap.size <= b0) (o':Obj) :
   Inv E ⟨M0.m,M0.j,fun b=>if b = b0 then some o' else M0.x b,M0.d⟩ w0 c M J s tm { w with heap:=w.heap.setIfInBounds b0 o' }:=by
 have hw:=inv.far b0 _ hx
 obtain ⟨g1,g2⟩:=heap_set (w:=w) (o':=o') hw
 have MN:∀ b,M0.x b = none -> (if b = b0 then some o' else M0.x b) = none:=fun b h=>by
   rw [if_neg (by rintro rfl;rw [hx] at h;cases h)];exact h
 refine ⟨?_,?_,fun b o u h=>(inv.kD b o u h).imp id (fun h=>⟨h.1,MN b h.2⟩),inv.jM,inv.glob,inv.slot,?_,inv.apart,inv.owns,inv.vers,inv.jE,?_⟩
 · exact inv.below.trans ⟨rfl,rfl,rfl,by simp,fun k hk=>g2 k (by omega)⟩
 · intro b o u h
   obtain ⟨a1,a2⟩:=inv.mem b o u h
   refine ⟨?_,a2⟩
   by_cases e:b = b0
   · subst e
     rw [World.cell?,hw] at a1;cases a1
   · rw [World.cell?_of_block (w:=w) (g2 b e)];exact a1
 · intro r k h
   obtain ⟨L,C,a1,a2,a3⟩:=inv.heap r k h
   exact ⟨L,C,a1,fun hn=>⟨(a2 hn).1,MN _ (a2 hn).2⟩,a3.at fun hn=>g2 _ (by rintro e;have:=(a2 hn).2;rw [e,hx] at this;cases this)⟩
 · intro b o h
   by_cases e:b = b0
   · subst e;simp only [if_true] at h;exact g1.trans h
   · have h:(if b = b0 then some o' else M0.x b) = some o:=h
     rw [if_neg e] at h;exact (g2 b e).trans (inv.far b o h)
theorem Inv.adD (inv:Inv E M0 w0 c M J s tm w) (o:Obj) :
   Inv E ⟨M0.m,M0.j,fun b=>if b = w.heap.size then some o else M0.x b,M0.d⟩ w0 c M J s tm (w.alloc o):=by
 obtain ⟨g1,g2⟩:=heap_alloc w o
 have QM:∀ b,b < w.heap.size -> M0.x b = none -> (if b = w.heap.size then some o else M0.x b) = none:=fun b hb h=>by rw [if_neg (by omega)];exact h
 have hlt:∀ b o u,M b o = some u -> b < w.heap.size:=fun b o u h=>World.block_lt_of_cell? w ⟨b,o,none⟩ (inv.mem b o u h).1
 refine ⟨inv.below.alloc inv.below.size o,?_,fun b o' u h=>(inv.kD b o' u h).imp id (fun h'=>⟨h'.1,QM b (hlt b o' u h) h'.2⟩),inv.jM,inv.glob,inv.slot,?_,inv.apart,inv.owns,inv.vers,inv.jE,?_⟩
 · intro b o' u h
   obtain ⟨a1,a2⟩:=inv.mem b o' u h
   exact ⟨by rw [World.cell?_of_block (w:=w) (g2 b (hlt b o' u h))];exact a1,a2⟩
 · intro r k h
   obtain ⟨L,C,a1,a2,a3⟩:=inv.heap r k h
   have hL:L.nil = false -> L.b < w.heap.size:=fun hn=>(Array.getElem?_eq_some_iff.1 (a3.blk hn)).1
   exact ⟨L,C,a1,fun hn=>⟨(a2 hn).1,QM _ (hL hn) (a2 hn).2⟩,a3.at fun hn=>g2 _ (hL hn)⟩
 · intro b o' h
   by_cases e:b = w.heap.size
   · subst e;simp only [if_true] at h;exact g1.trans h
   · have h:(if b = w.heap.size then some o else M0.x b) = some o':=h
     rw [if_neg e] at h;exact (g2 b (inv.Ew h)).trans (inv.far b o' h)
theorem Inv.X7 {x':Nat -> Option Obj} (inv:Inv E ⟨M0.m,M0.j,x',M0.d⟩ w0 c M J s tm w) {b0:Nat} (h0:M0.x b0 = none) (h:∀ b,b ≠ b0 -> x' b = M0.x b):Inv E M0 w0 c M J s tm w:=by
 have QN:∀ b,x' b = none -> M0.x b = none:=fun b hb=>by
   by_cases e:b = b0
   · rw [e];exact h0
   · rw [<- h b e];exact hb
 exact ⟨inv.below,inv.mem,fun b o u h=>(inv.kD b o u h).imp id (fun h=>⟨h.1,QN b h.2⟩),inv.jM,inv.glob,inv.slot,
   fun r k h=>let ⟨L,C,a1,a2,a3⟩:=inv.heap r k h;⟨L,C,a1,fun hn=>⟨(a2 hn).1,QN _ (a2 hn).2⟩,a3⟩,inv.apart,inv.owns,inv.vers,inv.jE,
   fun b o hb=>inv.far b o (by
     show x' b = some o
     rw [h b (by rintro rfl;rw [h0] at hb;cases hb)];exact hb)⟩
end
def MO (E:Env) (M0:pR) (w0:World) (nt b0:Nat) (K:Exit -> St -> List Int -> Prop) (e:Exit) (a:Act) (w:World):Prop :=
 ∃ s M J x' o S,K e s S /\ x' b0 = some o /\ GK o S /\ (∀ b,b ≠ b0 -> x' b = M0.x b) /\ Inv E ⟨M0.m,M0.j,x',M0.d⟩ w0 s.ctr M J s a.tmps w /\ a.tmps.size = nt /\ a.defers = M0.d
def U6 (E:Env) (nt:Nat) (cc:CC) (b0:Nat) (K:Exit -> St -> List Int -> Prop) (s:St) (S:List Int):Prop :=
 ∀ c,comp c = cc -> bQ nt c = true -> ∀ (M0:pR) (w0:World) (M:Mem) (J:cO) (tm:Array Value) (w:World) (o:Obj),M0.x b0 = some o -> GK o S -> w0.heap.size <= b0 ->
   Inv E M0 w0 s.ctr M J s tm w -> tm.size = nt -> c.wp E.P (MO E M0 w0 nt b0 K) ⟨tm,M0.d⟩ w
def QO (f:St -> List Int -> Prop) (K:Exit -> St -> List Int -> Prop):Exit -> St -> List Int -> Prop
 | .normal,s,S=>f s S
 | e,s,S=>K e s S
def FC (id:Nat) (K:Exit -> St -> List Int -> Prop):Exit -> St -> List Int -> Prop
 | .exit i,s,S=>if i = id then K .normal s S else K (.exit i) s S
 | e,s,S=>K e s S
namespace Ev
section
variable {E:Env} {T:Tab} {hs:List FuncId} {nt b0:Nat} {K:Exit -> St -> List Int -> Prop} {S:List Int}
theorem U7 {cc:CC} {s:St} (h:Wp E nt cc (fun e s'=>K e s' S) s):U6 E nt cc b0 K s S:=by
 intro c hc hok M0 w0 M J tm w o hx hO hb inv hs
 refine wp_mono (h c hc hok M0 w0 M J tm w inv hs) ?_
 rintro e a w' ⟨s',M',J',hk,hi,hz,hd⟩
 exact ⟨s',M',J',M0.x,o,S,hk,hx,hO,fun _ _=>rfl,hi,hz,hd⟩
theorem MO.base {M0:pR} {w0:World} {x':Nat -> Option Obj} {e:Exit} {a:Act} {w:World} (hx:∀ b,b ≠ b0 -> x' b = M0.x b) (h:MO E ⟨M0.m,M0.j,x',M0.d⟩ w0 nt b0 K e a w):MO E M0 w0 nt b0 K e a w:=by
 obtain ⟨s,M,J,x2,o,S,hk,h1,h2,h3,hi,hz,hd⟩:=h
 exact ⟨s,M,J,x2,o,S,hk,h1,h2,fun b hb=>(h3 b hb).trans (hx b hb),hi,hz,hd⟩
theorem Iz {a b:CC} {s:St} (h:U6 E nt a b0 (QO (U6 E nt b b0 K) K) s S):U6 E nt (.seq a b) b0 K s S:=by
 intro c hc hok M0 w0 M J tm w o hx hO hb inv hs
 obtain ⟨a',b',rfl,ha,hb'⟩:=uT hc
 simp only [bQ,Bool.and_eq_true] at hok
 refine wp_seq (wp_mono (h a' ha hok.1 M0 w0 M J tm w o hx hO hb inv hs) ?_)
 rintro e ⟨tm',ds'⟩ w' ⟨s',M',J',x',o',S',hk,h1,h2,h3,hi,hz,hd⟩
 simp only at hd;subst hd
 cases e <;> simp only [Exit.then]
 case normal=>exact wp_mono (hk b' hb' hok.2 ⟨M0.m,M0.j,x',M0.d⟩ w0 M' J' tm' w' o' h1 h2 hb hi hz) (fun e a w h=>MO.base h3 h)
 all_goals exact ⟨s',M',J',x',o',S',hk,h1,h2,h3,hi,hz,rfl⟩
theorem oZ {a b:CC} {s:St} (h:Wp E nt a (kU (fun s'=>U6 E nt b b0 K s' S) (fun e s'=>K e s' S)) s):U6 E nt (.seq a b) b0 K s S:=by
 refine Iz (U7 (Wp.mono h fun e s' h'=>?_))
 cases e <;> exact h'
theorem Ef {s:St} {i:Nat} {b:CC} (h:U6 E nt b b0 (FC i K) s S):U6 E nt (.block i b) b0 K s S:=by
 intro c' e hok M0 w0 M J tm w o hx hO hb inv hs
 obtain ⟨a,rfl,rfl⟩:=EO e
 simp only [bQ] at hok
 refine wp_block (wp_mono (h a rfl hok M0 w0 M J tm w o hx hO hb inv hs) ?_)
 rintro e a w' ⟨s',M',J',x',o',S',hk,h1,h2,h3,hi,hz,hd⟩
 cases e <;> simp only [Exit.inBlock]
 case exit i =>
   simp only [FC] at hk
   split
   · rename_i e;rw [if_pos e] at hk;exact ⟨s',M',J',x',o',S',hk,h1,h2,h3,hi,hz,hd⟩
   · rename_i e;rw [if_neg e] at hk;exact ⟨s',M',J',x',o',S',hk,h1,h2,h3,hi,hz,hd⟩
 all_goals exact ⟨s',M',J',x',o',S',hk,h1,h2,h3,hi,hz,hd⟩
theorem X8 {d:CC} {s:St} (I:Nat -> St -> List Int -> Prop) (h0:To E (fun s'=>∃ n,I n s' S) s)
   (round:∀ n s1 S1,I n s1 S1 -> U6 E nt d b0 (QO (fun s' S'=>Again E (fun m st=>I m st S') n s') K) s1 S1):U6 E nt (.loop d) b0 K s S:=by
 intro c' e hok M0 w0 M J tm w o hx hO hb inv hs
 obtain ⟨c,rfl,rfl⟩:=Bz e
 simp only [bQ] at hok
 obtain ⟨s0,hg,n0,hI⟩:=h0
 obtain ⟨M',J',i0⟩:=hg M0 w0 M J tm w inv
 refine wp_loop_ghost (fun n a w=>∃ s M J x' o S,I n s S /\ x' b0 = some o /\ GK o S /\ (∀ b,b ≠ b0 -> x' b = M0.x b) /\ Inv E ⟨M0.m,M0.j,x',M0.d⟩ w0 s.ctr M J s a.tmps w /\ a.tmps.size = nt /\ a.defers = M0.d) n0 ⟨s0,M',J',M0.x,o,S,hI,hx,hO,fun _ _=>rfl,i0,hs,rfl⟩ ?_
 rintro n ⟨tm',ds'⟩ w' ⟨s1,M1,J1,x1,o1,S1,hI1,h1,h2,h3,i1,hz,hd⟩
 simp only at hd;subst hd
 refine wp_mono (round n s1 S1 hI1 c rfl hok ⟨M0.m,M0.j,x1,M0.d⟩ w0 M1 J1 tm' w' o1 h1 h2 hb i1 hz) ?_
 rintro e a w'' ⟨s2,M2,J2,x2,o2,S2,hk,k1,k2,k3,i2,hz2,hd2⟩
 have k4:∀ b,b ≠ b0 -> x2 b = M0.x b:=fun b hb=>(k3 b hb).trans (h3 b hb)
 cases e <;> simp only [Exit.then]
 case normal =>
   obtain ⟨s3,hg3,m,hm,hI3⟩:=hk
   obtain ⟨M3,J3,i3⟩:=hg3 ⟨M0.m,M0.j,x2,M0.d⟩ w0 M2 J2 a.tmps w'' i2
   exact ⟨m,hm,s3,M3,J3,x2,o2,S2,hI3,k1,k2,k4,i3,hz2,hd2⟩
 all_goals exact ⟨s2,M2,J2,x2,o2,S2,hk,k1,k2,k4,i2,hz2,hd2⟩
theorem nG {f:St -> List Int -> Prop} {s:St} (h:f s S):QO f K .normal s S:=h
theorem QS {f:St -> List Int -> Prop} {s:St} {i:Nat} (h:K (.exit i) s S):QO f K (.exit i) s S:=h
theorem JX {s:St} {i:Nat} (h:K .normal s S):FC i K .normal s S:=h
theorem QT {s:St} {i:Nat} (h:K .normal s S):FC i K (.exit i) s S:=by simp only [FC,if_true];exact h
end
end Ev
end Go.Proofs.YtadlnaljicikfaaDoor.aB
namespace Go.Proofs.YtadlnaljicikfaaDoor.aB
open Go Go.RowKit
theorem rD {ops:Array Oper} {p:Nat × Oper} {i:Nat} {d:Option Tmp} {op:Op} (h:insOf ops p = some ⟨i,d,op,none⟩):p.2.guard = none /\ p.1 = i /\ p.2.dst = d /\ p.2.op = op:=by
 simp only [insOf] at h
 split at h
 · rename_i hg;injection Option.some.inj h with h1 h2 h3;exact ⟨hg,h1,h2,h3⟩
 · rw [Option.map_eq_some_iff] at h;obtain ⟨t',_,h'⟩:=h;injection h' with _ _ _ h4;cases h4
theorem FD {ops:Array Oper} {p:Nat × Oper} {L:List (Nat × Oper)} {a:Ins} {l:List Ins} (h:insL ops (p :: L) = some (a :: l)):insOf ops p = some a /\ insL ops L = some l:=by
 simp only [insL] at h
 split at h
 · rename_i a' r ha hr
   obtain h:=Option.some.inj h
   injection h with h1 h2
   subst h1;subst h2
   exact ⟨ha,hr⟩
 · cases h
theorem U8 {c:Code} {id:Nat} {i j k:Nat} {a b d:Option Tmp} {x y z:Op} (h:comp c = .reg id [⟨i,a,x,none⟩,⟨j,b,y,none⟩,⟨k,d,z,none⟩]) :
   ∃ ops o1 o2 o3,c = .region id ops false /\ List.range ops.size = [i,j,k] /\ ops[i]? = some o1 /\ ops[j]? = some o2 /\ ops[k]? = some o3 /\ (o1.guard = none /\ o1.dst = a /\ o1.op = x) /\ (o2.guard = none /\ o2.dst = b /\ o2.op = y) /\ (o3.guard = none /\ o3.dst = d /\ o3.op = z):=by
 obtain ⟨ops,rfl,hl⟩:=LP h
 obtain ⟨z1,z2⟩:=yh ops
 change insL ops (ops.toList.zipIdx.map fun p=>(p.2,p.1)) = _ at hl
 generalize ops.toList.zipIdx.map (fun p=>(p.2,p.1)) = L at hl z1 z2
 have hlen:=Fe hl
 obtain ⟨p,q,r,rfl⟩:∃ p q r,L = [p,q,r]:=by
   rcases L with _ | ⟨p,_ | ⟨q,_ | ⟨r,_ | ⟨s,L⟩⟩⟩⟩
   · cases hlen
   · cases hlen
   · cases hlen
   · exact ⟨_,_,_,rfl⟩
   · simp at hlen
 obtain ⟨ha,hl⟩:=FD hl
 obtain ⟨hb,hl⟩:=FD hl
 obtain ⟨hd,_⟩:=FD hl
 obtain ⟨a1,a2,a3,a4⟩:=rD ha
 obtain ⟨b1,b2,b3,b4⟩:=rD hb
 obtain ⟨d1,d2,d3,d4⟩:=rD hd
 subst a2;subst b2;subst d2
 exact ⟨ops,p.2,q.2,r.2,rfl,by rw [<- z2];rfl,z1 p (by simp),z1 q (by simp),z1 r (by simp),⟨a1,a3,a4⟩,⟨b1,b3,b4⟩,⟨d1,d3,d4⟩⟩
section
variable {P:Program} {ops:Array Oper} {Q:Exit -> Act -> World -> Prop} {next:Act -> World -> Prop} {a:Act} {w w':World} {o:Oper}
theorem Ar {i:Nat} {rest:List Nat} (ho:ops[i]? = some o) (hg:o.guard = none) (h:o.wp P a w (wpOps P ops Q rest) Q):wpOps P ops Q (i :: rest) a w:=by
 simp only [wpOps,ho]
 rw [if_pos (by simp [Region.wanted,hg])]
 exact .inl h
theorem QU {i:Nat} {K:Act -> World -> Prop} (ho:ops[i]? = some o) (hg:o.guard = none) (h:o.wp P a w K Q):wpOp P ops Q i K a w:=by
 simp only [wpOp,ho]
 rw [if_pos (by simp [Region.wanted,hg])]
 exact .inl h
theorem wp_move {x:Operand} (h:o.op = .move x) (k:next (a.put o.dst (a.eval x)) w):o.wp P a w next Q:=by
 unfold Oper.wp execOp
 rw [h]
 simpa [Oper.upon_value] using k
theorem X9 {t:TypeId} {m k x:Operand} (h:o.op = .mapUpdate t m k x ∨ o.op = .insert t m k x) (hr:(Instr.mapUpdate t (a.eval m) (a.eval k) (a.eval x)).run P w = .ok () w') (hk:next (a.put o.dst undef) w'):o.wp P a w next Q:=by
 unfold Oper.wp execOp
 rcases h with h | h <;> rw [h] <;> simpa [hr,Result.andThen,Oper.upon_skip] using hk
theorem aji {t:TypeId} {m k:Operand} {v:Value} (h:o.op = .lookup t m k false) (hr:(Instr.lookup t (a.eval m) (a.eval k) false).run P w = .ok v w) (hk:next (a.put o.dst v) w):o.wp P a w next Q:=by
 unfold Oper.wp execOp
 rw [h]
 simpa [hr,Result.andThen,Oper.upon_value] using hk
theorem adE {t:TypeId} (h:o.op = .makeMap t none) (hk:next (a.put o.dst (.map (some w.heap.size))) (w.alloc (.map #[] 0))):o.wp P a w next Q:=by
 unfold Oper.wp execOp
 rw [h]
 simpa [Instr.makeMap,Result.andThen,Oper.upon_value] using hk
end
theorem JY {nt:Nat} {ops:Array Oper} (hok:uI nt ops = true) {i:Nat} {o:Oper} (ho:ops[i]? = some o):∀ t,o.dst = some t -> t < nt:=by
 intro t ht
 unfold uI at hok
 rw [List.all_eq_true] at hok
 have:=hok o (by rw [Array.mem_toList_iff];exact Array.mem_of_getElem? ho)
 rw [ht] at this;simpa using this
theorem Inv.eval {E:Env} {M0:pR} {w0:World} {c:Nat} {M:Mem} {J:cO} {s:St} {a:Act} {w:World} (inv:Inv E M0 w0 c M J s a.tmps w) {t:Nat} {x:Value} (h:get s.sl t = some (.v x)):a.eval (.tmp t) = x:=by
 obtain ⟨v,hv,hr⟩:=inv.slot t _ h
 obtain rfl:=hr.dn
 simp [Act.eval,hv]
namespace Ev
section
variable {E:Env} {nt b0:Nat} {K:Exit -> St -> List Int -> Prop} {S:List Int} {sl:List (Nat × AV)} {hp:List (Nat × aG)} {ct:Nat} {mty kt et:TypeId}
theorem aa0{G:Prop}(h:G:=by
 refine Ar e2 g2 (wp_move p2 ?_)
 have i2:=Inv.put i1 (d:=o2.dst) (x:=.v (.int .i64 x)) (v:=.int .i64 x) (.pure (.v _)) (by rw [z1,hs];exact n2) (ds:=M0.d)
 rw [Inv.eval (a:=⟨tm1,M0.d⟩) i1 hq]
 have z2:=jG ⟨tm1,M0.d⟩ o2.dst (.int .i64 x)
 have q2:=put_defers ⟨tm1,M0.d⟩ o2.dst (.int .i64 x)
 rw [d2] at i2 z2 q2 ⊢
 generalize (⟨tm1,M0.d⟩:Act).put (some b) (.int .i64 x) = a2 at i2 z2 q2 ⊢
 obtain ⟨tm2,ds2⟩:=a2
 simp only at z2 q2 i2;subst q2
 have i2:Inv E M0 w0 ct M J ⟨(b,.v (.int .i64 x)) :: (a,.v (.map (some b0))) :: sl,hp,ct⟩ tm2 w:=i2
 all_goals(rcases(⟨_⟩:PLift _)with⟨h⟩;exact h)):G:=h
theorem abk{G:Prop}(h:G:=by
 refine Ar e1 g1 (wp_move p1 ?_)
 have i1:=Inv.put inv (d:=o1.dst) (x:=.v (.map (some b0))) (v:=.map (some b0)) (.pure (.v _)) (by rw [hs];exact n1) (ds:=M0.d)
 rw [Inv.eval (a:=⟨tm,M0.d⟩) inv hp']
 have z1:=jG ⟨tm,M0.d⟩ o1.dst (.map (some b0))
 have q1:=put_defers ⟨tm,M0.d⟩ o1.dst (.map (some b0))
 rw [d1] at i1 z1 q1 ⊢
 generalize (⟨tm,M0.d⟩:Act).put (some a) (.map (some b0)) = a1 at i1 z1 q1 ⊢
 obtain ⟨tm1,ds1⟩:=a1
 simp only at z1 q1 i1;subst q1
 have i1:Inv E M0 w0 ct M J ⟨(a,.v (.map (some b0))) :: sl,hp,ct⟩ tm1 w:=i1
 all_goals(rcases(⟨_⟩:PLift _)with⟨h⟩;exact h)):G:=h
theorem ad7{G:Prop}(h:G:=by
 obtain ⟨ops,o1,o2,o3,rfl,hr,e1,e2,e3,⟨g1,d1,p1⟩,⟨g2,d2,p2⟩,⟨g3,d3,p3⟩⟩:=U8 hc
 simp only [bQ] at hok
 refine wp_region ?_
 rw [hr]
 have n1:=JY hok e1
 have n2:=JY hok e2
 all_goals(rcases(⟨_⟩:PLift _)with⟨h⟩;exact h)):G:=h
theorem ags{G:Prop}(h:G:=by
 have f1:=Inv.eval (a:=⟨tm2,M0.d⟩) i2 hab
 have f2:=Inv.eval (a:=⟨tm2,M0.d⟩) i2 (t:=b) (x:=.int .i64 x) (by simp [aF])
 all_goals(rcases(⟨_⟩:PLift _)with⟨h⟩;exact h)):G:=h
theorem alm (hm:E.P.underlying mty = some (.map kt et)) (hd:E.P.underlying kt = some (.int .i64)) {id i j k a b p q:Nat} {x:Int} (hp':get sl p = some (.v (.map (some b0)))) (hq:get ((a,.v (.map (some b0))) :: sl) q = some (.v (.int .i64 x))) (hab:get ((b,.v (.int .i64 x)) :: (a,.v (.map (some b0))) :: sl) a = some (.v (.map (some b0))))
   (h:K .normal ⟨(b,.v (.int .i64 x)) :: (a,.v (.map (some b0))) :: sl,hp,ct⟩ (x :: S)) :
   U6 E nt (.reg id [⟨i,some a,.move (.tmp p),none⟩,⟨j,some b,.move (.tmp q),none⟩,⟨k,none,.mapUpdate mty (.tmp a) (.tmp b) (.const (.bool true)),none⟩]) b0 K ⟨sl,hp,ct⟩ S:=by
 intro c hc hok M0 w0 M J tm w o hx hO hb inv hs
 refine' ad7
 refine' abk
 refine' aa0
 obtain ⟨o',hrun,hO'⟩:=PY hm hd (inv.far b0 o hx) hO x
 obtain ⟨es,clk,rfl,_⟩:=hO
 refine' ags
 refine Ar e3 g3 (X9 (.inl p3) (w':={ w with heap:=w.heap.setIfInBounds b0 o' }) ?_ ?_)
 · rw [f1,f2];exact hrun
 rw [d3]
 have i3:=Inv.QL i2 hx hb o'
 exact ⟨_,M,J,(fun b=>if b = b0 then some o' else M0.x b),o',_,h,if_pos rfl,hO',fun b hb=>if_neg hb,i3,by show tm2.size = nt;omega,rfl⟩
theorem aln (hm:E.P.underlying mty = some (.map kt et)) (hd:E.P.underlying kt = some (.int .i64)) (hz:∀ w,(zeroValue et).run E.P w = .ok (.bool false) w) {id i j k a b d p q:Nat} {x:Int} (hp':get sl p = some (.v (.map (some b0)))) (hq:get ((a,.v (.map (some b0))) :: sl) q = some (.v (.int .i64 x))) (hab:get ((b,.v (.int .i64 x)) :: (a,.v (.map (some b0))) :: sl) a = some (.v (.map (some b0))))
   (h:K .normal ⟨(d,.v (.bool (decide (x ∈ S)))) :: (b,.v (.int .i64 x)) :: (a,.v (.map (some b0))) :: sl,hp,ct⟩ S) :
   U6 E nt (.reg id [⟨i,some a,.move (.tmp p),none⟩,⟨j,some b,.move (.tmp q),none⟩,⟨k,some d,.lookup mty (.tmp a) (.tmp b) false,none⟩]) b0 K ⟨sl,hp,ct⟩ S:=by
 intro c hc hok M0 w0 M J tm w o hx hO hb inv hs
 refine' ad7
 have n3:=JY hok e3
 refine' abk
 refine' aa0
 have hrun:=ajh hm hd hz (inv.far b0 o hx) hO x
 refine' ags
 refine Ar e3 g3 (aji p3 (v:=.bool (decide (x ∈ S))) (by rw [f1,f2];exact hrun) ?_)
 have i3:=Inv.put i2 (d:=o3.dst) (x:=.v (.bool (decide (x ∈ S)))) (v:=.bool (decide (x ∈ S))) (.pure (.v _)) (by rw [z2,z1,hs];exact n3) (ds:=M0.d)
 have z3:=jG ⟨tm2,M0.d⟩ o3.dst (.bool (decide (x ∈ S)))
 have q3:=put_defers ⟨tm2,M0.d⟩ o3.dst (.bool (decide (x ∈ S)))
 rw [d3] at i3 z3 q3 ⊢
 refine ⟨_,M,J,M0.x,o,S,h,hx,hO,fun _ _=>rfl,i3,by rw [z3];show tm2.size = nt;omega,q3⟩
end
end Ev
namespace Ev
theorem cnt_le {p p':Nat -> Bool}:∀ (l:List Nat),(∀ x,p' x = true -> p x = true) -> l.countP p' <= l.countP p
 | [],_=>Nat.le_refl _
 | x :: l,h=>by
   have ih:=cnt_le l h
   rw [List.countP_cons,List.countP_cons]
   by_cases hx:p' x = true
   · rw [if_pos hx,if_pos (h x hx)];omega
   · rw [if_neg hx];split <;> omega
theorem cnt_lt {p p':Nat -> Bool}:∀ (l:List Nat),(∀ x,p' x = true -> p x = true) -> ∀ i ∈ l,p i = true -> p' i = false -> l.countP p' < l.countP p
 | x :: l,h,i,hi,h1,h2=>by
   rw [List.countP_cons,List.countP_cons]
   rcases List.mem_cons.1 hi with rfl | hi
   · rw [if_neg (by rw [h2];simp),if_pos h1]
     have:=cnt_le l h
     omega
   · have ih:=cnt_lt l h i hi h1 h2
     by_cases hx:p' x = true
     · rw [if_pos hx,if_pos (h x hx)];omega
     · rw [if_neg hx];split <;> omega
section
variable {P:Program} {ops:Array Oper} {deps:List (List Nat)}
theorem Cc (qV:deps = ops.toList.map direct) {L:List Nat} {listed:Array Bool} (hsz:listed.size = ops.size) (hL:∀ i,i < ops.size -> listed.getD i true = L.contains i) (hLb:∀ i,L.contains i = true -> i < ops.size) (i:Nat):i ∈ Region.ready .any ops listed ↔ oH deps L i = true:=by
 refine' abg
 · rintro ⟨h0,o,ho,hall⟩
   refine' aan
   · rw [gd _ _ h'] at this;exact this
   · refine' aem
 · intro h
   rw [Bool.and_eq_true] at h
   cases ho:ops[i]? with
   | none=>rw [ho] at h;simp at h
   | some o =>
     refine' aap
     · rw [gd _ _ h'];exact this
     · have:=hLb _ this;omega
theorem adF (qV:deps = ops.toList.map direct) (hprog:∀ (i:Nat) (ds:List Nat),deps[i]? = some ds -> ∀ j ∈ ds,j < i) {Q:Exit -> Act -> World -> Prop} (Pr:List Nat -> Act -> World -> Prop)
   (hstep:∀ L i a w,Pr L a w -> (∀ j,L.contains j = true -> j < ops.size) -> oH deps L i = true -> wpOp P ops Q i (Pr (i :: L)) a w) (hend:∀ L a w,Pr L a w -> (∀ i,i < ops.size -> L.contains i = true) -> Q .normal a w) :
   ∀ (n:Nat) {L:List Nat} {listed:Array Bool} {a:Act} {w:World},Pr L a w -> listed.size = ops.size -> (∀ i,i < ops.size -> listed.getD i true = L.contains i) -> (∀ i,L.contains i = true -> i < ops.size) ->
     (List.range ops.size).countP (fun i=>!L.contains i) <= n -> wpAny P .any ops Q n listed a w:=by
 have hlen:deps.length = ops.size:=by rw [qV];simp
 have full:∀ {L:List Nat},(∀ i,oH deps L i = false) -> ∀ i,i < ops.size -> L.contains i = true:=by
   intro L h i
   induction i using Nat.strongRecOn with
   | _ i ih =>
     intro hi
     have:=h i
     unfold oH at this
     rw [List.getElem?_eq_getElem (by omega)] at this
     cases hc:L.contains i with
     | true=>rfl
     | false =>
       rw [hc] at this
       simp only [Bool.not_false,Bool.true_and] at this
       rw [<- Bool.not_eq_true,List.all_eq_true] at this
       exact absurd (fun j hj=>ih j (hprog i _ (List.getElem?_eq_getElem (by omega)) j hj) (by have:=hprog i _ (List.getElem?_eq_getElem (by omega)) j hj;omega)) this
 have Ya:∀ {L:List Nat} {listed:Array Bool},listed.size = ops.size -> (∀ i,i < ops.size -> listed.getD i true = L.contains i) -> (∀ i,L.contains i = true -> i < ops.size) -> Region.ready .any ops listed = [] -> ∀ i,i < ops.size -> L.contains i = true:=by
   intro L listed h1 h2 h3 h4
   refine full (fun i=>?_)
   cases hr:oH deps L i with
   | false=>rfl
   | true=>have:=(Cc qV h1 h2 h3 i).2 hr;rw [h4] at this;cases this
 intro n
 induction n with
 | zero =>
   intro L listed a w hP h1 h2 h3 hn
   have hall:∀ i,i < ops.size -> L.contains i = true:=by
     intro i hi
     cases hc:L.contains i with
     | true=>rfl
     | false =>
       have:0 < (List.range ops.size).countP (fun i=>!L.contains i):=List.countP_pos_iff.2 ⟨i,List.mem_range.2 hi,by rw [hc];rfl⟩
       omega
   refine ⟨?_,hend L a w hP hall⟩
   apply List.eq_nil_iff_forall_not_mem.2
   intro i hi
   rw [Cc qV h1 h2 h3] at hi
   have hlt:=qH hi
   unfold oH at hi
   rw [hall i (by omega)] at hi;simp at hi
 | succ n ih =>
   intro L listed a w hP h1 h2 h3 hn
   refine ⟨fun he=>hend L a w hP (Ya h1 h2 h3 he),fun i hi=>?_⟩
   rw [Cc qV h1 h2 h3] at hi
   have hlt:i < ops.size:=by rw [<- hlen];exact qH hi
   have hnc:L.contains i = false:=by
     unfold oH at hi
     rw [Bool.and_eq_true] at hi
     simpa using hi.1
   refine wpOp_mono (fun a' w' hP'=>?_) (hstep L i a w hP h3 hi)
   refine ih hP' (by simp [h1]) (fun k hk=>?_) (fun k hk=>?_) ?_
   · rw [List.contains_cons]
     by_cases e:k = i
     · subst e;simp [h1,hlt]
     · rw [getD_set_ne true (Ne.symm e),h2 k hk];simp [e]
   · rw [List.contains_cons,Bool.or_eq_true] at hk
     rcases hk with hk | hk
     · have:k = i:=by simpa using hk
       omega
     · exact h3 k hk
   · have:=cnt_lt (p:=fun k=>!L.contains k) (p':=fun k=>!(i :: L).contains k) (List.range ops.size) (fun x hx=>by
       simp only [List.contains_cons,Bool.not_eq_true',Bool.or_eq_false_iff] at hx ⊢;exact hx.2) i (List.mem_range.2 hlt) (by simpa using hnc) (by simp)
     omega
end
end Ev
end Go.Proofs.YtadlnaljicikfaaDoor.aB
namespace Go.Proofs.YtadlnaljicikfaaDoor.aB
open Go Go.RowKit
set_option maxRecDepth 10000
abbrev alo (mty sty ity:TypeId):List Ins:=[⟨0,some 18,.makeMap mty none,none⟩,⟨1,some 19,.move (.tmp 0),none⟩,⟨2,some 20,.indexAddr sty (.tmp 19) (.const (.int .i64 0)),none⟩,⟨3,some 21,.load ity (.tmp 20),none⟩,⟨4,none,.insert mty (.tmp 18) (.tmp 21) (.const (.bool true)),none⟩,⟨5,some 22,.move (.tmp 0),none⟩,⟨6,some 23,.move (.tmp 0),none⟩,⟨7,some 24,.call { callee:=.builtin .len,args:=#[.tmp 23],argTypes:=#[sty] },none⟩,⟨8,some 25,.binOp .sub ity (.tmp 24) (.const (.int .i64 1)) ity,none⟩,⟨9,some 26,.indexAddr sty (.tmp 22) (.tmp 25),none⟩,⟨10,some 27,.load ity (.tmp 26),none⟩,⟨11,none,.insert mty (.tmp 18) (.tmp 27) (.const (.bool true)),none⟩,⟨12,some 28,.move (.tmp 18),none⟩,⟨13,some 7,.assign (.tmp 28),none⟩]
abbrev ajl:List (List Nat):=[[],[],[1],[2],[0,3],[],[],[6],[7],[5,8],[9],[0,10],[0,1,2,3,4,5,6,7,8,9,10,11],[12,0,1,2,3,4,5,6,7,8,9,10,11,12]]
def DR (b0:Nat) (xs:List (List AV)) (k0 k1:Int):Nat -> Option (Nat × AV)
 | 0=>some (18,.v (.map (some b0)))
 | 1=>some (19,.lst 1 xs)
 | 2=>some (20,.fV [.v (.int .i64 k0)])
 | 3=>some (21,.v (.int .i64 k0))
 | 5=>some (22,.lst 1 xs)
 | 6=>some (23,.lst 1 xs)
 | 7=>some (24,.v (.int .i64 xs.length))
 | 8=>some (25,.v (.int .i64 (IntKind.i64.wrap ((xs.length:Int) - 1))))
 | 9=>some (26,.fV [.v (.int .i64 k1)])
 | 10=>some (27,.v (.int .i64 k1))
 | 12=>some (28,.v (.map (some b0)))
 | 13=>some (7,.v (.map (some b0)))
 | _=>none
def am7 (d:Nat):Nat:=if d = 7 then 13 else if d = 28 then 12 else if d <= 21 then d - 18 else d - 17
theorem Yb {b0:Nat} {xs:List (List AV)} {k0 k1:Int} {i d:Nat} {x:AV} (h:DR b0 xs k0 k1 i = some (d,x)):am7 d = i /\ 7 <= d:=by
 unfold DR at h
 split at h <;> first | (cases h;done) | (obtain ⟨rfl,_⟩:=Prod.mk.inj (Option.some.inj h);exact ⟨rfl,by decide⟩)
section
variable {E:Env} {T:Tab} {nt:Nat} {hp:List (Nat × aG)} {ct:Nat} {xs:List (List AV)} {k0 k1:Int} {sl:List (Nat × AV)}
def ajm (E:Env) (M0:pR) (w0:World) (nt:Nat) (sl:List (Nat × AV)) (hp:List (Nat × aG)) (ct:Nat) (xs:List (List AV)) (k0 k1:Int) (L:List Nat) (a:Act) (w:World):Prop :=
 ∃ sl' M J x' b0,Inv E ⟨M0.m,M0.j,x',M0.d⟩ w0 ct M J ⟨sl',hp,ct⟩ a.tmps w /\ a.tmps.size = nt /\ a.defers = M0.d /\ (∀ t x,t < 7 -> get sl t = some x -> get sl' t = some x) /\
   (∀ j d x,L.contains j = true -> DR b0 xs k0 k1 j = some (d,x) -> get sl' d = some x) /\ (L.contains 0 = false -> x' = M0.x /\ ∀ j ∈ [4,11,12,13],L.contains j = false) /\
   (L.contains 0 = true -> w0.heap.size <= b0 /\ M0.x b0 = none /\ (∀ b,b ≠ b0 -> x' b = M0.x b) /\ ∃ o S,x' b0 = some o /\ GK o S /\ ∀ k,k ∈ S ↔ (L.contains 4 = true /\ k = k0) ∨ (L.contains 11 = true /\ k = k1))
theorem ajn {b b':Nat} {j:Nat} (h0:j ≠ 0) (h1:j ≠ 12) (h2:j ≠ 13):DR b xs k0 k1 j = DR b' xs k0 k1 j:=by
 unfold DR
 split <;> first | rfl | exact absurd rfl h0 | exact absurd rfl h1 | exact absurd rfl h2
theorem kY {L:List Nat} {i j:Nat} (h:i ≠ j):(i :: L).contains j = L.contains j:=by
 rw [List.contains_cons]
 have:(j == i) = false:=by simpa using Ne.symm h
 rw [this,Bool.false_or]
theorem FI {L:List Nat} {i:Nat}:(i :: L).contains i = true:=by simp
theorem QV {M0:pR} {w0:World} {L:List Nat} {i d:Nat} {x:AV} {sl':List (Nat × AV)} {b0:Nat} (h4:∀ t x,t < 7 -> get sl t = some x -> get sl' t = some x) (h5:∀ j d x,L.contains j = true -> DR b0 xs k0 k1 j = some (d,x) -> get sl' d = some x) (hr:DR b0 xs k0 k1 i = some (d,x)) (hn:L.contains i = false) :
   (∀ t y,t < 7 -> get sl t = some y -> get ((d,x) :: sl') t = some y) /\ (∀ j d' y,(i :: L).contains j = true -> DR b0 xs k0 k1 j = some (d',y) -> get ((d,x) :: sl') d' = some y):=by
 obtain ⟨e1,e2⟩:=Yb hr
 refine ⟨fun t y ht hy=>?_,fun j d' y hj hy=>?_⟩
 · rw [aF,if_neg (by omega)];exact h4 t y ht hy
 · by_cases e:j = i
   · subst e
     rw [hr] at hy
     obtain ⟨rfl,rfl⟩:=Prod.mk.inj (Option.some.inj hy)
     rw [aF,if_pos rfl]
   · rw [kY (Ne.symm e)] at hj
     have e3:=(Yb hy).1
     rw [aF,if_neg (by rintro rfl;exact e (e3.symm.trans e1))]
     exact h5 j d' y hj hy
theorem kZ {M0:pR} {w0:World} {L:List Nat} {i d:Nat} {op:Op} {ops:Array Oper} {a:Act} {w:World} {o:Oper} {Q:Exit -> Act -> World -> Prop} (hT:jl E.P T) (hok:uI nt ops = true) (ho:ops[i]? = some o) (ha:insOf ops (i,o) = some ⟨i,some d,op,none⟩) (hn:L.contains i = false) (hi:i ≠ 0 /\ i ≠ 4 /\ i ≠ 11) (hi2:i = 12 ∨ i = 13 -> L.contains 0 = true)
   (hst:∀ sl' b0,(∀ t x,t < 7 -> get sl t = some x -> get sl' t = some x) -> (∀ j d x,L.contains j = true -> DR b0 xs k0 k1 j = some (d,x) -> get sl' d = some x) ->
     ∃ x,DR b0 xs k0 k1 i = some (d,x) /\ ∀ nm (K:AV -> List (Nat × aG) -> Nat -> Prop),K x hp ct -> Ev.bK E T [] nm op sl' hp ct K)
   (h:ajm E M0 w0 nt sl hp ct xs k0 k1 L a w):wpOp E.P ops Q i (ajm E M0 w0 nt sl hp ct xs k0 k1 (i :: L)) a w:=by
 obtain ⟨sl',M,J,x',b0,inv,hz,hd,h4,h5,h6,h7⟩:=h
 obtain ⟨tm,ds⟩:=a
 simp only at hz hd inv;subst hd
 obtain ⟨x,hr,hs⟩:=hst sl' b0 h4 h5
 obtain ⟨p4,p5⟩:=QV (M0:=M0) (w0:=w0) h4 h5 hr hn
 refine Ev.Qr (M0:=⟨M0.m,M0.j,x',M0.d⟩) (base:=0) (hs:=[]) (R:=fun s1 h1 c1=>s1 = (d,x) :: sl' /\ h1 = hp /\ c1 = ct) hT ho ha (by rw [hz];exact hok) ?_ inv ?_
 · simp only [Ev.iF]
   exact hs _ _ ⟨rfl,rfl,rfl⟩
 · rintro a' w' M' J' s1 h1 c1 ⟨rfl,rfl,rfl⟩ i1 z1 q1
   refine ⟨_,M',J',x',b0,i1,by rw [z1,hz],q1,p4,p5,?_,?_⟩
   · rw [kY hi.1]
     intro h0
     refine ⟨(h6 h0).1,fun j hj=>?_⟩
     have hne:i ≠ j:=by
       rintro rfl
       simp only [List.mem_cons,List.not_mem_nil,or_false] at hj
       rcases hj with e | e | e | e
       · exact hi.2.1 e
       · exact hi.2.2 e
       · rw [hi2 (.inl e)] at h0;cases h0
       · rw [hi2 (.inr e)] at h0;cases h0
     rw [kY hne];exact (h6 h0).2 j hj
   · rw [kY hi.1,kY hi.2.1,kY hi.2.2]
     exact h7
theorem aa8{G:Prop}(h:G:=by
 exact kZ hT hok1 ho hin hn (by decide) (by rintro (h | h) <;> cases h) (fun sl' b0 h4 h5=>⟨_,rfl,fun nm K hk=>by
   simp only [Ev.bK,Ev.bn,h4 0 _ (by decide) h0];exact hk⟩) hP):G:=h
theorem abn{G:Prop}(h:G:=by
 refine QU ho g (X9 (w':={ w1 with heap:=w1.heap.setIfInBounds b0 o2 }) (.inr hop) (by rw [e1,e2];exact hrun) ?_)
 have i2:=Inv.QL i1 hxo hsz o2
 rw [hdst]
 refine ⟨sl',M1,J1,(fun b=>if b = b0 then some o2 else x' b),b0,i2,hz,hdf,h4,fun j d x hj hx=>?_,fun h=>?_,fun _=>⟨hsz,hfr,fun b hb=>(if_neg hb).trans (hxe b hb),o2,_,if_pos rfl,alp,fun k=>?_⟩⟩
 all_goals(rcases(⟨_⟩:PLift _)with⟨h⟩;exact h)):G:=h
theorem ad9{G:Prop}(h:G:=by
 obtain ⟨g,_,hdst,hop⟩:=rD hin
 obtain ⟨sl',M1,J1,x',b0,i1,hz,hdf,h4,h5,h6,h7⟩:=hP
 have hc0:=got rfl 0 (by simp)
 obtain ⟨hsz,hfr,hxe,o1,S,hxo,hMO,hS⟩:=h7 hc0
 all_goals(rcases(⟨_⟩:PLift _)with⟨h⟩;exact h)):G:=h
theorem Ev.ajo {K:Exit -> St -> Prop} {id:Nat} {rest:CC} {mty sty ity kt et am9:TypeId} {ez:Nat × List AV} {sl1:List (Nat × AV)} (hT:jl E.P T) (hmx:E.P.follows .mixedOrders = true) (hm:E.P.underlying mty = some (.map kt et)) (hd:E.P.underlying kt = some (.int .i64))
   (hsl:get T.sl sty = some (am9,1,ez)) (htz:get T.tz ity = some (false,1)) (h0:get sl 0 = some (.lst 1 xs)) (hx0:xs[0]? = some [.v (.int .i64 k0)]) (hx1:xs[xs.length - 1]? = some [.v (.int .i64 k1)]) (hln:xs.length <= 1000000000)
   (hsl1:∀ t x,get sl1 t = some x -> t < 7 /\ get sl t = some x)
   (h:∀ b0 S,(∀ k,k ∈ S ↔ k = k0 ∨ k = k1) -> U6 E nt rest b0 (fun e s' _=>K e s') ⟨(7,.v (.map (some b0))) :: sl1,hp,ct⟩ S):Ev.Wp E nt (.seq (.draw id (alo mty sty ity) ajl) rest) K ⟨sl,hp,ct⟩:=by
 intro c' e hok M0 w0 M J tm w inv hs
 obtain ⟨a',b',rfl,ha,hb'⟩:=uT e
 simp only [bQ,Bool.and_eq_true] at hok
 obtain ⟨ops,rfl,hl,qV⟩:=Ev.Hq ha
 have hsize:ops.size = 14:=by
   have:=congrArg List.length qV
   simpa using this.symm
 have hlt0:0 < xs.length:=by
   cases xs with
   | nil=>cases hx0
   | cons _ _=>simp
 have hok1:uI nt ops = true:=by simpa only [bQ] using hok.1
 have qp:∀ i a,(alo mty sty ity)[i]? = some a -> ∃ o,ops[i]? = some o /\ insOf ops (i,o) = some a:=by
   intro i a hi
   have hi':i < ops.size:=by rw [hsize];exact (List.getElem?_eq_some_iff.1 hi).1
   obtain ⟨a2,e1,e2⟩:=Ev.EW hl i (i,ops[i]) (by simp [numbered,hi'])
   rw [hi] at e1
   obtain rfl:=Option.some.inj e1
   exact ⟨ops[i],Array.getElem?_eq_getElem hi',e2⟩
 refine wp_seq (wp_region_any hmx ?_)
 refine Ev.adF qV ?_ (ajm E M0 w0 nt sl hp ct xs k0 k1) ?_ ?_ ops.size (L:=[]) ?_ (by simp) (fun i hi=>by simp [hi]) (fun i hi=>by simp at hi) ?_
 · intro i ds hi j hj
   have:∀ p ∈ ajl.zipIdx,∀ j ∈ p.1,j < p.2:=by decide
   exact this (ds,i) (by rw [List.mem_zipIdx_iff_getElem?];exact hi) j hj
 · intro L i a w1 hP hLb hr
   unfold Ev.oH at hr
   rw [Bool.and_eq_true] at hr
   obtain ⟨hn,hr⟩:=hr
   have hn:L.contains i = false:=by simpa using hn
   have hi:i < 14:=by
     rcases Nat.lt_or_ge i 14 with h | h
     · exact h
     · rw [List.getElem?_eq_none (by simpa using h)] at hr;cases hr
   have got:∀ {ds},ajl[i]? = some ds -> ∀ j ∈ ds,L.contains j = true:=by
     intro ds hds j hj
     rw [hds] at hr
     simp only [List.all_eq_true] at hr
     exact hr j hj
   have h13:i = 0 ∨ i = 1 ∨ i = 2 ∨ i = 3 ∨ i = 4 ∨ i = 5 ∨ i = 6 ∨ i = 7 ∨ i = 8 ∨ i = 9 ∨ i = 10 ∨ i = 11 ∨ i = 12 ∨ i = 13:=by omega
   rcases h13 with rfl | rfl | rfl | rfl | rfl | rfl | rfl | rfl | rfl | rfl | rfl | rfl | rfl | rfl
   · obtain ⟨o,ho,hin⟩:=qp 0 _ rfl
     obtain ⟨g,_,hdst,hop⟩:=rD hin
     obtain ⟨sl',M1,J1,x',b0,i1,hz,hdf,h4,h5,h6,h7⟩:=hP
     obtain ⟨rfl,hno⟩:=h6 hn
     refine QU ho g (adE hop ?_)
     have n1:=JY hok1 ho
     have hfr:M0.x w1.heap.size = none:=i1.nU (Nat.le_refl _)
     have hsz:w0.heap.size <= w1.heap.size:=i1.below.size
     have i2:=Inv.adD i1 (.map #[] 0)
     have i3:=Inv.put i2 (d:=o.dst) (x:=.v (.map (some w1.heap.size))) (v:=.map (some w1.heap.size)) (.pure (.v _)) (by rw [hz];exact n1) (ds:=a.defers)
     have z3:=jG a o.dst (.map (some w1.heap.size))
     have q3:=put_defers a o.dst (.map (some w1.heap.size))
     have h5':∀ j d x,L.contains j = true -> DR w1.heap.size xs k0 k1 j = some (d,x) -> get sl' d = some x:=fun j d x hj hx=>h5 j d x hj (by
       rw [ajn (b':=w1.heap.size) (by rintro rfl;rw [hn] at hj;cases hj) (by rintro rfl;rw [hno 12 (by simp)] at hj;cases hj) (by rintro rfl;rw [hno 13 (by simp)] at hj;cases hj)];exact hx)
     obtain ⟨p4,p5⟩:=QV (M0:=M0) (w0:=w0) (i:=0) (b0:=w1.heap.size) h4 h5' rfl hn
     rw [hdst] at i3 z3 q3 ⊢
     refine ⟨_,M1,J1,_,w1.heap.size,i3,by rw [z3,hz],by rw [q3,hdf],p4,p5,fun h=>?_,fun _=>⟨hsz,hfr,fun b hb=>if_neg hb,.map #[] 0,[],if_pos rfl,GK.new,fun k=>?_⟩⟩
     · rw [FI] at h;cases h
     · rw [kY (by decide),kY (by decide),hno 4 (by simp),hno 11 (by simp)];simp
   · obtain ⟨o,ho,hin⟩:=qp 1 _ rfl
     refine' aa8
   · obtain ⟨o,ho,hin⟩:=qp 2 _ rfl
     exact kZ hT hok1 ho hin hn (by decide) (by rintro (h | h) <;> cases h) (fun sl' b0 h4 h5=>⟨_,rfl,fun nm K hk=>by
       have e:=h5 1 _ _ (got rfl 1 (by simp)) rfl
       simp only [Ev.bK,Ev.bn,e,hsl]
       refine ⟨⟨by omega,by omega⟩,?_⟩
       show Ev.D5 xs 0 _
       unfold Ev.D5
       rw [hx0];exact hk⟩) hP
   · obtain ⟨o,ho,hin⟩:=qp 3 _ rfl
     exact kZ hT hok1 ho hin hn (by decide) (by rintro (h | h) <;> cases h) (fun sl' b0 h4 h5=>⟨_,rfl,fun nm K hk=>by
       have e:=h5 2 _ _ (got rfl 2 (by simp)) rfl
       simp only [Ev.bK,Ev.bn,e,Ev.cellsE,Ev.qc,htz];exact hk⟩) hP
   · obtain ⟨o,ho,hin⟩:=qp 4 _ rfl
     refine' ad9
     obtain ⟨o2,hrun,alp⟩:=PY hm hd (i1.far b0 o1 hxo) hMO k0
     obtain ⟨es,clk,rfl,_⟩:=hMO
     have e1:=Inv.eval (a:=a) i1 (h5 0 _ _ hc0 rfl)
     have e2:=Inv.eval (a:=a) i1 (h5 3 _ _ (got rfl 3 (by simp)) rfl)
     refine' abn
     · by_cases ej:j = 4
       · subst ej;cases hx
       · rw [kY (Ne.symm ej)] at hj;exact h5 j d x hj hx
     · rw [kY (by decide),hc0] at h;cases h
     · rw [List.mem_cons,hS,FI,kY (by decide)]
       constructor
       · rintro (rfl | ⟨_,rfl⟩ | h)
         · exact .inl ⟨rfl,rfl⟩
         · exact .inl ⟨rfl,rfl⟩
         · exact .inr h
       · rintro (⟨_,rfl⟩ | h)
         · exact .inl rfl
         · exact .inr (.inr h)
   · obtain ⟨o,ho,hin⟩:=qp 5 _ rfl
     refine' aa8
   · obtain ⟨o,ho,hin⟩:=qp 6 _ rfl
     refine' aa8
   · obtain ⟨o,ho,hin⟩:=qp 7 _ rfl
     exact kZ hT hok1 ho hin hn (by decide) (by rintro (h | h) <;> cases h) (fun sl' b0 h4 h5=>⟨_,rfl,fun nm K hk=>by
       have e:=h5 6 _ _ (got rfl 6 (by simp)) rfl
       simp only [Ev.bK,Ev.uV,Ev.bn,e,lenOf,hsl];exact hk⟩) hP
   · obtain ⟨o,ho,hin⟩:=qp 8 _ rfl
     exact kZ hT hok1 ho hin hn (by decide) (by rintro (h | h) <;> cases h) (fun sl' b0 h4 h5=>⟨_,rfl,fun nm K hk=>by
       have e:=h5 7 _ _ (got rfl 7 (by simp)) rfl
       simp only [Ev.bK,Ev.bn,e,Ev.Jo,Ev.Gz];exact hk⟩) hP
   · obtain ⟨o,ho,hin⟩:=qp 9 _ rfl
     exact kZ hT hok1 ho hin hn (by decide) (by rintro (h | h) <;> cases h) (fun sl' b0 h4 h5=>⟨_,rfl,fun nm K hk=>by
       have e:=h5 5 _ _ (got rfl 5 (by simp)) rfl
       have e2:=h5 8 _ _ (got rfl 8 (by simp)) rfl
       have hw:IntKind.i64.wrap ((xs.length:Int) - 1) = ((xs.length - 1:Nat):Int):=by rw [Ev.wrap64];omega
       simp only [Ev.bK,Ev.bn,e,e2,hsl]
       refine ⟨⟨by omega,by omega⟩,?_⟩
       rw [hw,Int.toNat_natCast]
       unfold Ev.D5
       rw [hx1];exact hk⟩) hP
   · obtain ⟨o,ho,hin⟩:=qp 10 _ rfl
     exact kZ hT hok1 ho hin hn (by decide) (by rintro (h | h) <;> cases h) (fun sl' b0 h4 h5=>⟨_,rfl,fun nm K hk=>by
       have e:=h5 9 _ _ (got rfl 9 (by simp)) rfl
       simp only [Ev.bK,Ev.bn,e,Ev.cellsE,Ev.qc,htz];exact hk⟩) hP
   · obtain ⟨o,ho,hin⟩:=qp 11 _ rfl
     refine' ad9
     obtain ⟨o2,hrun,alp⟩:=PY hm hd (i1.far b0 o1 hxo) hMO k1
     obtain ⟨es,clk,rfl,_⟩:=hMO
     have e1:=Inv.eval (a:=a) i1 (h5 0 _ _ hc0 rfl)
     have e2:=Inv.eval (a:=a) i1 (h5 10 _ _ (got rfl 10 (by simp)) rfl)
     refine' abn
     · by_cases ej:j = 11
       · subst ej;cases hx
       · rw [kY (Ne.symm ej)] at hj;exact h5 j d x hj hx
     · rw [kY (by decide),hc0] at h;cases h
     · rw [List.mem_cons,hS,FI,kY (by decide)]
       constructor
       · rintro (rfl | h | ⟨_,rfl⟩)
         · exact .inr ⟨rfl,rfl⟩
         · exact .inl h
         · exact .inr ⟨rfl,rfl⟩
       · rintro (h | ⟨_,rfl⟩)
         · exact .inr (.inl h)
         · exact .inl rfl
   · obtain ⟨o,ho,hin⟩:=qp 12 _ rfl
     exact kZ hT hok1 ho hin hn (by decide) (fun _=>got rfl 0 (by simp)) (fun sl' b0 h4 h5=>⟨_,rfl,fun nm K hk=>by
       have e:=h5 0 _ _ (got rfl 0 (by simp)) rfl
       simp only [Ev.bK,Ev.bn,e];exact hk⟩) hP
   · obtain ⟨o,ho,hin⟩:=qp 13 _ rfl
     exact kZ hT hok1 ho hin hn (by decide) (fun _=>got rfl 0 (by simp)) (fun sl' b0 h4 h5=>⟨_,rfl,fun nm K hk=>by
       have e:=h5 12 _ _ (got rfl 12 (by simp)) rfl
       simp only [Ev.bK,Ev.bn,e];exact hk⟩) hP
 · rintro L ⟨tm1,ds1⟩ w1 ⟨sl',M1,J1,x',b0,i1,hz,hdf,h4,h5,h6,h7⟩ hall
   simp only at hdf hz i1;subst hdf
   obtain ⟨hsz,hfr,hxe,o1,S,hxo,hMO,hS⟩:=h7 (hall 0 (by omega))
   simp only [Exit.then]
   have i2:=Inv.less (s':=⟨(7,.v (.map (some b0))) :: sl1,hp,ct⟩) i1 (fun t x ht=>by
     have ht:get ((7,AV.v (.map (some b0))) :: sl1) t = some x:=ht
     rw [aF] at ht
     split at ht
     · rename_i e;subst e
       rw [<- Option.some.inj ht];exact h5 13 _ _ (hall 13 (by omega)) rfl
     · obtain ⟨a1,a2⟩:=hsl1 t x ht
       exact h4 t x a1 a2) (fun r k h=>h)
   refine wp_mono (h b0 S (fun k=>by rw [hS,hall 4 (by omega),hall 11 (by omega)];simp) b' hb' hok.2 ⟨M0.m,M0.j,x',M0.d⟩ w0 M1 J1 tm1 w1 o1 hxo hMO hsz i2 hz) ?_
   rintro e a w2 ⟨s2,M2,J2,x2,o3,S3,hk,q1,q2,q3,i3,z3,d3⟩
   exact ⟨s2,M2,J2,hk,Inv.X7 (b0:=b0) i3 hfr (fun b hb=>(q3 b hb).trans (hxe b hb)),z3,d3⟩
 · exact ⟨sl,M,J,M0.x,0,Inv.drew inv,hs,rfl,fun t x _ h=>h,fun j d x h=>by simp at h,fun _=>⟨rfl,fun j _=>by simp⟩,fun h=>by simp at h⟩
 · simp only [List.contains_nil,Bool.not_false]
   exact Nat.le_trans List.countP_le_length (by simp)
end
end Go.Proofs.YtadlnaljicikfaaDoor.aB
