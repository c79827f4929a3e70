/- A part of the proof: a calculus over values, and contracts of functions. No condition. -/
import Derived.Test.YtadlnaljicikfaaDoorZHistoryPlays6
import Derived.Lib.TrimUEq
import Derived.Lib.QuoteLoop
import Derived.Lib.MapLaws
import Derived.Stop.FmtQuoteTie
set_option linter.unusedVariables false
set_option linter.unusedSimpArgs false
namespace Go.Proofs.YtadlnaljicikfaaDoor.aI
open Go
set_option maxRecDepth 100000
attribute [local irreducible] Ev.iH Ev.iR Ev.bY Ev.runK Ev.cu Ev.gK Ev.Side Ev.Wp Ev.Again Ev.To Ev.Fin
open Go.Lib Go.RowKit
theorem Xb:∀ c,Tryd.f119.body = some c -> comp c = (.seq (.reg 0 [I.n 0 4 (I.si 0)]) (.seq (.reg 1 [I.n 0 5 (I.si 0)]) (.seq (.seq (.reg 2 [I.n 0 8 (I.mv 0),I.n 1 9 (I.ln 8 140),I.n 2 10 (.move (.const (Value.int .i64 0)))]) (.block 0 (.loop (.seq (.reg 3 [I.n 0 11 (I.bo .lss 3 10 9 3)]) (.seq (.cond (.tmp 11) .skip (.exit 0)) (.seq (.block 1 (.seq (.reg 4 [I.n 0 12 (I.ia 140 8 10),I.n 1 13 (I.ld 35 12),I.n 2 7 (.alloc 35),I.u 3 (I.st 35 7 13)]) (.reg 5 [I.n 0 14 (I.mv 5),I.n 1 15 (I.mv 1),I.n 2 16 (I.ld 35 7),I.n 3 17 (.call { callee:=.value (.tmp 15),args:=#[.tmp 16],argTypes:=#[35] }),I.n 4 18 (I.bo .add 3 14 17 3),I.n 5 5 (I.sa 18)]))) (.reg 6 [I.n 0 19 (I.bc .add 3 10 1 3),I.n 1 10 (I.mv 19)]))))))) (.seq (.reg 7 [I.n 0 20 (I.mv 5),I.n 1 4 (I.sa 20)]) .ret)))):=by
 intro c h
 have:c = Tryd.f119.body.get rfl:=by rw [<- Option.some_inj,<- h];rfl
 rw [this];rfl
theorem aaZ:∀ c,Tryd.f74.body = some c -> comp c = (.seq (.reg 0 [I.n 0 2 (I.si 0)]) (.seq (.reg 1 [I.n 0 3 (.assign (.func 119))]) (.seq (.reg 2 [I.n 0 4 (I.mv 3),I.n 1 5 (I.mv 0),I.n 2 6 (.call { callee:=.value (.tmp 4),args:=#[.tmp 5,.func 120],argTypes:=#[140,113] }),I.n 3 2 (I.sa 6)]) .ret))):=by
 intro c h
 have:c = Tryd.f74.body.get rfl:=by rw [<- Option.some_inj,<- h];rfl
 rw [this];rfl
theorem abA:∀ c,Tryd.f73.body = some c -> comp c = (.seq (.reg 0 [I.n 0 2 (I.si 0)]) (.seq (.reg 1 [I.n 0 3 (I.mv 0),I.n 1 4 (.call { callee:=.value (.func 119),args:=#[.tmp 3,.func 82],argTypes:=#[140,113] }),I.n 2 2 (I.sa 4)]) .ret)):=by
 intro c h
 have:c = Tryd.f73.body.get rfl:=by rw [<- Option.some_inj,<- h];rfl
 rw [this];rfl
theorem G5 (f:Sp -> Int) (g:FuncId) (l:List Sp) (hl:l.length <= 1000000000) (hg:∀ s ∈ l,aO env g [.agg (qR s)] (fun r hs=>r = .v (.int .i64 (f s)) /\ hs = [])) :
   aO env 119 [.lst 3 (aT l),.clo (.func g) [] []] (fun r hs=>r = .v (.int .i64 (sumW f l)) /\ hs = []):=by
 refine Ev.fn [0,1,4,5,7,8,9,10,11] 0 [.tmp 4] Tryd.func119 (Xb _ rfl) ?_
 refine' X3
 refine Ev.loop (fun k s=>∃ i c:Nat,s = ⟨[(1,.clo (.func g) [] []),(4,.v (.int .i64 0)),(5,.v (.int .i64 (sumW f (l.take i)))),(8,.lst 3 (aT l)),(9,.v (.int .i64 l.length)),(10,.v (.int .i64 i))],[],c⟩ /\ k + i = l.length) ?_ ?_
 · exact Ev.to ⟨[(1,_),(4,_),(5,.v (.int .i64 0)),(8,_),(9,.v (.int .i64 l.length)),(10,.v (.int .i64 ((0:Nat):Int)))],[],0⟩ ⟨rfl,rfl,rfl,rfl,Ev.eu rfl (by simp [aT]),rfl,trivial⟩ trivial (Nat.le_refl _) ⟨l.length,0,0,rfl,by omega⟩
 rintro k s1 ⟨i,c,rfl,hk⟩
 repeat' (first | refine' Ev.Bv | refine' Ev.zK | ((refine Ev.x9 ?_ (fun hi=>?_);rotate_left);conv=>whnf) | ((refine Ev.aU (hg _ (List.getElem_mem hi)) rfl rfl ?_);conv=>whnf) | refine' Ev.zU | fail)
 · have hi':i < l.length:=by simpa using hi
   rw [JJ hi hi']
   refine Ev.again (k - 1) ⟨[(1,_),(4,_),(5,.v (.int .i64 (sumW f (l.take (i + 1))))),(8,_),(9,_),(10,.v (.int .i64 ((i + 1:Nat):Int)))],[],c + 8⟩ (by omega) ⟨rfl,rfl,Ev.eu rfl (by rw [yG _ _ hi']),rfl,rfl,Ev.eu rfl (by rw [Ev.wrap64];omega),trivial⟩ trivial (Nat.le_refl _) ⟨i + 1,c + 8,rfl,by omega⟩
 · refine Ev.Side.of ?_;rename_i h;omega
 · refine Ev.Side.of ?_;rename_i h;simp only [aT,List.length_map];omega
 · rename_i h
   have ei:i = l.length:=by omega
   subst ei
   rw [List.take_of_length_le (Nat.le_refl _)]
   exact ⟨rfl,rfl⟩
theorem fF (l:List Sp) (hl:l.length <= 1000000000):aO env 74 [.lst 3 (aT l)] (fun r hs=>r = .v (.int .i64 (sumW (fun s=>kN s.k s.n) l)) /\ hs = []):=by
 refine Ev.fn [0,2,3] 0 [.tmp 2] Tryd.func74 (aaZ _ rfl) ?_
 repeat' (first | refine' Ev.Bv | refine' Ev.zK | ((refine Ev.aU (G5 (fun s=>kN s.k s.n) 120 l hl (fun s _=>WT _ _ _)) rfl rfl ?_);conv=>whnf) | refine' Ev.zU | fail)
 all_goals exact ⟨rfl,rfl⟩
theorem mY (l:List Sp) (hl:l.length <= 1000000000) (hs:Small l):aO env 73 [.lst 3 (aT l)] (fun r hs=>r = .v (.int .i64 (sumW (fun s=>kQ s.k s.n s.t) l)) /\ hs = []):=by
 refine Ev.fn [0,2] 0 [.tmp 2] Tryd.func73 (abA _ rfl) ?_
 repeat' (first | refine' Ev.Bv | refine' Ev.zK | ((refine Ev.aU (G5 (fun s=>kQ s.k s.n s.t) 82 l hl (fun s h=>sD _ _ _ (hs s h))) rfl rfl ?_);conv=>whnf) | refine' Ev.zU | fail)
 all_goals exact ⟨rfl,rfl⟩
def fU (f:Sp -> Int):List Sp -> Int
 | []=>0
 | s :: l=>if f s = 0 then fU f l else f s
theorem oH (f:Sp -> Int):∀ (a b:List Sp),fU f (a ++ b) = if fU f a = 0 then fU f b else fU f a
 | [],b=>by simp [fU]
 | s :: a,b=>by
   simp only [List.cons_append,fU,oH f a b]
   by_cases h:f s = 0 <;> simp [h]
theorem DN (f:Sp -> Int) (l:List Sp) {i:Nat} (hi:i < l.length) (h:fU f (l.take i) = 0) (h0:f l[i] = 0):fU f (l.take (i + 1)) = 0:=by
 rw [List.take_succ_eq_append_getElem hi,oH,h];simp [fU,h0]
theorem OX (f:Sp -> Int) (l:List Sp) {i:Nat} (hi:i < l.length) (h:fU f (l.take i) = 0) (h0:¬ f l[i] = 0):fU f l = f l[i]:=by
 have e:l = l.take i ++ l[i] :: l.drop (i + 1):=by rw [List.getElem_cons_drop,List.take_append_drop]
 have:=oH f (l.take i) (l[i] :: l.drop (i + 1))
 rw [<- e,h] at this
 rw [this];simp [fU,h0]
def oI (s:Sp):Int:=yC s.k s.n s.t
def iT (l:List Sp):Int:=sumW (fun s=>kN s.k s.n) l
def outW (l:List Sp):Int:=sumW (fun s=>kQ s.k s.n s.t) l
def aC (l:List Sp):Int:=if fU oI l = 0 then (if 1048576 < iT l then 4 else 0) else fU oI l
def nilA:AV:=.v (.slice none 0 0)
def keepA (n:Int):AV:=if n < 0 ∨ 1048576 < n then nilA else if n = 0 then nilA else .lst 3 (aT [⟨1,n,⟨#[]⟩⟩])
def zn (n:Int):Int:=if n < 0 ∨ 1048576 < n then 2 else 0
theorem abB:∀ c,Tryd.f72.body = some c -> comp c = (.seq (.reg 0 [I.n 0 2 (I.si 0)]) (.seq (.seq (.reg 1 [I.n 0 6 (I.mv 0),I.n 1 7 (I.ln 6 23),I.n 2 8 (.move (.const (Value.int .i64 0)))]) (.block 0 (.loop (.seq (.reg 2 [I.n 0 9 (I.bo .lss 3 8 7 3)]) (.seq (.cond (.tmp 9) .skip (.exit 0)) (.seq (.block 1 (.seq (.reg 3 [I.n 0 10 (I.ia 23 6 8),I.n 1 11 (I.ld 35 10),I.n 2 4 (.alloc 35),I.u 3 (I.st 35 4 11)]) (.seq (.reg 4 [I.n 0 12 (I.ld 35 4),I.n 1 13 (I.c1 118 12 35),I.n 2 5 (I.sa 13)]) (.seq (.reg 5 [I.n 0 14 (I.mv 5),I.n 1 15 (I.bc .neq 30 14 0 30)]) (.cond (.tmp 15) (.seq (.reg 6 [I.n 0 16 (I.mv 5),I.n 1 2 (I.sa 16)]) .ret) .skip))))) (.reg 7 [I.n 0 17 (I.bc .add 3 8 1 3),I.n 1 8 (I.mv 17)]))))))) (.seq (.seq (.reg 8 [I.n 0 18 (I.mv 0),I.n 1 19 (I.c1 74 18 23),I.n 2 20 (I.bc .gtr 3 19 1048576 3)]) (.cond (.tmp 20) (.seq (.reg 9 [I.n 0 2 (I.si 4)]) .ret) .skip)) (.seq (.reg 10 [I.n 0 2 (I.si 0)]) .ret)))):=by
 intro c h
 have:c = Tryd.f72.body.get rfl:=by rw [<- Option.some_inj,<- h];rfl
 rw [this];rfl
theorem Xc:∀ c,Tryd.f111.body = some c -> comp c = (.seq (.reg 0 [I.n 0 2 I.sn,I.n 1 3 (I.si 0)]) (.seq (.seq (.reg 1 [I.n 0 4 (I.mv 0),I.n 1 5 (I.bc .lss 3 4 0 3),I.n 2 6 (I.mv 5),I.w 3 7 (I.mv 0) 6 false,I.w 4 8 (I.bc .gtr 3 7 1048576 3) 6 false,I.n 5 9 (I.pb 6 true 8)]) (.cond (.tmp 9) (.seq (.reg 2 [I.n 0 2 I.sn,I.n 1 3 (I.si 2)]) .ret) .skip)) (.seq (.seq (.reg 3 [I.n 0 10 (I.mv 0),I.n 1 11 (I.bc .eql 3 10 0 3)]) (.cond (.tmp 11) (.seq (.reg 4 [I.n 0 2 I.sn,I.n 1 3 (I.si 0)]) .ret) .skip)) (.seq (.reg 5 [I.n 0 12 (I.mv 0),I.n 1 13 (.build 35 #[(0,.const (Value.int .i64 1)),(1,.tmp 12)]),I.n 2 14 (I.b1 23 13),I.n 3 2 (I.sa 14),I.n 4 3 (I.si 0)]) .ret)))):=by
 intro c h
 have:c = Tryd.f111.body.get rfl:=by rw [<- Option.some_inj,<- h];rfl
 rw [this];rfl
theorem Xd:∀ c,Tryd.f100.body = some c -> comp c = (.seq (.reg 0 [I.n 0 2 (I.si 0)]) (.seq (.seq (.reg 1 [I.n 0 3 (I.si 0)]) (.block 0 (.loop (.seq (.seq (.reg 2 [I.n 0 5 (I.mv 3),I.n 1 6 (I.mv 0),I.n 2 7 (I.ln 6 23),I.n 3 8 (I.bo .lss 3 5 7 3)]) (.cond (.tmp 8) .skip (.exit 0))) (.seq (.block 1 (.seq (.reg 4 [I.n 0 11 (I.mv 0),I.n 1 12 (I.mv 3),I.n 2 13 (I.ia 23 11 12),I.n 3 14 (I.ld 35 13),I.n 4 15 (I.c1 142 14 35),I.n 5 4 (I.sa 15)]) (.seq (.reg 5 [I.n 0 16 (I.mv 4),I.n 1 17 (I.bc .neq 30 16 0 30)]) (.cond (.tmp 17) (.seq (.reg 6 [I.n 0 18 (I.mv 4),I.n 1 2 (I.sa 18)]) .ret) .skip)))) (.reg 3 [I.n 0 9 (I.mv 3),I.n 1 10 (I.bc .add 3 9 1 3),I.n 2 3 (I.sa 10)])))))) (.seq (.seq (.reg 7 [I.n 0 19 (I.mv 0),I.n 1 20 (I.c1 101 19 23),I.n 2 21 (I.bc .gtr 3 20 1048576 3)]) (.cond (.tmp 21) (.seq (.reg 8 [I.n 0 2 (I.si 4)]) .ret) .skip)) (.seq (.reg 9 [I.n 0 2 (I.si 0)]) .ret)))):=by
 intro c h
 have:c = Tryd.f100.body.get rfl:=by rw [<- Option.some_inj,<- h];rfl
 rw [this];rfl
theorem Xe:∀ c,Tryd.f148.body = some c -> comp c = (.seq (.reg 0 [I.n 0 2 I.sn,I.n 1 3 (I.si 0)]) (.seq (.seq (.reg 1 [I.n 0 4 (I.mv 0),I.n 1 5 (I.bc .lss 3 4 0 3),I.n 2 6 (I.mv 5),I.w 3 7 (I.mv 0) 6 false,I.w 4 8 (I.bc .gtr 3 7 1048576 3) 6 false,I.n 5 9 (I.pb 6 true 8)]) (.cond (.tmp 9) (.seq (.reg 2 [I.n 0 2 I.sn,I.n 1 3 (I.si 2)]) .ret) .skip)) (.seq (.seq (.reg 3 [I.n 0 10 (I.mv 0),I.n 1 11 (I.bc .eql 3 10 0 3)]) (.cond (.tmp 11) (.seq (.reg 4 [I.n 0 2 I.sn,I.n 1 3 (I.si 0)]) .ret) .skip)) (.seq (.reg 5 [I.n 0 12 (I.mv 0),I.n 1 13 (.build 35 #[(0,.const (Value.int .i64 1)),(1,.tmp 12)]),I.n 2 14 (I.b1 23 13),I.n 3 2 (I.sa 14),I.n 4 3 (I.si 0)]) .ret)))):=by
 intro c h
 have:c = Tryd.f148.body.get rfl:=by rw [<- Option.some_inj,<- h];rfl
 rw [this];rfl
theorem ac7{G:Prop}(h:G:=by
 have ei:i = l.length:=by omega
 subst ei
 rw [List.take_of_length_le (Nat.le_refl _)] at hf
 refine ⟨congrArg (fun b=>AV.v (Value.int .i64 b)) ?_,rfl⟩
 simp [aC,hf,iT, *]):G:=h
theorem ad3{G:Prop}(h:G:=by
 rename_i hne
 exact ⟨congrArg (fun b=>AV.v (Value.int .i64 b)) (by unfold aC;rw [OX oI l hi hf hne];exact (if_neg hne).symm),rfl⟩):G:=h
theorem dL (l:List Sp) (hl:l.length <= 1000000000) (hs:Small l):aO env 72 [.lst 3 (aT l)] (fun r hs=>r = .v (.int .i64 (aC l)) /\ hs = []):=by
 have hsl:=aV l
 refine Ev.fn [0,2,4,5,6,7,8,9,15,20] 0 [.tmp 2] Tryd.func72 (abB _ rfl) ?_
 refine' Ev.zW
 refine Ev.loop (fun k s=>∃ i c:Nat,s = ⟨[(0,.lst 3 (aT l)),(2,.v (.int .i64 0)),(6,.lst 3 (aT l)),(7,.v (.int .i64 l.length)),(8,.v (.int .i64 i))],[],c⟩ /\ k + i = l.length /\ fU oI (l.take i) = 0) ?_ ?_
 · exact Ev.to ⟨[(0,_),(2,_),(6,.lst 3 (aT l)),(7,.v (.int .i64 l.length)),(8,.v (.int .i64 ((0:Nat):Int)))],[],0⟩ ⟨rfl,rfl,rfl,Ev.eu rfl (by simp [aT]),rfl,trivial⟩ trivial (Nat.le_refl _) ⟨l.length,0,0,rfl,by omega,rfl⟩
 rintro k s1 ⟨i,c,rfl,hk,hf⟩
 repeat' (first | refine' Ev.zS | refine' Ev.zK | ((refine Ev.aU (SA _ _ _ (hs _ (List.getElem_mem hi))) rfl rfl ?_);conv=>whnf) | ((refine Ev.aU (fF l hl) rfl rfl ?_);conv=>whnf) | refine' Ev.zT | fail)
 · rename_i heq
   exact Ev.again (k - 1) ⟨[(0,_),(2,_),(6,_),(7,_),(8,.v (.int .i64 ((i + 1:Nat):Int)))],[],c + 8⟩ (by omega) ⟨rfl,rfl,rfl,rfl,Ev.eu rfl (by rw [Ev.wrap64];omega),trivial⟩ trivial (Nat.le_refl _) ⟨i + 1,c + 8,rfl,by omega,DN oI l hi hf heq⟩
 · refine' ad3
 all_goals
   refine' ac7
theorem fV (l:List Sp) (hl:l.length <= 1000000000) (hs:Small l):aO env 100 [.lst 3 (aT l)] (fun r hs=>r = .v (.int .i64 (aC l)) /\ hs = []):=by
 have hsl:=aV l
 refine Ev.fn [0,2,3,4,8,17,21] 0 [.tmp 2] Tryd.func100 (Xd _ rfl) ?_
 refine' Ev.zW
 refine Ev.loop (fun k s=>∃ i c:Nat,s = ⟨[(0,.lst 3 (aT l)),(2,.v (.int .i64 0)),(3,.v (.int .i64 i))],[],c⟩ /\ k + i = l.length /\ fU oI (l.take i) = 0) ?_ ?_
 · exact Ev.to ⟨[(0,_),(2,_),(3,.v (.int .i64 ((0:Nat):Int)))],[],0⟩ ⟨rfl,rfl,rfl,trivial⟩ trivial (Nat.le_refl _) ⟨l.length,0,0,rfl,by omega,rfl⟩
 rintro k s1 ⟨i,c,rfl,hk,hf⟩
 repeat' (first | refine' Ev.zS | refine' Ev.zK | ((refine Ev.aU (OL _ _ _ (hs _ (List.getElem_mem hi))) rfl rfl ?_);conv=>whnf) | ((refine Ev.aU (iO l hl) rfl rfl ?_);conv=>whnf) | refine' Ev.zT | fail)
 · rename_i heq
   exact Ev.again (k - 1) ⟨[(0,_),(2,_),(3,.v (.int .i64 ((i + 1:Nat):Int)))],[],c⟩ (by omega) ⟨rfl,rfl,Ev.eu rfl (by rw [Ev.wrap64];omega),trivial⟩ trivial (Nat.le_refl _) ⟨i + 1,c,rfl,by omega,DN oI l hi hf heq⟩
 · refine' ad3
 all_goals
   refine' ac7
theorem OY (n:Int):aO env 111 [.v (.int .i64 n)] (fun r hs=>r = .dM [keepA n,.v (.int .i64 (zn n))] /\ hs = []):=by
 refine Ev.fn [0,2,3,9,11] 0 [.tmp 2,.tmp 3] Tryd.func111 (Xc _ rfl) ?_
 refine' Ev.zW
 all_goals (refine ⟨?_,rfl⟩;simp [keepA,zn,mF,nilA,aT,qR, *];try omega)
theorem G6 (n:Int):aO env 148 [.v (.int .i64 n)] (fun r hs=>r = .dM [keepA n,.v (.int .i64 (zn n))] /\ hs = []):=by
 refine Ev.fn [0,2,3,9,11] 0 [.tmp 2,.tmp 3] Tryd.func148 (Xe _ rfl) ?_
 refine' Ev.zW
 all_goals (refine ⟨?_,rfl⟩;simp [keepA,zn,mF,nilA,aT,qR, *];try omega)
theorem abC:∀ c,Tryd.f34.body = some c -> comp c = (.seq (.reg 0 [I.n 0 4 (I.sb false)]) (.seq (.seq (.reg 1 [I.n 0 6 (I.mv 0),I.n 1 7 (I.ln 6 23),I.n 2 8 (I.mv 1),I.n 3 9 (I.ln 8 23),I.n 4 10 (I.bo .neq 3 7 9 3)]) (.cond (.tmp 10) (.seq (.reg 2 [I.n 0 4 (I.sb false)]) .ret) .skip)) (.seq (.seq (.reg 3 [I.n 0 5 (I.si 0)]) (.block 0 (.loop (.seq (.seq (.reg 4 [I.n 0 11 (I.mv 5),I.n 1 12 (I.mv 0),I.n 2 13 (I.ln 12 23),I.n 3 14 (I.bo .lss 3 11 13 3)]) (.cond (.tmp 14) .skip (.exit 0))) (.seq (.block 1 (.seq (.draw 6 [I.n 0 17 (I.mv 0),I.n 1 18 (I.mv 5),I.n 2 19 (I.ia 23 17 18),I.n 3 20 (I.ld 35 19),I.n 4 21 (I.mv 1),I.n 5 22 (I.mv 5),I.n 6 23 (I.ia 23 21 22),I.n 7 24 (I.ld 35 23),I.n 8 25 (I.bo .neq 35 20 24 35)] [[],[],[0,1],[2],[],[],[4,5],[6],[3,7]]) (.cond (.tmp 25) (.seq (.reg 7 [I.n 0 4 (I.sb false)]) .ret) .skip))) (.reg 5 [I.n 0 15 (I.mv 5),I.n 1 16 (I.bc .add 3 15 1 3),I.n 2 5 (I.sa 16)])))))) (.seq (.reg 8 [I.n 0 4 (I.sb true)]) .ret)))):=by
 intro c h
 have:c = Tryd.f34.body.get rfl:=by rw [<- Option.some_inj,<- h];rfl
 rw [this];rfl
instance (a b:Sp):Decidable (a = b):=decidable_of_iff (a.k = b.k /\ a.n = b.n /\ a.t = b.t) (by cases a;cases b;simp)
theorem aar{G:Prop}(h:G:=by (repeat' (first | refine' Ev.zS | refine' Ev.zK | ((with_reducible refine Ev.dG ?_);(first | refine Ev.dr 6 [] [0,1,2,3,4,5,6,7,8] ?_);intro Q hQ;(simp only [Ev.aj,Ev.ak]);conv=>whnf) | refine' Ev.zT | fail));all_goals(rcases(⟨_⟩:PLift _)with⟨h⟩;exact h)):G:=h
theorem ac2{G:Prop}(h:G:=by
 have:i = l.length:=by omega
 subst this
 rw [List.take_of_length_le (Nat.le_refl _),List.take_of_length_le (by omega)] at hf
 exact ⟨congrArg (fun b=>AV.v (Value.bool b)) (decide_eq_true hf).symm,rfl⟩):G:=h
theorem adn{G:Prop}(h:G:=by exact Ev.to ⟨[(0,_),(1,_),(4,_),(5,.v (.int .i64 ((0:Nat):Int)))],[],0⟩ ⟨rfl,rfl,rfl,rfl,trivial⟩ trivial (Nat.le_refl _) ⟨l.length,0,rfl,by omega,rfl⟩):G:=h
theorem aeo{G:Prop}(h:G:=by
 rename_i hne
 exact ⟨congrArg (fun b=>AV.v (Value.bool b)) (decide_eq_false (by rintro rfl;simp at hne)).symm,rfl⟩):G:=h
theorem af4{G:Prop}(h:G:=by exact ⟨congrArg (fun b=>AV.v (Value.bool b)) (decide_eq_false (by rintro rfl;omega)).symm,rfl⟩):G:=h
theorem yH (l m:List Sp) (hl:l.length <= 1000000000):aO env 34 [.lst 3 (aT l),.lst 3 (aT m)] (fun r hs=>r = .v (.bool (decide (l = m))) /\ hs = []):=by
 have hsl:=aV l
 have hsm:=aV m
 refine Ev.fn [0,1,4,5,10,14,25] 0 [.tmp 4] Tryd.func34 (abC _ rfl) ?_
 refine' aar
 rotate_left
 · refine' af4
 have hlen:l.length = m.length:=by omega
 refine Ev.loop (fun k s=>∃ i:Nat,s = ⟨[(0,.lst 3 (aT l)),(1,.lst 3 (aT m)),(4,.v (.bool false)),(5,.v (.int .i64 i))],[],0⟩ /\ k + i = l.length /\ l.take i = m.take i) ?_ ?_
 · refine' adn
 rintro k s1 ⟨i,rfl,hk,hf⟩
 refine' aar
 · rename_i heq
   have hm':i < m.length:=by omega
   exact Ev.again (k - 1) ⟨[(0,_),(1,_),(4,_),(5,.v (.int .i64 ((i + 1:Nat):Int)))],[],0⟩ (by omega) ⟨rfl,rfl,rfl,Ev.eu rfl (by rw [Ev.wrap64];omega),trivial⟩ trivial (Nat.le_refl _) ⟨i + 1,rfl,by omega,by
     rw [List.take_succ_eq_append_getElem (by omega),List.take_succ_eq_append_getElem hm',hf]
     congr 2
     obtain ⟨e1,e2,e3⟩:=heq
     cases h1:l[i];cases h2:m[i];simp_all⟩
 · refine' aeo
 · refine' ac2
def vF (b:Nat) (s:Sp):Sp:=⟨s.k,s.n,s.t.extract 0 (min s.t.size b)⟩
theorem abD:∀ c,Tryd.f31.body = some c -> comp c = (.seq (.reg 0 [I.n 0 4 I.sn]) (.seq (.reg 1 [I.n 0 8 (.buildSlice 23 0 #[]),I.n 1 5 (I.sa 8)]) (.seq (.seq (.reg 2 [I.n 0 6 (I.si 0)]) (.block 0 (.loop (.seq (.seq (.reg 3 [I.n 0 9 (I.mv 6),I.n 1 10 (I.mv 0),I.n 2 11 (I.ln 10 23),I.n 3 12 (I.bo .lss 3 9 11 3),I.n 4 13 (I.mv 12),I.w 5 14 (I.mv 6) 13 true,I.w 6 15 (I.bc .lss 3 14 12 3) 13 true,I.n 7 16 (I.pc 13 15 false)]) (.cond (.tmp 16) .skip (.exit 0))) (.seq (.block 1 (.seq (.reg 5 [I.n 0 19 (I.mv 0),I.n 1 20 (I.mv 6),I.n 2 21 (I.ia 23 19 20),I.n 3 22 (I.fa 35 21 0),I.n 4 23 (I.ld 3 22),I.n 5 24 (I.bc .rem 3 23 3 3),I.n 6 25 (I.bc .add 3 24 3 3),I.n 7 26 (I.bc .rem 3 25 3 3),I.n 8 27 (.binOp .add 3 (.const (Value.int .i64 1)) (.tmp 26) 3),I.n 9 28 (.build 35 #[(0,.tmp 27)]),I.n 10 7 (.alloc 35),I.u 11 (I.st 35 7 28)]) (.seq (.seq (.reg 6 [I.n 0 29 (I.fa 35 7 0),I.n 1 30 (I.ld 3 29),I.n 2 31 (I.bc .eql 3 30 2 3)]) (.cond (.tmp 31) (.draw 7 [I.n 0 32 (I.mv 0),I.n 1 33 (I.mv 6),I.n 2 34 (I.ia 23 32 33),I.n 3 35 (I.fa 35 34 2),I.n 4 36 (I.ld 9 35),I.n 5 37 (I.mv 0),I.n 6 38 (I.mv 6),I.n 7 39 (I.ia 23 37 38),I.n 8 40 (I.fa 35 39 2),I.n 9 41 (I.ld 9 40),I.n 10 42 (I.ln 41 9),I.n 11 43 (.call { callee:=.builtin .min,args:=#[.tmp 42,.const (Value.int .i64 6)],argTypes:=#[3,3] }),I.n 12 44 (.slice 9 (.tmp 36) none (some (.tmp 43)) none),I.n 13 45 (I.c1 37 44 9),I.n 14 46 (I.fa 35 7 2),I.u 15 (I.st 9 46 45)] [[],[],[0,1],[2],[3],[],[],[5,6],[7],[8],[9],[10],[4,11],[12],[0,1,2,3,4,5,6,7,8,9,10,11,12,13],[14,13,13,0,1,2,3,4,5,6,7,8,9,10,11,12,13]]) (.seq (.reg 8 [I.n 0 47 (I.mv 0),I.n 1 48 (I.mv 6),I.n 2 49 (I.ia 23 47 48),I.n 3 50 (I.fa 35 49 1),I.n 4 51 (I.ld 3 50),I.n 5 52 (I.bc .rem 3 51 7 3),I.n 6 53 (I.bc .add 3 52 7 3),I.n 7 54 (I.bc .rem 3 53 7 3),I.n 8 55 (I.mv 1),I.n 9 56 (.call { callee:=.builtin .min,args:=#[.tmp 54,.tmp 55],argTypes:=#[3,3] }),I.n 10 57 (I.fa 35 7 1),I.u 11 (I.st 3 57 56)]) (.reg 9 [I.n 0 58 (I.mv 1),I.n 1 59 (I.fa 35 7 1),I.n 2 60 (I.ld 3 59),I.n 3 61 (I.bo .sub 3 58 60 3),I.n 4 1 (I.sa 61)])))) (.reg 10 [I.n 0 62 (I.mv 5),I.n 1 63 (I.ld 35 7),I.n 2 64 (I.b1 23 63),I.n 3 65 (I.ap 62 64 23 23),I.n 4 5 (I.sa 65)])))) (.reg 4 [I.n 0 17 (I.mv 6),I.n 1 18 (I.bc .add 3 17 1 3),I.n 2 6 (I.sa 18)])))))) (.seq (.seq (.reg 11 [I.n 0 66 (I.mv 1),I.n 1 67 (I.bc .gtr 3 66 0 3)]) (.cond (.tmp 67) (.reg 12 [I.n 0 68 (I.mv 5),I.n 1 69 (I.mv 1),I.n 2 70 (.build 35 #[(0,.const (Value.int .i64 1)),(1,.tmp 69)]),I.n 3 71 (I.b1 23 70),I.n 4 72 (I.ap 68 71 23 23),I.n 5 5 (I.sa 72)]) .skip)) (.seq (.reg 13 [I.n 0 73 (I.mv 5),I.n 1 4 (I.sa 73)]) .ret))))):=by
 intro c h
 have:c = Tryd.f31.body.get rfl:=by rw [<- Option.some_inj,<- h];rfl
 rw [this];rfl
theorem OZ (k:Int):IntKind.i64.wrap (1 + (IntKind.i64.wrap (k.tmod 3 + 3)).tmod 3) = 1 + k % 3:=by
 have h:k.tmod 3 = k % 3 ∨ k.tmod 3 = k % 3 - 3:=by rw [Int.tmod_eq_emod];split <;> simp
 have h1:IntKind.i64.wrap (k.tmod 3 + 3) = k.tmod 3 + 3:=by rw [Ev.wrap64];omega
 rw [h1,Int.tmod_eq_emod_of_nonneg (by omega),Ev.wrap64];omega
theorem Xf (k:Int):(IntKind.i64.wrap (k.tmod 7 + 7)).tmod 7 = k % 7:=by
 have h:k.tmod 7 = k % 7 ∨ k.tmod 7 = k % 7 - 7:=by rw [Int.tmod_eq_emod];split <;> simp
 have h1:IntKind.i64.wrap (k.tmod 7 + 7) = k.tmod 7 + 7:=by rw [Ev.wrap64];omega
 rw [h1,Int.tmod_eq_emod_of_nonneg (by omega)];omega
def mZ (s:Sp) (n:Int):Sp:=if 1 + s.k % 3 = 2 then ⟨2,0,BD (s.t.extract 0 (min s.t.size 6))⟩ else ⟨1 + s.k % 3,min (s.n % 7) n,⟨#[]⟩⟩
def dW (p:List Sp × Int) (s:Sp):List Sp × Int:=(p.1 ++ [mZ s p.2],p.2 - (mZ s p.2).n)
def oJ (l:List Sp) (n:Int):List Sp × Int:=l.foldl dW ([],n)
theorem DR (l:List Sp) (n:Int) {i:Nat} (h:i < l.length):oJ (l.take (i + 1)) n = dW (oJ (l.take i) n) l[i]:=by
 unfold oJ;rw [List.take_succ_eq_append_getElem h,List.foldl_append];rfl
def qY (l:List Sp) (n:Int):List Sp:=(oJ (l.take 12) n).1 ++ if 0 < (oJ (l.take 12) n).2 then [⟨1,(oJ (l.take 12) n).2,⟨#[]⟩⟩] else []
theorem G7 (l:List Sp):∀ a,(l.foldl dW a).1.length = a.1.length + l.length:=by
 induction l with
 | nil=>simp
 | cons s l ih=>intro a;rw [List.foldl_cons,ih];simp [dW];omega
theorem SK (l:List Sp):∀ a:List Sp × Int,0 <= a.2 -> 0 <= (l.foldl dW a).2 /\ (l.foldl dW a).2 <= a.2:=by
 induction l with
 | nil=>intro a h;simp;omega
 | cons s l ih =>
   intro a h
   rw [List.foldl_cons]
   have h1:0 <= (dW a s).2 /\ (dW a s).2 <= a.2:=by
     simp only [dW,mZ];split
     · simp;omega
     · simp only;omega
   obtain ⟨h2,h3⟩:=ih _ h1.1
   omega
theorem DT (l:List Sp) (n:Int) (hn:0 <= n /\ n <= 2000000):aO env 31 [.lst 3 (aT l),.v (.int .i64 n)] (fun r hs=>r = .lst 3 (aT (qY l n)) /\ hs = []):=by
 have hsl:=aV l
 have hm:=Ev.Va
 refine Ev.fn [0,1,4,5,6,7,16,31,67] 0 [.tmp 4] Tryd.func31 (abD _ rfl) ?_
 repeat' (first | refine' Ev.zS | refine' Ev.zK | ((with_reducible refine Ev.dG ?_);(first | refine Ev.dr 7 [] [0,1,2,3,4,5,6,7,8,9,10,11,12,13,14,15] ?_);intro Q hQ;(simp only [Ev.aj,Ev.ak]);conv=>whnf) | refine' Ev.zT | fail)
 refine Ev.loop (fun k s=>∃ (i v c:Nat),s = ⟨[(0,.lst 3 (aT l)),(1,.v (.int .i64 (oJ (l.take i) n).2)),(4,.v (.slice none 0 0)),(5,.own 512 v 0 i),(6,.v (.int .i64 i))],[(512,⟨3,35,v,0,false,aT (oJ (l.take i) n).1⟩)],c⟩ /\ k + i = 12 /\ i <= l.length) ?_ ?_
 · refine Ev.zB ⟨12,0,?_,?_,rfl,?_⟩
   exact ⟨rfl,by omega⟩
 rintro k s1 ⟨i,v,c,rfl,hk,hi'⟩
 have hlen:(oJ (l.take i) n).1.length = i:=by unfold oJ;rw [G7];simp;omega
 have hsl2:=aV (oJ (l.take i) n).1
 obtain ⟨hn0,hn1⟩:0 <= (oJ (l.take i) n).2 /\ (oJ (l.take i) n).2 <= n:=SK (l.take i) ([],n) hn.1
 repeat' (first | refine' Ev.zS | refine' Ev.zK | ((refine Ev.aU (GX _ (by rw [ByteArray.size_extract];omega)) rfl rfl ?_);conv=>whnf) | ((with_reducible refine Ev.dG ?_);(first | refine Ev.dr 7 [] [0,1,2,3,4,5,6,7,8,9,10,11,12,13,14,15] ?_);intro Q hQ;(simp only [Ev.aj,Ev.ak]);conv=>whnf) | refine' Ev.zT | fail)
 · rename_i hk2 _
   rw [OZ] at hk2
   have hs:=DR l n hi
   have hf:mZ l[i] (oJ (l.take i) n).2 = ⟨2,0,BD (l[i].t.extract 0 (min l[i].t.size 6))⟩:=if_pos hk2
   have hx:(min (l[i].t.size:Int) 6).toNat = min l[i].t.size 6:=by omega
   refine Ev.zA (k - 1) ⟨i + 1,?_,?_,rfl,?_⟩ (by refine' Ev.zp <;> first | (first | (simp;done) | (rw [hs];simp [dW,hf,aT,qR,OZ,hk2,hx];done)) | rfl | (refine' Ev.ze;(first | (simp;done) | (rw [hs];simp [dW,hf,aT,qR,OZ,hk2,hx];done))) | fail)
   exact ⟨by omega,by omega⟩
 · rename_i hk2
   rw [OZ] at hk2
   have hs:=DR l n hi
   have hf:mZ l[i] (oJ (l.take i) n).2 = ⟨1 + l[i].k % 3,min (l[i].n % 7) (oJ (l.take i) n).2,⟨#[]⟩⟩:=if_neg hk2
   have hw:IntKind.i64.wrap ((oJ (l.take i) n).2 - min (l[i].n % 7) (oJ (l.take i) n).2) = (oJ (l.take i) n).2 - min (l[i].n % 7) (oJ (l.take i) n).2:=by rw [Ev.wrap64];omega
   refine Ev.zA (k - 1) ⟨i + 1,?_,?_,rfl,?_⟩ (by refine' Ev.zp <;> first | (first | (simp;done) | (rw [hs];simp [dW,hf,aT,qR,OZ,Xf];done) | (rw [hs,Xf];simp only [dW,hf];exact hw)) | rfl | (refine' Ev.ze;(first | (simp;done) | (rw [hs];simp [dW,hf,aT,qR,OZ,Xf];done) | (rw [hs,Xf];simp only [dW,hf];exact hw))) | fail)
   exact ⟨by omega,by omega⟩
 all_goals
   have hT:l.take 12 = l.take i:=by
     first
       | rw [show i = 12 by omega]
       | rw [List.take_of_length_le (by simp at *;omega),List.take_of_length_le (by simp at *;omega)]
   refine ⟨Ev.aB (Ev.Bg ?_ ?_),rfl⟩
   · simp [hlen,aV]
   · simp [qY,hT,aT,qR, *]
theorem wrap_add (a b:Int):IntKind.i64.wrap (IntKind.i64.wrap a + b) = IntKind.i64.wrap (a + b):=by simp only [Ev.wrap64];omega
theorem bg {a:Int} (h : -9223372036854775808 <= a /\ a < 9223372036854775808):IntKind.i64.wrap a = a:=by rw [Ev.wrap64];omega
def aY (f:Sp -> Int) (l:List Sp):Int:=(l.map f).sum
theorem wX (f:Sp -> Int):aY f [] = 0:=rfl
theorem bV (f:Sp -> Int) (s:Sp) (l:List Sp):aY f (s :: l) = f s + aY f l:=by simp [aY]
theorem G8 (f:Sp -> Int) (a b:List Sp):aY f (a ++ b) = aY f a + aY f b:=by simp [aY]
theorem DU (f:Sp -> Int):∀ (l:List Sp) (a:Int),l.foldl (fun a s=>IntKind.i64.wrap (a + f s)) (IntKind.i64.wrap a) = IntKind.i64.wrap (a + aY f l)
 | [],a=>by simp [aY]
 | s :: l,a=>by rw [List.foldl_cons,wrap_add,DU f l,bV,Int.add_assoc]
theorem KX (f:Sp -> Int) (l:List Sp):sumW f l = IntKind.i64.wrap (aY f l):=by
 have h:=DU f l 0
 rw [Int.zero_add] at h;rw [<- h];rfl
theorem jJ (f:Sp -> Int) (b:Int):∀ l:List Sp,(∀ s ∈ l,0 <= f s /\ f s <= b) -> 0 <= aY f l /\ aY f l <= b * l.length
 | [],_=>by simp [aY]
 | s :: l,h=>by
   have h1:=h s (by simp)
   have h2:=jJ f b l (fun s hs=>h s (by simp [hs]))
   rw [bV,List.length_cons]
   have:b * ((l.length + 1:Nat):Int) = b * l.length + b:=by rw [Int.natCast_succ,Int.mul_add,Int.mul_one]
   omega
def dZ (s:Sp):Int:=kN s.k s.n
def dO (s:Sp):Int:=kQ s.k s.n s.t
theorem JU (t:ByteArray):validD (BD t).data.toList = true:=OO t
theorem DV {s:Sp} (n:Int) (h:1 + s.k % 3 = 2):mZ s n = ⟨2,0,BD (s.t.extract 0 (min s.t.size 6))⟩:=if_pos h
theorem DW {s:Sp} (n:Int) (h:¬ 1 + s.k % 3 = 2):mZ s n = ⟨1 + s.k % 3,min (s.n % 7) n,⟨#[]⟩⟩:=if_neg h
theorem O1 (s:Sp) {n:Int} (h:0 <= n /\ n <= 1048576):oI (mZ s n) = 0:=by
 by_cases hk:1 + s.k % 3 = 2
 · rw [DV n hk];simp [oI,yC,JU]
 · rw [DW n hk]
   have:1 + s.k % 3 = 1 ∨ 1 + s.k % 3 = 3:=by omega
   simp only [oI,yC,this,if_true]
   rw [if_neg (by omega)]
theorem Xg (s:Sp) {n:Int} (h:0 <= n):0 <= (mZ s n).n /\ (mZ s n).n <= 6 /\ (mZ s n).n <= n /\ dZ (mZ s n) = (mZ s n).n:=by
 by_cases hk:1 + s.k % 3 = 2
 · rw [DV n hk];simp [dZ,kN];omega
 · rw [DW n hk]
   have:1 + s.k % 3 = 1 ∨ 1 + s.k % 3 = 3:=by omega
   simp only [dZ,kN,this,if_true,and_true];omega
theorem Xh (s:Sp) (n:Int):(mZ s n).t.size <= 24:=by
 unfold mZ;split
 · have h:=KW (yF (s.t.extract 0 (min s.t.size 6)) (s.t.extract 0 (min s.t.size 6)).size)
   rw [wW,<- yE,bD] at h
   have e:(s.t.extract 0 (min s.t.size 6)).size <= 6:=by rw [ByteArray.size_extract];omega
   show (BD _).size <= 24
   unfold BD;omega
 · show (⟨#[]⟩:ByteArray).size <= 24;decide
theorem SL (l:List Sp):∀ a:List Sp × Int,(0 <= a.2 /\ a.2 <= 1048576) -> (∀ s ∈ a.1,oI s = 0 /\ s.t.size <= 24 /\ 0 <= dZ s /\ dZ s <= 6) ->
   (∀ s ∈ (l.foldl dW a).1,oI s = 0 /\ s.t.size <= 24 /\ 0 <= dZ s /\ dZ s <= 6) /\ aY dZ (l.foldl dW a).1 + (l.foldl dW a).2 = aY dZ a.1 + a.2:=by
 induction l with
 | nil=>intro a _ h;exact ⟨h,rfl⟩
 | cons s l ih =>
   intro a ha h
   rw [List.foldl_cons]
   obtain ⟨b1,b2,b3,b4⟩:=Xg s ha.1
   have key:=ih (dW a s) (by simp only [dW];omega) (by
     intro x hx
     simp only [dW,List.mem_append,List.mem_singleton] at hx
     rcases hx with hx | rfl
     · exact h x hx
     · exact ⟨O1 s ha,Xh s _,by omega,by omega⟩)
   refine ⟨key.1,?_⟩
   rw [key.2]
   simp only [dW,G8,bV,wX,b4];omega
theorem BF (l:List Sp) {n:Int} (hn:0 <= n /\ n <= 1048576):(∀ s ∈ qY l n,oI s = 0 /\ s.t.size <= 24 /\ 0 <= dZ s /\ dZ s <= 1048576) /\ aY dZ (qY l n) = n /\ (qY l n).length <= 13:=by
 obtain ⟨h1,h2⟩:=SL (l.take 12) ([],n) hn (by simp)
 obtain ⟨h3,h4⟩:=SK (l.take 12) ([],n) hn.1
 have h5:=G7 (l.take 12) ([],n)
 rw [show (l.take 12).foldl dW ([],n) = oJ (l.take 12) n from rfl] at h1 h2 h3 h4 h5
 rw [wX] at h2
 simp only at h2 h3 h4 h5
 unfold qY
 refine ⟨?_,?_,?_⟩
 · intro s hs
   rw [List.mem_append] at hs
   rcases hs with hs | hs
   · obtain ⟨a,b,c,d⟩:=h1 s hs;exact ⟨a,b,c,by omega⟩
   · split at hs
     · simp only [List.mem_singleton] at hs;subst hs
       refine ⟨?_,?_,?_⟩
       · simp only [oI,yC,true_or,if_true];rw [if_neg (by omega)]
       · show (⟨#[]⟩:ByteArray).size <= 24;decide
       · simp only [dZ,kN,true_or,if_true];omega
     · simp at hs
 · rw [G8]
   split
   · simp only [bV,wX,dZ,kN,true_or,if_true];omega
   · rw [wX];omega
 · rw [List.length_append,h5]
   have:(l.take 12).length <= 12:=by rw [List.length_take];omega
   split <;> simp <;> omega
theorem zo (f:Sp -> Int):∀ l:List Sp,(∀ s ∈ l,f s = 0) -> fU f l = 0
 | [],_=>rfl
 | s :: l,h=>by simp only [fU];rw [if_pos (h s (by simp))];exact zo f l (fun x hx=>h x (by simp [hx]))
theorem JV (l:List Sp):iT l = IntKind.i64.wrap (aY dZ l):=KX _ _
theorem ku (l:List Sp):outW l = IntKind.i64.wrap (aY dO l):=KX _ _
theorem KY (l:List Sp) {n:Int} (hn:0 <= n /\ n <= 1048576):iT (qY l n) = n:=by
 rw [JV,(BF l hn).2.1];exact bg (by omega)
theorem SN (l:List Sp) {n:Int} (hn:0 <= n /\ n <= 1048576):aC (qY l n) = 0:=by
 unfold aC
 rw [zo _ _ (fun s hs=>((BF l hn).1 s hs).1),if_pos rfl,KY l hn,if_neg (by omega)]
end Go.Proofs.YtadlnaljicikfaaDoor.aI
namespace Go.Proofs.YtadlnaljicikfaaDoor.aI
open Go Go.Lib
theorem G9 {n n' b0 b1 b2 b3 c1 c2 c3:Nat} (h1:1 < n -> 1 < n' /\ c1 = b1) (h2:2 < n -> 2 < n' /\ c2 = b2) (h3:3 < n -> 3 < n' /\ c3 = b3) (h:decodeN n b0 b1 b2 b3 ≠ (65533,1)):decodeN n' b0 c1 c2 c3 = decodeN n b0 b1 b2 b3:=by
 unfold decodeN at h ⊢
 by_cases a0:b0 < 128
 · rw [if_pos a0,if_pos a0]
 rw [if_neg a0] at h ⊢
 rw [if_neg a0]
 by_cases a1:b0 / 32 = 6 /\ (1 < n /\ b1 / 64 = 2)
 · obtain ⟨x,rfl⟩:=h1 a1.2.1
   rw [if_pos a1,if_pos ⟨a1.1,x,a1.2.2⟩]
 rw [if_neg a1] at h ⊢
 by_cases a2:b0 / 16 = 14 /\ (1 < n /\ b1 / 64 = 2) /\ (2 < n /\ b2 / 64 = 2)
 · obtain ⟨x,rfl⟩:=h1 a2.2.1.1
   obtain ⟨y,rfl⟩:=h2 a2.2.2.1
   have a1':¬ (b0 / 32 = 6 /\ (1 < n' /\ c1 / 64 = 2)):=by omega
   rw [if_neg a1',if_pos a2,if_pos ⟨a2.1,⟨x,a2.2.1.2⟩,y,a2.2.2.2⟩]
 rw [if_neg a2] at h ⊢
 by_cases a3:b0 / 8 = 30 /\ (1 < n /\ b1 / 64 = 2) /\ (2 < n /\ b2 / 64 = 2) /\ (3 < n /\ b3 / 64 = 2)
 · obtain ⟨x,rfl⟩:=h1 a3.2.1.1
   obtain ⟨y,rfl⟩:=h2 a3.2.2.1.1
   obtain ⟨z,rfl⟩:=h3 a3.2.2.2.1
   have a1':¬ (b0 / 32 = 6 /\ (1 < n' /\ c1 / 64 = 2)):=by omega
   have a2':¬ (b0 / 16 = 14 /\ (1 < n' /\ c1 / 64 = 2) /\ (2 < n' /\ c2 / 64 = 2)):=by omega
   rw [if_neg a1',if_neg a2',if_pos a3,if_pos ⟨a3.1,⟨x,a3.2.1.2⟩,⟨y,a3.2.2.1.2⟩,z,a3.2.2.2.2⟩]
 rw [if_neg a3] at h
 exact absurd rfl h
theorem vG {a:List UInt8} (ha:a ≠ []) (h:decodeL a ≠ (65533,1)) (b:List UInt8):decodeL (a ++ b) = decodeL a:=by
 have hp:=List.length_pos_iff.2 ha
 rw [decodeL_N] at h ⊢
 rw [decodeL_N a]
 have g:∀ i,i < a.length -> ((a ++ b).getD i 0).toNat = (a.getD i 0).toNat:=fun i hi=>by
   simp only [List.getD_eq_getElem?_getD,List.getElem?_append_left hi]
 rw [g 0 hp]
 refine G9 (fun h1=>?_) (fun h1=>?_) (fun h1=>?_) h
 · exact ⟨by rw [List.length_append];omega,g 1 h1⟩
 · exact ⟨by rw [List.length_append];omega,g 2 h1⟩
 · exact ⟨by rw [List.length_append];omega,g 3 h1⟩
def oW:Nat -> List UInt8 -> List Nat
 | 0,_=>[]
 | n + 1,l=>if l = [] then [] else (decodeL l).1 :: oW n (l.drop (decodeL l).2)
def pts (l:List UInt8):List Nat:=oW l.length l
theorem BG:∀ (n m:Nat) (l:List UInt8),l.length <= n -> l.length <= m -> oW n l = oW m l
 | 0,0,l,_,_=>rfl
 | 0,m + 1,l,h,_=>by
   have:l = []:=List.length_eq_zero_iff.1 (by omega)
   subst this;simp [oW]
 | n + 1,0,l,_,h=>by
   have:l = []:=List.length_eq_zero_iff.1 (by omega)
   subst this;simp [oW]
 | n + 1,m + 1,l,h1,h2=>by
   simp only [oW]
   by_cases he:l = []
   · rw [if_pos he,if_pos he]
   · rw [if_neg he,if_neg he]
     have:=decodeL_width l
     rw [BG n m _ (by rw [List.length_drop];omega) (by rw [List.length_drop];omega)]
theorem EU:pts [] = []:=rfl
theorem ng {l:List UInt8} (h:l ≠ []):pts l = (decodeL l).1 :: pts (l.drop (decodeL l).2):=by
 unfold pts
 refine' aeb
 rw [hn,oW,if_neg h]
 have:=decodeL_width l
 rw [BG n _ _ (by rw [List.length_drop];omega) (Nat.le_refl _)]
theorem wY {P:List UInt8 -> Prop} (h0:P []) (h1:∀ l,l ≠ [] -> validD l = true -> decodeL l ≠ (65533,1) -> validD (l.drop (decodeL l).2) = true -> P (l.drop (decodeL l).2) -> P l):∀ l,validD l = true -> P l:=by
 have key:∀ n (l:List UInt8),l.length <= n -> validD l = true -> P l:=by
   intro n
   induction n with
   | zero=>intro l hl _;have:l = []:=List.length_eq_zero_iff.1 (by omega);subst this;exact h0
   | succ n ih =>
     intro l hl hv
     by_cases he:l = []
     · subst he;exact h0
     · have hs:=hv
       rw [validD_step he] at hs
       by_cases hd:decodeL l = (65533,1)
       · rw [if_pos hd] at hs;cases hs
       · rw [if_neg hd] at hs
         have hw:=decodeL_width l
         have hp:=List.length_pos_iff.2 he
         exact h1 l he hv hd hs (ih _ (by rw [List.length_drop];omega) hs)
 intro l;exact key l.length l (Nat.le_refl _)
theorem He {l:List UInt8} (he:l ≠ []) (b:List UInt8):(l ++ b).drop (decodeL l).2 = l.drop (decodeL l).2 ++ b:=by
 rw [List.drop_append_of_le_length (decodeL_le l he)]
theorem DX:∀ a,validD a = true -> ∀ b,validD (a ++ b) = validD b:=by
 refine wY (fun b=>rfl) (fun l he hv hd hs ih b=>?_)
 have hne:l ++ b ≠ []:=by simp [he]
 rw [validD_step hne,vG he hd,if_neg hd,He he,ih]
theorem KZ:∀ a,validD a = true -> ∀ b,pts (a ++ b) = pts a ++ pts b:=by
 refine wY (fun b=>by simp [EU]) (fun l he hv hd hs ih b=>?_)
 have hne:l ++ b ≠ []:=by simp [he]
 rw [ng hne,vG he hd,He he,ih,ng he,List.cons_append]
theorem wZ:∀ (l:List UInt8) (a:Int),(nN l a).length = (pts l).length:=by
 have key:∀ n (l:List UInt8) (a:Int),l.length <= n -> (nN l a).length = (pts l).length:=by
   intro n
   induction n with
   | zero=>intro l a hl;have:l = []:=List.length_eq_zero_iff.1 (by omega);subst this;rfl
   | succ n ih =>
     intro l a hl
     by_cases he:l = []
     · subst he;rfl
     · have hw:=decodeL_width l
       have hp:=List.length_pos_iff.2 he
       rw [tK he,ng he,List.length_cons,List.length_cons,ih _ _ (by rw [List.length_drop];omega)]
 intro l a;exact key l.length l a (Nat.le_refl _)
theorem bH {l:List UInt8} (h:validD l = true):bG l = (pts l).length:=by
 unfold bG;rw [if_pos h,wZ]
theorem vH {l:List UInt8} (h:validD l = false):bG l = -1:=by
 unfold bG;rw [h];rfl
theorem JW {a b:List UInt8} (ha:validD a = true) (hb:validD b = true):bG (a ++ b) = bG a + bG b:=by
 rw [bH ha,bH hb,bH (by rw [DX a ha,hb]),KZ a ha,List.length_append];rfl
theorem oq (l:List UInt8):(pts l).length <= l.length:=by rw [<- wZ l 0];exact GR l 0
theorem abE {l:List UInt8} (h:l ≠ []):pts l ≠ []:=by rw [ng h];simp
theorem tN (a b:ByteArray):(a ++ b).data.toList = a.data.toList ++ b.data.toList:=SE a b
theorem La {t:ByteArray}:t = ⟨#[]⟩ ↔ t.data.toList = []:=by
 constructor
 · rintro rfl;rfl
 · intro h;cases t with | mk d=>simp at h;subst h;rfl
def emptyS (s:Sp):Bool:=decide (s.n = 0) && decide (s.t = ⟨#[]⟩)
def xg (p:Option Int):List Sp -> Bool
 | []=>true
 | s :: l=>!emptyS s && !decide (p = some s.k) && xg (some s.k) l
def UF (l:List Sp):Bool:=xg none l
def mrg (a b:Sp):Sp:=⟨a.k,IntKind.i64.wrap (a.n + b.n),a.t ++ b.t⟩
def fG (cur:Sp):List Sp -> List Sp
 | []=>[cur]
 | s :: l=>if emptyS s then fG cur l else if s.k = cur.k then fG (mrg cur s) l else cur :: fG s l
def norm:List Sp -> List Sp
 | []=>[]
 | s :: l=>if emptyS s then norm l else fG s l
def bM (s:Sp):Prop:=oI s = 0
theorem bM.cases {s:Sp} (h:bM s):((s.k = 1 ∨ s.k = 3) /\ 0 <= s.n /\ s.n <= 1048576 /\ s.t = ⟨#[]⟩) ∨ (s.k = 2 /\ s.n = 0 /\ validD s.t.data.toList = true):=by
 unfold bM oI yC at h
 by_cases h1:s.k = 1 ∨ s.k = 3
 · rw [if_pos h1] at h
   by_cases h2:s.n < 0 ∨ 1048576 < s.n
   · rw [if_pos h2] at h;exact absurd h (by decide)
   · rw [if_neg h2] at h
     by_cases h3:s.t = ⟨#[]⟩
     · exact .inl ⟨h1,by omega,by omega,h3⟩
     · rw [if_neg h3] at h;exact absurd h (by decide)
 · rw [if_neg h1] at h
   by_cases h2:s.k = 2
   · rw [if_pos h2] at h
     by_cases h3:s.n ≠ 0
     · rw [if_pos h3] at h;exact absurd h (by decide)
     · rw [if_neg h3] at h
       cases hv:validD s.t.data.toList with
       | true=>exact .inr ⟨h2,by omega,rfl⟩
       | false=>rw [hv] at h;exact absurd h (by decide)
   · rw [if_neg h2] at h;exact absurd h (by decide)
theorem bM.keep {s:Sp} (h1:s.k = 1 ∨ s.k = 3) (h2:0 <= s.n /\ s.n <= 1048576) (h3:s.t = ⟨#[]⟩):bM s:=by
 unfold bM oI yC;rw [if_pos h1,if_neg (by omega),if_pos h3]
theorem bM.put {s:Sp} (h1:s.k = 2) (h2:s.n = 0) (h3:validD s.t.data.toList = true):bM s:=by
 unfold bM oI yC;rw [if_neg (by omega),if_pos h1,if_neg (by omega),if_pos h3]
theorem kR (l:List Sp):aC l = 0 ↔ (∀ s ∈ l,bM s) /\ iT l <= 1048576:=by
 have h:fU oI l = 0 ↔ ∀ s ∈ l,bM s:=by
   induction l with
   | nil=>simp [fU]
   | cons s l ih =>
     simp only [fU,List.mem_cons,forall_eq_or_imp]
     by_cases h:oI s = 0
     · rw [if_pos h,ih];exact ⟨fun a=>⟨h,a⟩,fun a=>a.2⟩
     · rw [if_neg h];exact ⟨fun a=>absurd a h,fun a=>absurd a.1 h⟩
 unfold aC
 by_cases h0:fU oI l = 0
 · rw [if_pos h0]
   by_cases h1:1048576 < iT l
   · rw [if_pos h1];exact ⟨fun a=>absurd a (by decide),fun a=>by omega⟩
   · rw [if_neg h1];exact ⟨fun _=>⟨h.1 h0,by omega⟩,fun _=>rfl⟩
 · rw [if_neg h0];exact ⟨fun a=>absurd a h0,fun a=>absurd (h.2 a.1) h0⟩
theorem bM.dZ {s:Sp} (h:bM s):0 <= dZ s /\ dZ s <= 1048576:=by
 unfold aI.dZ kN
 rcases h.cases with ⟨a,b,c,_⟩ | ⟨a,b,_⟩
 · rw [if_pos a];exact ⟨b,c⟩
 · rw [if_neg (by omega)];omega
theorem xk {l:List Sp} (h:∀ s ∈ l,bM s) (hl:l.length <= 1000000000):iT l = aY dZ l:=by
 rw [JV]
 have:=jJ dZ 1048576 l (fun s hs=>(h s hs).dZ)
 exact bg (by omega)
theorem lT {s:Sp}:emptyS s = true ↔ s.n = 0 /\ s.t = ⟨#[]⟩:=by simp [emptyS]
theorem sF {s:Sp} (h:emptyS s = true):dZ s = 0 /\ dO s = 0:=by
 obtain ⟨h1,h2⟩:=lT.1 h
 unfold dZ dO kN kQ
 rw [h1,h2]
 refine ⟨by split <;> rfl,?_⟩
 split
 · rfl
 · split
   · rfl
   · rfl
def bT (l:List Sp):Nat:=(l.map fun s=>s.t.size).sum
theorem aN (s:Sp) (l:List Sp):bT (s :: l) = s.t.size + bT l:=by simp [bT]
theorem DY {s:Sp} (h:emptyS s = true):s.t.size = 0:=by rw [(lT.1 h).2];rfl
theorem Hf (a b:ByteArray):(a ++ b).size = a.size + b.size:=by rw [<- bD,<- bD,<- bD,tN,List.length_append]
theorem EW {a b:Sp} (ha:bM a) (hb:bM b) (hk:b.k = a.k) (hs:dZ a + dZ b <= 1048576):bM (mrg a b) /\ dZ (mrg a b) = dZ a + dZ b /\ dO (mrg a b) = dO a + dO b /\ (mrg a b).t.size = a.t.size + b.t.size /\ (mrg a b).n = a.n + b.n:=by
 rcases ha.cases with ⟨a1,a2,a3,a4⟩ | ⟨a1,a2,a3⟩
 · rcases hb.cases with ⟨b1,b2,b3,b4⟩ | ⟨b1,b2,b3⟩
   · have e1:dZ a = a.n:=by unfold dZ kN;rw [if_pos a1]
     have e2:dZ b = b.n:=by unfold dZ kN;rw [if_pos b1]
     rw [e1,e2] at hs ⊢
     have ew:IntKind.i64.wrap (a.n + b.n) = a.n + b.n:=bg (by omega)
     have hm:mrg a b = ⟨a.k,a.n + b.n,⟨#[]⟩⟩:=by
       unfold mrg;rw [ew,a4,b4];rfl
     rw [hm]
     refine ⟨bM.keep a1 (by simp only;omega) rfl,?_,?_,?_,rfl⟩
     · unfold dZ kN;simp only;rw [if_pos a1]
     · unfold dO kQ;simp only;rw [hk]
       by_cases h1:a.k = 1
       · rw [if_pos h1,if_pos h1,if_pos h1]
       · rw [if_neg h1,if_neg h1,if_neg h1,if_neg (by omega),if_neg (by omega),if_neg (by omega)];rfl
     · rw [a4,b4];rfl
   · omega
 · rcases hb.cases with ⟨b1,b2,b3,b4⟩ | ⟨b1,b2,b3⟩
   · omega
   · have ew:IntKind.i64.wrap (a.n + b.n) = 0:=by rw [a2,b2];rfl
     have hm:mrg a b = ⟨a.k,0,a.t ++ b.t⟩:=by unfold mrg;rw [ew]
     rw [hm]
     have hv:validD (a.t ++ b.t).data.toList = true:=by rw [tN,DX _ a3,b3]
     refine ⟨bM.put a1 rfl hv,?_,?_,Hf _ _,by simp only;omega⟩
     · unfold dZ kN;simp only;rw [hk,a1];rfl
     · unfold dO kQ;simp only;rw [hk,a1]
       simp only [show ¬ ((2:Int) = 1) by decide,if_false,if_true]
       rw [tN,JW a3 b3]
       have:=bH a3;have:=bH b3
       omega
theorem tV:∀ (l:List Sp) (cur:Sp),bM cur -> (∀ s ∈ l,bM s) -> dZ cur + aY dZ l <= 1048576 ->
   (∀ s ∈ fG cur l,bM s) /\ aY dZ (fG cur l) = dZ cur + aY dZ l /\ aY dO (fG cur l) = dO cur + aY dO l /\ bT (fG cur l) = cur.t.size + bT l /\ (fG cur l).length <= l.length + 1
 | [],cur,hc,hl,hs=>by
   refine ⟨fun s h=>?_,by simp [fG,aY],by simp [fG,aY],by simp [fG,bT],by simp [fG]⟩
   simp [fG] at h;subst h;exact hc
 | s :: l,cur,hc,hl,hs=>by
   have h1:=hl s (by simp)
   have h2:∀ x ∈ l,bM x:=fun x hx=>hl x (by simp [hx])
   have h3:0 <= aY dZ l:=(jJ dZ 1048576 l (fun x hx=>(h2 x hx).dZ)).1
   have h4:=h1.dZ;have h5:=hc.dZ
   rw [bV] at hs
   simp only [fG,bV,aN,List.length_cons]
   by_cases he:emptyS s = true
   · rw [if_pos he]
     obtain ⟨e1,e2⟩:=sF he
     have e3:=DY he
     obtain ⟨a,b,c,d,f⟩:=tV l cur hc h2 (by omega)
     exact ⟨a,by omega,by omega,by omega,by omega⟩
   · rw [if_neg he]
     by_cases hk:s.k = cur.k
     · rw [if_pos hk]
       obtain ⟨m1,m2,m3,m4,_⟩:=EW hc h1 hk (by omega)
       obtain ⟨a,b,c,d,f⟩:=tV l (mrg cur s) m1 h2 (by omega)
       exact ⟨a,by omega,by omega,by omega,by omega⟩
     · rw [if_neg hk]
       obtain ⟨a,b,c,d,f⟩:=tV l s h1 h2 (by omega)
       refine ⟨fun x hx=>?_,by rw [bV];omega,by rw [bV];omega,by rw [aN];omega,by rw [List.length_cons];omega⟩
       rcases List.mem_cons.1 hx with rfl | hx
       · exact hc
       · exact a x hx
theorem oZ:∀ (l:List Sp),(∀ s ∈ l,bM s) -> aY dZ l <= 1048576 ->
   (∀ s ∈ norm l,bM s) /\ aY dZ (norm l) = aY dZ l /\ aY dO (norm l) = aY dO l /\ bT (norm l) = bT l /\ (norm l).length <= l.length
 | [],hl,hs=>by simp [norm]
 | s :: l,hl,hs=>by
   have h1:=hl s (by simp)
   have h2:∀ x ∈ l,bM x:=fun x hx=>hl x (by simp [hx])
   rw [bV] at hs
   simp only [norm,bV,aN,List.length_cons]
   by_cases he:emptyS s = true
   · rw [if_pos he]
     obtain ⟨e1,e2⟩:=sF he
     have e3:=DY he
     obtain ⟨a,b,c,d,f⟩:=oZ l h2 (by omega)
     exact ⟨a,by omega,by omega,by omega,by omega⟩
   · rw [if_neg he]
     exact tV l s h1 h2 hs
theorem tX:∀ (l:List Sp) (cur:Sp) (p:Option Int),emptyS cur = false -> bM cur -> (∀ s ∈ l,bM s) -> dZ cur + aY dZ l <= 1048576 -> p ≠ some cur.k -> xg p (fG cur l) = true
 | [],cur,p,hc,_,_,_,hp=>by simp [fG,xg,hc,hp]
 | s :: l,cur,p,hc,ho,hl,hs,hp=>by
   have h1:=hl s (by simp)
   have h2:∀ x ∈ l,bM x:=fun x hx=>hl x (by simp [hx])
   have h3:0 <= aY dZ l:=(jJ dZ 1048576 l (fun x hx=>(h2 x hx).dZ)).1
   have h4:=h1.dZ;have h5:=ho.dZ
   rw [bV] at hs
   simp only [fG]
   by_cases he:emptyS s = true
   · rw [if_pos he]
     exact tX l cur p hc ho h2 (by have:=(sF he).1;omega) hp
   · rw [if_neg he]
     by_cases hk:s.k = cur.k
     · rw [if_pos hk]
       obtain ⟨m1,m2,m3,m4,m5⟩:=EW ho h1 hk (by omega)
       refine tX l (mrg cur s) p ?_ m1 h2 (by omega) hp
       rw [Bool.eq_false_iff]
       intro hb
       obtain ⟨b1,b2⟩:=lT.1 hb
       rw [b2] at m4
       have:cur.t.size = 0:=by have:(⟨#[]⟩:ByteArray).size = 0:=rfl;omega
       have hct:cur.t = ⟨#[]⟩:=La.2 (List.length_eq_zero_iff.1 (by rw [bD];exact this))
       have hn:cur.n ≠ 0:=fun hn=>by rw [<- Bool.not_eq_true] at hc;exact hc (lT.2 ⟨hn,hct⟩)
       rcases ho.cases with ⟨_,x,_⟩ | ⟨_,x,_⟩ <;> rcases h1.cases with ⟨_,y,_⟩ | ⟨_,y,_⟩ <;> omega
     · rw [if_neg hk]
       simp only [xg,hc,Bool.not_false,Bool.true_and,Bool.and_eq_true]
       refine ⟨by simp [hp],?_⟩
       exact tX l s (some cur.k) (by simpa using he) h1 h2 (by omega) (by intro e;exact hk (Option.some.inj e).symm)
theorem xq:∀ (l:List Sp),(∀ s ∈ l,bM s) -> aY dZ l <= 1048576 -> UF (norm l) = true
 | [],_,_=>rfl
 | s :: l,hl,hs=>by
   have h1:=hl s (by simp)
   have h2:∀ x ∈ l,bM x:=fun x hx=>hl x (by simp [hx])
   rw [bV] at hs
   simp only [norm]
   by_cases he:emptyS s = true
   · rw [if_pos he];exact xq l h2 (by have:=(sF he).1;omega)
   · rw [if_neg he];exact tX l s none (by simpa using he) h1 h2 hs (by simp)
end Go.Proofs.YtadlnaljicikfaaDoor.aI
namespace Go.Proofs.YtadlnaljicikfaaDoor.aI
open Go
set_option maxRecDepth 100000
attribute [local irreducible] Ev.iH Ev.iR Ev.bY Ev.runK Ev.cu Ev.gK Ev.Side Ev.Wp Ev.Again Ev.To Ev.Fin
open Go.Lib Go.RowKit
theorem wrap_succ {i:Nat} (h:i <= 1000000000):IntKind.i64.wrap ((i:Int) + 1) = ((i + 1:Nat):Int):=by rw [bg (by omega)];omega
theorem abG:∀ c,Tryd.f80.body = some c -> comp c = (.seq (.reg 0 [I.n 0 1 (.box 35 (.tmp 0)),I.n 1 2 (I.sb false)]) (.seq (.reg 1 [I.n 0 3 (I.fa 35 1 1),I.n 1 4 (I.ld 3 3),I.n 2 5 (I.bc .eql 3 4 0 3),I.n 3 6 (I.mv 5),I.w 4 7 (I.fa 35 1 2) 6 true,I.w 5 8 (I.ld 9 7) 6 true,I.w 6 9 (.binOp .eql 9 (.tmp 8) (.const (Value.string { data:=#[] })) 9) 6 true,I.n 7 10 (I.pc 6 9 false),I.n 8 2 (I.sa 10)]) .ret)):=by
 intro c h
 have:c = Tryd.f80.body.get rfl:=by rw [<- Option.some_inj,<- h];rfl
 rw [this];rfl
theorem qK (s:Sp):aO env 80 [lH s.k s.n s.t] (fun r hs=>r = .v (.bool (emptyS s)) /\ hs = []):=by
 refine Ev.fn [0,1,2] 0 [.tmp 2] Tryd.func80 (abG _ rfl) ?_
 refine' Ev.zW
 · rename_i h
   exact ⟨Ev.qG (by simp [emptyS,h]),rfl⟩
 · rename_i h
   exact ⟨Ev.qG (by simp [emptyS,h]),rfl⟩
theorem xu (l:List Sp) {i:Nat} (hi:i < l.length):bT (l.take (i + 1)) = bT (l.take i) + l[i].t.size:=by
 unfold bT;rw [List.take_succ_eq_append_getElem hi,List.map_append,List.sum_append];simp
theorem JX (l:List Sp) (i:Nat):bT (l.take i) <= bT l:=by
 have:bT l = bT (l.take i) + bT (l.drop i):=by
   conv=>lhs;rw [<- List.take_append_drop i l]
   unfold bT;rw [List.map_append,List.sum_append]
 omega
theorem aA (a b:List Sp):aT (a ++ b) = aT a ++ aT b:=by simp [aT]
theorem SQ:∀ c,Tryd.f35.body = some c -> comp c = (.seq (.reg 0 [I.n 0 2 I.sn]) (.seq (.reg 1 [I.n 0 7 (I.mv 0),I.n 1 8 (I.ln 7 23),I.n 2 9 (.makeSlice 23 (.tmp 8) (.tmp 8)),I.n 3 3 (I.sa 9)]) (.seq (.reg 2 [I.n 0 10 (I.mv 3),I.n 1 11 (I.mv 0),I.n 2 12 (.call { callee:=.builtin .copy,args:=#[.tmp 10,.tmp 11],argTypes:=#[23,23] })]) (.seq (.reg 3 [I.n 0 13 (I.mv 3),I.n 1 14 (.call { callee:=.value (.func 79),args:=#[.tmp 13,.func 80],argTypes:=#[23,112] }),I.n 2 3 (I.sa 14)]) (.seq (.reg 4 [I.n 0 4 (I.si 0)]) (.seq (.seq (.reg 5 [I.n 0 15 (I.mv 3),I.n 1 16 (I.ln 15 23),I.n 2 17 (.move (.const (Value.int .i64 0)))]) (.block 0 (.loop (.seq (.reg 6 [I.n 0 18 (I.bo .lss 3 17 16 3)]) (.seq (.cond (.tmp 18) .skip (.exit 0)) (.seq (.block 1 (.seq (.reg 7 [I.n 0 19 (I.mv 17),I.n 1 20 (I.ia 23 15 17),I.n 2 21 (I.ld 35 20),I.n 3 6 (.alloc 35),I.n 4 5 (I.sa 19),I.u 5 (I.st 35 6 21)]) (.block 2 (.seq (.reg 10 [I.n 0 29 (I.mv 5),I.n 1 30 (I.bc .eql 3 29 0 3),I.n 2 28 (I.sa 30)]) (.cond (.tmp 28) .skip (.seq (.draw 11 [I.n 0 32 (I.fa 35 6 0),I.n 1 33 (I.ld 3 32),I.n 2 34 (I.mv 3),I.n 3 35 (I.mv 4),I.n 4 36 (I.ia 23 34 35),I.n 5 37 (I.fa 35 36 0),I.n 6 38 (I.ld 3 37),I.n 7 39 (I.bo .eql 3 33 38 3),I.n 8 31 (I.sa 39)] [[],[0],[],[],[2,3],[4],[5],[1,6],[7]]) (.cond (.tmp 31) (.seq (.draw 12 [I.n 0 40 (I.mv 3),I.n 1 41 (I.mv 4),I.n 2 42 (I.ia 23 40 41),I.n 3 43 (I.fa 35 42 1),I.n 4 44 (I.ld 3 43),I.n 5 45 (I.fa 35 6 1),I.n 6 46 (I.ld 3 45),I.n 7 47 (I.bo .add 3 44 46 3),I.n 8 48 (I.ia 23 40 41),I.n 9 49 (I.fa 35 48 1),I.u 10 (I.st 3 49 47)] [[],[],[0,1],[2],[3],[],[5],[4,6],[0,1,0,1,2,3,4,5,6,7],[8,0,1,2,3,4,5,6,7],[9,7,0,1,2,3,4,5,6,7]]) (.draw 13 [I.n 0 50 (I.mv 3),I.n 1 51 (I.mv 4),I.n 2 52 (I.ia 23 50 51),I.n 3 53 (I.fa 35 52 2),I.n 4 54 (I.ld 9 53),I.n 5 55 (I.fa 35 6 2),I.n 6 56 (I.ld 9 55),I.n 7 57 (I.bo .add 9 54 56 9),I.n 8 58 (I.ia 23 50 51),I.n 9 59 (I.fa 35 58 2),I.u 10 (I.st 9 59 57)] [[],[],[0,1],[2],[3],[],[5],[4,6],[0,1,0,1,2,3,4,5,6,7],[8,0,1,2,3,4,5,6,7],[9,7,0,1,2,3,4,5,6,7]])) (.seq (.reg 8 [I.n 0 22 (I.mv 4),I.n 1 23 (I.bc .add 3 22 1 3),I.n 2 4 (I.sa 23)]) (.reg 9 [I.n 0 24 (I.mv 3),I.n 1 25 (I.mv 4),I.n 2 26 (I.ld 35 6),I.n 3 27 (I.ia 23 24 25),I.u 4 (I.st 35 27 26)]))))))))) (.reg 14 [I.n 0 60 (I.bc .add 3 17 1 3),I.n 1 17 (I.mv 60)]))))))) (.seq (.reg 15 [I.n 0 61 (I.mv 3),I.n 1 62 (I.mv 4),I.n 2 63 (I.bc .add 3 62 1 3),I.n 3 64 (I.mv 3),I.n 4 65 (I.ln 64 23),I.n 5 66 (.call { callee:=.builtin .min,args:=#[.tmp 63,.tmp 65],argTypes:=#[3,3] }),I.n 6 67 (.slice 23 (.tmp 61) none (some (.tmp 66)) none),I.n 7 2 (I.sa 67)]) .ret))))))):=by
 intro c h
 have:c = Tryd.f35.body.get rfl:=by rw [<- Option.some_inj,<- h];rfl
 rw [this];rfl
theorem SS:∀ c,Tryd.f79.body = some c -> comp c = (.seq (.reg 0 [I.n 0 4 I.sn]) (.seq (.reg 1 [I.n 0 8 (I.mv 0),I.n 1 9 (I.mv 1),I.n 2 10 (I.c2 122 8 9 23 112),I.n 3 5 (I.sa 10)]) (.seq (.seq (.reg 2 [I.n 0 11 (I.mv 5),I.n 1 12 (.binOp .eql 3 (.tmp 11) (.const (Value.int .i64 (-1))) 3)]) (.cond (.tmp 12) (.seq (.reg 3 [I.n 0 13 (I.mv 0),I.n 1 4 (I.sa 13)]) .ret) .skip)) (.seq (.seq (.reg 4 [I.n 0 14 (I.mv 5),I.n 1 15 (I.bc .add 3 14 1 3),I.n 2 6 (I.sa 15)]) (.block 0 (.loop (.seq (.seq (.reg 5 [I.n 0 16 (I.mv 6),I.n 1 17 (I.mv 0),I.n 2 18 (I.ln 17 23),I.n 3 19 (I.bo .lss 3 16 18 3)]) (.cond (.tmp 19) .skip (.exit 0))) (.seq (.block 1 (.seq (.reg 7 [I.n 0 22 (I.mv 0),I.n 1 23 (I.mv 6),I.n 2 24 (I.ia 23 22 23),I.n 3 25 (I.ld 35 24),I.n 4 7 (.alloc 35),I.u 5 (I.st 35 7 25)]) (.seq (.reg 8 [I.n 0 26 (I.mv 1),I.n 1 27 (I.ld 35 7),I.n 2 28 (.call { callee:=.value (.tmp 26),args:=#[.tmp 27],argTypes:=#[35] }),I.n 3 29 (.unOp .not 4 (.tmp 28))]) (.cond (.tmp 29) (.seq (.reg 9 [I.n 0 30 (I.mv 0),I.n 1 31 (I.mv 5),I.n 2 32 (I.ld 35 7),I.n 3 33 (I.ia 23 30 31),I.u 4 (I.st 35 33 32)]) (.reg 10 [I.n 0 34 (I.mv 5),I.n 1 35 (I.bc .add 3 34 1 3),I.n 2 5 (I.sa 35)])) .skip)))) (.reg 6 [I.n 0 20 (I.mv 6),I.n 1 21 (I.bc .add 3 20 1 3),I.n 2 6 (I.sa 21)])))))) (.seq (.reg 11 [I.n 0 36 (I.mv 0),I.n 1 37 (I.mv 5),I.n 2 38 (.slice 23 (.tmp 36) (some (.tmp 37)) none none),I.u 3 (.call { callee:=.builtin .clear,args:=#[.tmp 38],argTypes:=#[23] })]) (.seq (.reg 12 [I.n 0 39 (I.mv 0),I.n 1 40 (I.mv 5),I.n 2 41 (.slice 23 (.tmp 39) none (some (.tmp 40)) none),I.n 3 4 (I.sa 41)]) .ret)))))):=by
 intro c h
 have:c = Tryd.f79.body.get rfl:=by rw [<- Option.some_inj,<- h];rfl
 rw [this];rfl
theorem Lc:∀ c,Tryd.f122.body = some c -> comp c = (.seq (.reg 0 [I.n 0 4 (I.si 0)]) (.seq (.seq (.reg 1 [I.n 0 6 (I.mv 0),I.n 1 7 (I.ln 6 23),I.n 2 8 (.move (.const (Value.int .i64 0)))]) (.block 0 (.loop (.seq (.reg 2 [I.n 0 9 (I.bo .lss 3 8 7 3)]) (.seq (.cond (.tmp 9) .skip (.exit 0)) (.seq (.block 1 (.seq (.reg 3 [I.n 0 10 (I.mv 8),I.n 1 5 (I.sa 10)]) (.seq (.reg 4 [I.n 0 11 (I.mv 1),I.n 1 12 (I.mv 0),I.n 2 13 (I.mv 5),I.n 3 14 (I.ia 23 12 13),I.n 4 15 (I.ld 35 14),I.n 5 16 (.call { callee:=.value (.tmp 11),args:=#[.tmp 15],argTypes:=#[35] })]) (.cond (.tmp 16) (.seq (.reg 5 [I.n 0 17 (I.mv 5),I.n 1 4 (I.sa 17)]) .ret) .skip)))) (.reg 6 [I.n 0 18 (I.bc .add 3 8 1 3),I.n 1 8 (I.mv 18)]))))))) (.seq (.reg 7 [I.n 0 4 (.assign (.const (Value.int .i64 (-1))))]) .ret))):=by
 intro c h
 have:c = Tryd.f122.body.get rfl:=by rw [<- Option.some_inj,<- h];rfl
 rw [this];rfl
theorem abH:∀ c,Tryd.f71.body = some c -> comp c = (.seq (.reg 0 [I.n 0 2 I.sn]) (.seq (.reg 1 [I.n 0 7 (.buildSlice 23 0 #[]),I.n 1 3 (I.sa 7)]) (.seq (.seq (.reg 2 [I.n 0 4 (I.si 0)]) (.block 0 (.loop (.seq (.seq (.reg 3 [I.n 0 8 (I.mv 4),I.n 1 9 (I.mv 0),I.n 2 10 (I.ln 9 23),I.n 3 11 (I.bo .lss 3 8 10 3)]) (.cond (.tmp 11) .skip (.exit 0))) (.seq (.block 1 (.seq (.reg 5 [I.n 0 14 (I.mv 0),I.n 1 15 (I.mv 4),I.n 2 16 (I.ia 23 14 15),I.n 3 17 (I.ld 35 16),I.n 4 5 (.alloc 35),I.u 5 (I.st 35 5 17)]) (.seq (.seq (.reg 6 [I.n 0 18 (I.fa 35 5 1),I.n 1 19 (I.ld 3 18),I.n 2 20 (I.bc .eql 3 19 0 3),I.n 3 21 (I.mv 20),I.w 4 22 (I.fa 35 5 2) 21 true,I.w 5 23 (I.ld 9 22) 21 true,I.w 6 24 (.binOp .eql 9 (.tmp 23) (.const (Value.string { data:=#[] })) 9) 21 true,I.n 7 25 (I.pc 21 24 false)]) (.cond (.tmp 25) (.exit 1) .skip)) (.seq (.reg 7 [I.n 0 26 (I.mv 3),I.n 1 27 (I.ln 26 23),I.n 2 6 (I.sa 27)]) (.seq (.draw 8 [I.n 0 28 (I.mv 6),I.n 1 29 (I.bc .gtr 3 28 0 3),I.n 2 30 (I.mv 29),I.w 3 31 (I.mv 3) 30 true,I.w 4 32 (I.mv 6) 30 true,I.w 5 33 (I.bc .sub 3 32 1 3) 30 true,I.w 6 34 (I.ia 23 31 33) 30 true,I.w 7 35 (I.fa 35 34 0) 30 true,I.w 8 36 (I.ld 3 35) 30 true,I.w 9 37 (I.fa 35 5 0) 30 true,I.w 10 38 (I.ld 3 37) 30 true,I.w 11 39 (I.bo .eql 3 36 38 3) 30 true,I.n 12 40 (I.pc 30 39 false)] [[],[0],[1],[2],[2],[4,2],[3,5,2],[6,2],[7,2],[2],[9,2],[8,10,2],[2,11]]) (.cond (.tmp 40) (.seq (.draw 9 [I.n 0 41 (I.mv 3),I.n 1 42 (I.mv 6),I.n 2 43 (I.bc .sub 3 42 1 3),I.n 3 44 (I.mv 3),I.n 4 45 (I.mv 6),I.n 5 46 (I.bc .sub 3 45 1 3),I.n 6 47 (I.ia 23 44 46),I.n 7 48 (I.fa 35 47 1),I.n 8 49 (I.ld 3 48),I.n 9 50 (I.fa 35 5 1),I.n 10 51 (I.ld 3 50),I.n 11 52 (I.bo .add 3 49 51 3),I.n 12 53 (I.ia 23 41 43),I.n 13 54 (I.fa 35 53 1),I.u 14 (I.st 3 54 52)] [[],[],[1],[],[],[4],[3,5],[6],[7],[],[9],[8,10],[0,2,0,1,2,3,4,5,6,7,8,9,10,11],[12,0,1,2,3,4,5,6,7,8,9,10,11],[13,11,0,1,2,3,4,5,6,7,8,9,10,11]]) (.draw 10 [I.n 0 55 (I.mv 3),I.n 1 56 (I.mv 6),I.n 2 57 (I.bc .sub 3 56 1 3),I.n 3 58 (I.mv 3),I.n 4 59 (I.mv 6),I.n 5 60 (I.bc .sub 3 59 1 3),I.n 6 61 (I.ia 23 58 60),I.n 7 62 (I.fa 35 61 2),I.n 8 63 (I.ld 9 62),I.n 9 64 (I.fa 35 5 2),I.n 10 65 (I.ld 9 64),I.n 11 66 (I.bo .add 9 63 65 9),I.n 12 67 (I.ia 23 55 57),I.n 13 68 (I.fa 35 67 2),I.u 14 (I.st 9 68 66)] [[],[],[1],[],[],[4],[3,5],[6],[7],[],[9],[8,10],[0,2,0,1,2,3,4,5,6,7,8,9,10,11],[12,0,1,2,3,4,5,6,7,8,9,10,11],[13,11,0,1,2,3,4,5,6,7,8,9,10,11]])) (.reg 11 [I.n 0 69 (I.mv 3),I.n 1 70 (I.ld 35 5),I.n 2 71 (I.b1 23 70),I.n 3 72 (I.ap 69 71 23 23),I.n 4 3 (I.sa 72)]))))))) (.reg 4 [I.n 0 12 (I.mv 4),I.n 1 13 (I.bc .add 3 12 1 3),I.n 2 4 (I.sa 13)])))))) (.seq (.reg 12 [I.n 0 73 (I.mv 3),I.n 1 2 (I.sa 73)]) .ret)))):=by
 intro c h
 have:c = Tryd.f71.body.get rfl:=by rw [<- Option.some_inj,<- h];rfl
 rw [this];rfl
def full (l:List Sp):List Sp:=l.filter fun s=>!emptyS s
theorem yI:∀ l,norm (full l) = norm l
 | []=>rfl
 | s :: l=>by
   have c:∀ (l:List Sp) (cur:Sp),fG cur (full l) = fG cur l:=by
     intro l
     induction l with
     | nil=>intro cur;rfl
     | cons s l ih =>
       intro cur
       cases h:emptyS s with
       | true=>simp only [full,List.filter_cons,h,fG];simpa [full] using ih cur
       | false =>
         have:full (s :: l) = s :: full l:=by simp [full,List.filter_cons,h]
         rw [this]
         simp only [fG,h]
         split
         · exact absurd ‹_› (by decide)
         · split
           · exact ih _
           · rw [ih]
   cases h:emptyS s with
   | true=>simp only [full,List.filter_cons,h,norm];simpa [full] using yI l
   | false =>
     have:full (s :: l) = s :: full l:=by simp [full,List.filter_cons,h]
     rw [this]
     simp only [norm,h]
     split
     · exact absurd ‹_› (by decide)
     · exact c l s
theorem O4 {l:List Sp} {i:Nat} (h:∀ j (hj:j < l.length),j < i -> emptyS l[j] = false) (hi:l.length <= i):full l = l:=by
 unfold full
 refine List.filter_eq_self.2 (fun s hs=>?_)
 obtain ⟨j,hj,rfl⟩:=List.getElem_of_mem hs
 rw [h j hj (by omega)];rfl
theorem gQ (l:List Sp):∀ y ∈ aT l,y.length = 3:=by
 intro y hy
 refine' agx
theorem O5 {l:List Sp} {i:Nat} (h:∀ j (hj:j < l.length),j < i -> emptyS l[j] = false):full (l.take i) = l.take i:=by
 unfold full
 refine List.filter_eq_self.2 (fun s hs=>?_)
 obtain ⟨j,hj,rfl⟩:=List.getElem_of_mem hs
 rw [List.length_take] at hj
 rw [List.getElem_take,h j (by omega) (by omega)];rfl
theorem ag0{G:Prop}(h:G:=by unfold full;rw [List.take_succ_eq_append_getElem hj,List.filter_append];simp [h]):G:=h
theorem Ld {l:List Sp} {j:Nat} (hj:j < l.length) (h:emptyS l[j] = true):full (l.take (j + 1)) = full (l.take j):=by
 refine' ag0
theorem SV {l:List Sp} {j:Nat} (hj:j < l.length) (h:emptyS l[j] = false):full (l.take (j + 1)) = full (l.take j) ++ [l[j]]:=by
 refine' ag0
theorem xw (l:List Sp):(full l).length <= l.length:=List.length_filter_le ..
theorem lJ (l:List Sp) (i:Nat) (s:Sp):(aT l).set i (qR s) = aT (l.set i s):=by simp [aT,List.map_set]
theorem JY {es:List (List AV)} {i:Nat} {x:List AV} {F:List AV -> Prop} (h:i < es.length) (k:F x):Ev.CO (es.set i x) i F:=by
 unfold Ev.CO;rw [List.getElem?_set_self h];exact k
theorem SY (l:List Sp):bT (full l) <= bT l:=by
 induction l with
 | nil=>exact Nat.le_refl _
 | cons s l ih =>
   cases h:emptyS s with
   | true=>rw [show full (s :: l) = full l by simp [full,List.filter_cons,h],aN];omega
   | false=>rw [show full (s :: l) = s :: full l by simp [full,List.filter_cons,h],aN,aN];omega
theorem o9 {l:List Sp} {i:Nat} (hi:i < l.length):bT (l.drop i) = l[i].t.size + bT (l.drop (i + 1)):=by rw [List.drop_eq_getElem_cons hi,aN]
theorem EX {l:List Sp} {i:Nat} (hi:i < (full l).length):emptyS (full l)[i] = false:=by
 have:=(List.mem_filter.1 (List.getElem_mem hi:(full l)[i] ∈ full l)).2
 simpa using this
theorem Hg {F:List Sp} {i:Nat} (hi:i < F.length) (h:emptyS F[i] = false) (cur:Sp):fG cur (F.drop i) = if F[i].k = cur.k then fG (mrg cur F[i]) (F.drop (i + 1)) else cur :: fG F[i] (F.drop (i + 1)):=by
 rw [List.drop_eq_getElem_cons hi];simp only [fG,h];rfl
theorem Xi {l:List Sp} (h0:0 < (full l).length):norm l = fG (full l)[0] ((full l).drop 1):=by
 rw [<- yI]
 have:=EX (l:=l) h0
 generalize full l = F at *
 cases F with
 | nil=>simp at h0
 | cons s F=>simp only [List.getElem_cons_zero] at this;simp only [norm,this];rfl
def oK (l:List Sp) (i last:Nat) (E:List Sp):Prop :=
 E.length = l.length /\ (E.take (full l).length).drop i = (full l).drop i /\ ((i = 0 /\ last = 0) ∨ (∃ pre cur,E.take (last + 1) = pre ++ [cur] /\ pre.length = last /\ last < i /\ cur.t.size + bT ((full l).drop i) <= 1000000000 /\ norm l = pre ++ fG cur ((full l).drop i)))
theorem oK.at {l E:List Sp} {i last:Nat} (h:oK l i last E) (hi:i < (full l).length) (h':i < E.length):E[i] = (full l)[i]:=by
 have e:=congrArg (fun l=>l[0]?) h.2.1
 simp only [List.getElem?_drop,Nat.add_zero] at e
 rw [List.getElem?_take_of_lt hi,List.getElem?_eq_getElem hi,List.getElem?_eq_getElem h'] at e
 exact Option.some.inj e
theorem oK.first {l E:List Sp} {last:Nat} (h:oK l 0 last E) (hi:0 < (full l).length) (hb:bT l <= 1000000000):last = 0 /\ oK l 1 0 E:=by
 have hl:=xw l
 have hE0:0 < E.length:=by have:=h.1;omega
 have ha:=h.at hi hE0
 have h3:=h.2.2
 have h2:=h.2.1
 rw [List.drop_zero,List.drop_zero] at h2
 have hl0:last = 0:=by
   rcases h3 with h | ⟨_,_,_,_,h,_⟩
   · exact h.2
   · omega
 refine ⟨hl0,h.1,by rw [h2],.inr ⟨[],E[0],?_,rfl,by omega,?_,?_⟩⟩
 · rw [List.take_succ_eq_append_getElem hE0];simp
 · rw [ha]
   have a:=o9 hi
   have b:=SY l
   rw [List.drop_zero,Nat.zero_add] at a
   omega
 · rw [ha,List.nil_append];exact Xi hi
theorem oK.last {l E:List Sp} {i last:Nat} (h:oK l i last E) (h0:0 < i):last < i /\ ∃ pre,∃ hl:last < E.length,E.take last = pre /\ pre.length = last /\ E[last].t.size + bT ((full l).drop i) <= 1000000000 /\ norm l = pre ++ fG E[last] ((full l).drop i):=by
 rcases h.2.2 with h3 | ⟨pre,cur,h3,h4,h5,h6,h7⟩
 · omega
 · have hl:last < E.length:=by
     have:=congrArg List.length h3
     rw [List.length_take,List.length_append,List.length_singleton] at this
     omega
   rw [List.take_succ_eq_append_getElem hl] at h3
   have e:=List.append_inj h3 (by rw [List.length_take,h4];omega)
   have e2:E[last] = cur:=by simpa using e.2
   exact ⟨h5,pre,hl,e.1,h4,by rw [e2];exact h6,by rw [e2];exact h7⟩
theorem oK.size {l E:List Sp} {i last:Nat} (h:oK l i last E) (h0:0 < i) (hi:i < (full l).length) (hl:last < E.length) (h':i < E.length):E[last].t.size + E[i].t.size <= 1000000000:=by
 obtain ⟨_,_,_,_,_,a,_⟩:=h.last h0
 rw [o9 hi,<- h.at hi h'] at a
 omega
theorem oK.rest {l E:List Sp} {i j:Nat} {x:Sp} (hj:j <= i) (h:(E.take (full l).length).drop i = (full l).drop i):((E.set j x).take (full l).length).drop (i + 1) = (full l).drop (i + 1):=by
 rw [<- List.drop_drop,<- List.drop_drop,<- h,List.take_set,List.drop_drop,List.drop_drop,List.drop_set_of_lt (by omega)]
theorem oK.same {l E:List Sp} {i last:Nat} (h:oK l i last E) (h0:0 < i) (hi:i < (full l).length) (hl:last < E.length) (h':i < E.length) (hk:E[i].k = E[last].k):oK l (i + 1) last (E.set last (mrg E[last] E[i])):=by
 have ha:=h.at hi h'
 obtain ⟨a1,pre,_,a2,a3,a4,a5⟩:=h.last h0
 refine ⟨by simp [h.1],oK.rest (by omega) h.2.1,.inr ⟨pre,mrg E[last] E[i],?_,a3,by omega,?_,?_⟩⟩
 · rw [List.take_succ_eq_append_getElem (by simp;omega),List.take_set_of_le (Nat.le_refl _),a2,List.getElem_set_self]
 · rw [o9 hi,<- ha] at a4
   show (E[last].t ++ E[i].t).size + _ <= _
   rw [ByteArray.size_append];omega
 · rw [a5,Hg hi (EX hi),<- ha,if_pos hk]
theorem oK.new {l E:List Sp} {i last:Nat} (h:oK l i last E) (h0:0 < i) (hi:i < (full l).length) (hl:last < E.length) (h':i < E.length) (hk:E[i].k ≠ E[last].k):oK l (i + 1) (last + 1) (E.set (last + 1) E[i]):=by
 have ha:=h.at hi h'
 obtain ⟨a1,pre,_,a2,a3,a4,a5⟩:=h.last h0
 refine ⟨by simp [h.1],oK.rest (by omega) h.2.1,.inr ⟨pre ++ [E[last]],E[i],?_,by simp [a3],by omega,?_,?_⟩⟩
 · rw [List.take_succ_eq_append_getElem (by simp;omega),List.take_set_of_le (Nat.le_refl _),List.take_succ_eq_append_getElem hl,a2,List.getElem_set_self]
 · rw [o9 hi,<- ha] at a4
   omega
 · rw [a5,Hg hi (EX hi),<- ha,if_neg hk];simp
theorem oK.end {l E:List Sp} {last:Nat} (h:oK l (full l).length last E):E.take (min (last + 1) (full l).length) = norm l:=by
 have hfl:=xw l
 by_cases h0:(full l).length = 0
 · rw [h0,Nat.min_zero,List.take_zero,<- yI,List.eq_nil_of_length_eq_zero h0];rfl
 · obtain ⟨a1,pre,a6,a2,a3,a4,a5⟩:=h.last (by omega)
   rw [Nat.min_eq_left (by omega),List.take_succ_eq_append_getElem a6,a2,a5,List.drop_of_length_le (Nat.le_refl _)]
   rfl
theorem aae{G:Prop}(h:G:=by (repeat' (first | refine' Ev.zS | ((with_reducible refine Ev.kr (hs:=[79,122]) (fun Q hQ=>?_));refine' Ev.zR) | ((with_reducible refine Ev.kZ 79 ?_);refine Ev.il 79 [0,1,4,5,6,7,12,19,29] [.tmp 4] Tryd.func79 (SS _ rfl) (fun aW=>?_)) | ((with_reducible refine Ev.kZ 122 ?_);refine Ev.il 122 [0,1,4,5,7,8,9,16] [.tmp 4] Tryd.func122 (Lc _ rfl) (fun aW=>?_)) | ((with_reducible refine Ev.ca0 ?_);(first | refine Ev.aU (qK _) rfl rfl ?_ | refine Ev.ca (qK _) ?_);conv=>whnf) | ((with_reducible refine Ev.dG ?_);(first | refine Ev.dr 11 [79,122] [0,1,2,3,4,5,6,7,8] ?_ | refine Ev.dr 12 [79,122] [0,1,2,3,4,5,6,7,8,9,10] ?_ | refine Ev.dr 13 [79,122] [0,1,2,3,4,5,6,7,8,9,10] ?_);intro Q hQ;(simp only [Ev.aj,Ev.ak]);conv=>whnf) | refine' Ev.zT | fail));all_goals(rcases(⟨_⟩:PLift _)with⟨h⟩;exact h)):G:=h
theorem aah{G:Prop}(h:G:=by
 have hjl:j = l.length:=by omega
 subst hjl
 rw [List.take_length] at hj hE1 ⊢
 have hr:List.take (0 + ((full l).length:Int).toNat) (aT E) ++ List.replicate (l.length - ((full l).length:Int).toNat) (List.map AV.v [Value.int .i64 0,Value.int .i64 0,Value.string ⟨#[]⟩]) ++ List.drop (0 + ((full l).length:Int).toNat + (l.length - ((full l).length:Int).toNat)) (aT E) = aT (full l ++ List.replicate (l.length - (full l).length) ⟨0,0,⟨#[]⟩⟩):=by
   rw [Int.toNat_natCast,Nat.zero_add,List.drop_of_length_le (by rw [aV];omega),List.append_nil,aA]
   congr 1
   · show List.take _ (E.map qR) = _
     rw [<- List.map_take,hE1];rfl
   · simp [aT,qR]
 refine Ev.zB ⟨c',0,full l ++ List.replicate (l.length - (full l).length) ⟨0,0,⟨#[]⟩⟩,rfl,?_⟩ (by refine' Ev.zp <;> first | (first | (exact congrArg (fun n=>aG.mk 3 35 _ 0 false n) hr) | (simp;done) | rfl) | rfl | (refine' Ev.ze;(first | (exact congrArg (fun n=>aG.mk 3 35 _ 0 false n) hr) | (simp;done) | rfl)) | fail)
 exact ⟨List.take_left ..,by simp,by simp;omega⟩):G:=h
theorem aaw{G:Prop}(h:G:=by (repeat' (first | (with_reducible refine Ev.join (a:=.reg 3 _) (fun s=>∃ (c v:Nat) (E:List Sp),s = ⟨[(0,.lst 3 (aT l)),(2,nilA),(3,.own 528 v 0 (full l).length)],[(528,⟨3,35,v,0,false,aT E⟩)],c⟩ /\ E.take (full l).length = full l /\ (full l).length <= E.length /\ E.length = l.length) ?_ ?_) | refine' Ev.zS | ((with_reducible refine Ev.kr (hs:=[79,122]) (fun Q hQ=>?_));refine' Ev.zR) | ((with_reducible refine Ev.kZ 79 ?_);refine Ev.il 79 [0,1,4,5,6,7,12,19,29] [.tmp 4] Tryd.func79 (SS _ rfl) (fun aW=>?_)) | ((with_reducible refine Ev.kZ 122 ?_);refine Ev.il 122 [0,1,4,5,7,8,9,16] [.tmp 4] Tryd.func122 (Lc _ rfl) (fun aW=>?_)) | ((with_reducible refine Ev.ca0 ?_);(first | refine Ev.aU (qK _) rfl rfl ?_ | refine Ev.ca (qK _) ?_);conv=>whnf) | ((with_reducible refine Ev.dG ?_);(first | refine Ev.dr 11 [79,122] [0,1,2,3,4,5,6,7,8] ?_ | refine Ev.dr 12 [79,122] [0,1,2,3,4,5,6,7,8,9,10] ?_ | refine Ev.dr 13 [79,122] [0,1,2,3,4,5,6,7,8,9,10] ?_);intro Q hQ;(simp only [Ev.aj,Ev.ak]);conv=>whnf) | refine' Ev.zT | fail));all_goals(rcases(⟨_⟩:PLift _)with⟨h⟩;exact h)):G:=h
theorem aa9{G:Prop}(h:G:=by
 have hlE:last < E.length:=by assumption
 have hi1:i < E.length:=by assumption
 have hkk:E[i].k = E[last].k:=by assumption
 refine Ev.zA (k - 1) ⟨i + 1,last,c + 8,E.set last (mrg E[last] E[i]),rfl,?_⟩ (by refine' Ev.zp <;> first | (first | exact wrap_succ (by omega) | (refine congrArg (fun n=>aG.mk 3 35 _ 0 false n) ?_;show ((aT E).set (0 + (last:Int).toNat) _).set (0 + (last:Int).toNat) (qR (mrg E[last] E[i])) = _;rw [Nat.zero_add,Int.toNat_natCast,List.set_set,lJ]) | rfl) | rfl | (refine' Ev.ze;(first | exact wrap_succ (by omega) | (refine congrArg (fun n=>aG.mk 3 35 _ 0 false n) ?_;show ((aT E).set (0 + (last:Int).toNat) _).set (0 + (last:Int).toNat) (qR (mrg E[last] E[i])) = _;rw [Nat.zero_add,Int.toNat_natCast,List.set_set,lJ]) | rfl)) | fail)
 exact ⟨by omega,hI.same (by omega) (by omega) hlE hi1 hkk⟩):G:=h
theorem abm{G:Prop}(h:G:=by
 rename_i hi2 h
 have hjl:j < l.length:=by omega
 have afQ:=hEj hjl hi2
 rw [afQ] at h
 have f3:=SV hjl h
 have f4:=xw (l.take j)
 have hw:IntKind.i64.wrap ((full (l.take j)).length + 1:Int) = ((full (l.take (j + 1))).length:Int):=by rw [f3,bg (by omega)];simp
 refine Ev.zA (k - 1) ⟨j + 1,c + 8,E.set (full (l.take j)).length E[j],rfl,?_⟩ (by refine' Ev.zp <;> first | (first | exact wrap_succ (by omega) | exact hw | (rw [Nat.zero_add,Int.toNat_natCast];exact congrArg (fun n=>aG.mk 3 35 _ 0 false n) (lJ _ _ _)) | rfl) | rfl | (refine' Ev.ze;(first | exact wrap_succ (by omega) | exact hw | (rw [Nat.zero_add,Int.toNat_natCast];exact congrArg (fun n=>aG.mk 3 35 _ 0 false n) (lJ _ _ _)) | rfl)) | fail)
 refine ⟨by omega,by simp [hE],by rw [f3];simp;omega,?_,?_⟩
 all_goals(rcases(⟨_⟩:PLift _)with⟨h⟩;exact h)):G:=h
theorem abv{G:Prop}(h:G:=by
 have hlE:last < E.length:=by omega
 have hi1:i < E.length:=by omega
 have hkk:¬ E[i].k = E[last].k:=by assumption
 refine Ev.zA (k - 1) ⟨i + 1,last + 1,c + 8,E.set (last + 1) E[i],rfl,?_⟩ (by refine' Ev.zp <;> first | (first | exact wrap_succ (by omega) | exact hw | (refine congrArg (fun n=>aG.mk 3 35 _ 0 false n) ?_;show (aT E).set (0 + (IntKind.i64.wrap ((last:Int) + 1)).toNat) (qR E[i]) = _;rw [hw,Nat.zero_add,Int.toNat_natCast,lJ]) | rfl) | rfl | (refine' Ev.ze;(first | exact wrap_succ (by omega) | exact hw | (refine congrArg (fun n=>aG.mk 3 35 _ 0 false n) ?_;show (aT E).set (0 + (IntKind.i64.wrap ((last:Int) + 1)).toNat) (qR E[i]) = _;rw [hw,Nat.zero_add,Int.toNat_natCast,lJ]) | rfl)) | fail)
 exact ⟨by omega,hI.new (by omega) (by omega) hlE hi1 hkk⟩):G:=h
theorem aby{G:Prop}(h:G:=by
 have hln:(aT E).length = E.length:=aV E
 have hE:E.length = l.length:=hI.1
 have hll:last = 0 ∨ last < i:=by
   rcases hI.2.2 with h | ⟨_,_,_,_,h,_⟩
   · exact .inl h.2
   · exact .inr h
 have hw:IntKind.i64.wrap ((last:Int) + 1) = ((last + 1:Nat):Int):=by rw [bg (by omega)];simp
 repeat' (first | refine' Ev.zP | refine' Ev.zS | refine' Ev.zK | ((refine JY (by rw [aV,Nat.zero_add,Int.toNat_natCast];omega) ?_);conv=>whnf) | ((with_reducible refine Ev.dG ?_);(first | refine Ev.dr 11 [] [0,1,2,3,4,5,6,7,8] ?_ | refine Ev.dr 12 [] [0,1,2,3,4,5,6,7,8,9,10] ?_ | refine Ev.dr 13 [] [0,1,2,3,4,5,6,7,8,9,10] ?_);intro Q hQ;(simp only [Ev.aj,Ev.ak]);conv=>whnf) | refine' Ev.zT | fail)
 all_goals(rcases(⟨_⟩:PLift _)with⟨h⟩;exact h)):G:=h
theorem ace{G:Prop}(h:G:=by
 have hFl:=xw l
 repeat' (first | refine' Ev.zP | refine' Ev.zS | refine' Ev.zK | ((with_reducible refine Ev.dG ?_);(first | refine Ev.dr 11 [] [0,1,2,3,4,5,6,7,8] ?_ | refine Ev.dr 12 [] [0,1,2,3,4,5,6,7,8,9,10] ?_ | refine Ev.dr 13 [] [0,1,2,3,4,5,6,7,8,9,10] ?_);intro Q hQ;(simp only [Ev.aj,Ev.ak]);conv=>whnf) | refine' Ev.zT | fail)
 refine Ev.loop (fun k s=>∃ (i last c:Nat) (E:List Sp),s = ⟨[(0,.lst 3 (aT l)),(2,nilA),(3,.own 528 v 0 (full l).length),(4,.v (.int .i64 last)),(15,.own 528 v 0 (full l).length),(16,.v (.int .i64 (full l).length)),(17,.v (.int .i64 i))],[(528,⟨3,35,v,0,false,aT E⟩)],c⟩ /\ k + i = (full l).length /\ oK l i last E) ?_ ?_
 all_goals(rcases(⟨_⟩:PLift _)with⟨h⟩;exact h)):G:=h
theorem acj{G:Prop}(h:G:=by
 rename_i h
 have hjl:j < l.length:=by omega
 rw [hEj hjl hi] at h
 have f3:=Ld hjl h
 refine Ev.zA (k - 1) ⟨j + 1,c + 8,E,rfl,?_⟩ (by refine' Ev.zp <;> first | (first | exact wrap_succ (by omega) | (rw [f3];done) | rfl) | rfl | (refine' Ev.ze;(first | exact wrap_succ (by omega) | (rw [f3];done) | rfl)) | fail)
 exact ⟨by omega,hE,by rw [f3];omega,by rw [f3];exact hE1,by rw [<- List.drop_drop,hE2,List.drop_drop]⟩):G:=h
theorem adb{G:Prop}(h:G:=by
 rename_i hemp _
 have f1:=O5 he
 have f2:=Ld hi hemp
 refine Ev.loop (fun k s=>∃ (j c:Nat) (E:List Sp),s = ⟨[(0,.own 528 0 0 l.length),(1,.clo (.func 80) [] []),(4,nilA),(5,.v (.int .i64 (full (l.take j)).length)),(6,.v (.int .i64 j))],[(528,⟨3,35,0,0,false,aT E⟩)],c⟩ /\ k + j = l.length /\ E.length = l.length /\ (full (l.take j)).length < j /\ E.take (full (l.take j)).length = full (l.take j) /\ E.drop j = l.drop j) ?_ ?_
 all_goals(rcases(⟨_⟩:PLift _)with⟨h⟩;exact h)):G:=h
theorem adr{G:Prop}(h:G:=by
 have f3:(full (l.take (i + 1))).length = i:=by rw [f2,f1,List.length_take];omega
 refine Ev.zB ⟨l.length - (i + 1),i + 1,c',l,rfl,?_⟩ (by refine' Ev.zp <;> first | (first | (rw [f3];done) | exact wrap_succ (by omega) | (simp;done) | rfl) | rfl | (refine' Ev.ze;(first | (rw [f3];done) | exact wrap_succ (by omega) | (simp;done) | rfl)) | fail)
 exact ⟨by omega,rfl,by omega,by rw [f3,f2,f1],rfl⟩):G:=h
theorem adu{G:Prop}(h:G:=by
 have hEj:∀ (h:j < l.length) (h':j < E.length),E[j] = l[j]:=fun h h'=>by
   have e1:E[j]? = l[j]?:=by
     have a:=congrArg (fun l=>l[0]?) hE2
     simpa using a
   rw [List.getElem?_eq_getElem h,List.getElem?_eq_getElem h'] at e1
   exact Option.some.inj e1
 refine' aae
 all_goals(rcases(⟨_⟩:PLift _)with⟨h⟩;exact h)):G:=h
theorem aes{G:Prop}(h:G:=by
 have e:=O4 he (by omega)
 refine Ev.zB ⟨c',0,l,rfl,?_⟩ (by refine' Ev.zp <;> first | (first | (rw [e];simp;done) | rfl) | rfl | (refine' Ev.ze;(first | (rw [e];simp;done) | rfl)) | fail)
 exact ⟨by rw [e];simp,by rw [e];exact Nat.le_refl _,rfl⟩):G:=h
theorem ae2{G:Prop}(h:G:=by (refine Ev.loop (fun k s=>∃ i c:Nat,s = ⟨[(0,.own 528 0 0 l.length),(1,.clo (.func 80) [] []),(4,.v (.int .i64 0)),(7,.v (.int .i64 l.length)),(8,.v (.int .i64 i))],[(528,⟨3,35,0,0,false,aT l⟩)],c⟩ /\ k + i = l.length /\ ∀ j (hj:j < l.length),j < i -> emptyS l[j] = false) ?_ ?_);all_goals(rcases(⟨_⟩:PLift _)with⟨h⟩;exact h)):G:=h
theorem afh{G:Prop}(h:G:=by
 rename_i hi0
 have:i = 0:=by omega
 subst this
 obtain ⟨rfl,h2⟩:=hI.first (by omega) hb
 refine Ev.zA (k - 1) ⟨1,0,c + 8,E,rfl,?_⟩
 exact ⟨by omega,h2⟩):G:=h
theorem afw{G:Prop}(h:G:=by rw [f3,List.length_append,List.length_singleton,List.take_succ_eq_append_getElem (by simp;omega),List.take_set_of_le (Nat.le_refl _),hE1,List.getElem_set_self,afQ]):G:=h
theorem agh{G:Prop}(h:G:=by
 refine Ev.zB ⟨(full l).length,0,0,c,E,rfl,?_⟩
 exact ⟨by omega,hF2,by rw [hF],.inl ⟨rfl,rfl⟩⟩):G:=h
theorem ag4{G:Prop}(h:G:=by
 have:=hI.size (by omega) (by omega) ‹last < E.length› ‹i < E.length›
 refine Ev.Side.of ?_;omega):G:=h
theorem ag9{G:Prop}(h:G:=by
 refine Ev.zB ⟨l.length,0,aW,rfl,?_⟩
 exact ⟨by omega,fun j hj h=>by omega⟩):G:=h
theorem aha{G:Prop}(h:G:=by rw [List.drop_set_of_lt (by omega),<- List.drop_drop,hE2,List.drop_drop]):G:=h
theorem sG (l:List Sp) (hl:l.length <= 100000000) (hb:bT l <= 1000000000):aO env 35 [.lst 3 (aT l)] (fun r hs=>r = .lst 3 (aT (norm l)) /\ hs = []):=by
 have hsl:=aV l
 have hmx:2000000003 <= maxLen:=by decide
 refine Ev.fn [0,2,3,4,5,6,15,16,17,18,28,31] 0 [.tmp 2] Tryd.func35 (SQ _ rfl) ?_
 refine' aaw
 · refine' ae2
   · refine' ag9
   rintro k s1 ⟨i,c,rfl,hk,he⟩
   refine' aae
   · rename_i h;exact absurd h (by omega)
   · refine' adb
     · refine' adr
     rintro k s1 ⟨j,c,E,rfl,hk,hE,hj,hE1,hE2⟩
     refine' adu
     · refine' acj
     · refine' abm
       · refine' afw
       · refine' aha
     · refine' aah
   · refine Ev.zA (k - 1) ⟨i + 1,c,rfl,?_⟩
     refine ⟨by omega,fun j hj hji=>?_⟩
     by_cases e:j = i
     · subst e;assumption
     · exact he j hj (by omega)
   · refine' aes
   · rename_i h;exact absurd rfl h
 · rintro s1 ⟨c,v,E,rfl,hF,hF1,hF2⟩
   refine' ace
   · refine' agh
   rintro k s1 ⟨i,last,c,E,rfl,hk,hI⟩
   refine' aby
   · refine' afh
   · refine' aa9
   · refine' ag4
   · refine' abv
   · refine Ev.Side.of ?_;rw [hw];show last + 1 < E.length;omega
   · have hc:=hI
     rw [show i = (full l).length by omega] at hc
     have he:=hc.end
     refine ⟨Ev.aB ?_,rfl⟩
     have e1:(min (IntKind.i64.wrap ((last:Int) + 1)) ((full l).length:Int)).toNat - 0 = min (last + 1) (full l).length:=by rw [hw];omega
     rw [e1,List.drop_zero,<- he]
     show List.take _ (E.map qR) = (E.take _).map qR
     rw [List.map_take]
 · refine Ev.Side.of ⟨by omega,?_,?_,gQ l⟩ <;> simp
def lI (acc:List Sp) (s:Sp):List Sp :=
 if emptyS s then acc
 else match acc.getLast? with
   | none=>[s]
   | some c=>if s.k = c.k then acc.set (acc.length - 1) (mrg c s) else acc ++ [s]
theorem sH {acc:List Sp} {s:Sp} (h:emptyS s = true):lI acc s = acc:=by unfold lI;rw [if_pos h]
theorem DZ {s:Sp} (h:emptyS s = false):lI [] s = [s]:=by unfold lI;rw [h];rfl
theorem BH {acc:List Sp} {s:Sp} {n:Nat} (h:emptyS s = false) (hn:acc.length = n + 1) (h':n < acc.length) (hk:acc[n].k = s.k):lI acc s = acc.set n (mrg acc[n] s):=by
 unfold lI
 rw [h,List.getLast?_eq_getElem?,show acc.length - 1 = n by omega,List.getElem?_eq_getElem h']
 simp [hk]
theorem D5 {acc:List Sp} {s:Sp} {n:Nat} (h:emptyS s = false) (hn:acc.length = n + 1) (h':n < acc.length) (hk:acc[n].k ≠ s.k):lI acc s = acc ++ [s]:=by
 unfold lI
 rw [h,List.getLast?_eq_getElem?,show acc.length - 1 = n by omega,List.getElem?_eq_getElem h']
 simp [Ne.symm hk]
theorem qL:∀ (l:List Sp) (pre:List Sp) (cur:Sp),l.foldl lI (pre ++ [cur]) = pre ++ fG cur l
 | [],pre,cur=>rfl
 | s :: l,pre,cur=>by
   rw [List.foldl_cons]
   simp only [fG]
   cases h:emptyS s with
   | true=>rw [sH h,if_pos rfl,qL l]
   | false =>
     have hn:(pre ++ [cur]).length = pre.length + 1:=by simp
     have h':pre.length < (pre ++ [cur]).length:=by omega
     have hg:(pre ++ [cur])[pre.length] = cur:=by simp
     rw [if_neg (by decide)]
     by_cases hk:s.k = cur.k
     · rw [BH h hn h' (by rw [hg,hk]),if_pos hk,hg]
       have:(pre ++ [cur]).set pre.length (mrg cur s) = pre ++ [mrg cur s]:=by simp
       rw [this,qL l]
     · rw [D5 h hn h' (by rw [hg];exact fun e=>hk e.symm),if_neg hk,qL l,List.append_assoc];rfl
theorem D6:∀ l:List Sp,l.foldl lI [] = norm l
 | []=>rfl
 | s :: l=>by
   rw [List.foldl_cons]
   simp only [norm]
   cases h:emptyS s with
   | true=>rw [sH h,if_pos rfl,D6 l]
   | false=>rw [DZ h,if_neg (by decide)];exact qL l [] s
theorem EY (a b:List Sp):bT (a ++ b) = bT a + bT b:=by unfold bT;rw [List.map_append,List.sum_append]
theorem O6 (acc:List Sp) (s:Sp):bT (lI acc s) <= bT acc + s.t.size:=by
 unfold lI
 split
 · omega
 · rcases List.eq_nil_or_concat acc with rfl | ⟨pre,c,rfl⟩
   · simp [bT]
   · have h:(pre ++ [c]).getLast? = some c:=by simp
     rw [List.concat_eq_append,h];simp only
     split
     · have e:(pre ++ [c]).set ((pre ++ [c]).length - 1) (mrg c s) = pre ++ [mrg c s]:=by simp
       rw [e,EY,EY];simp [bT,mrg,ByteArray.size_append];omega
     · rw [EY _ [s]];simp [bT]
theorem O7 (acc:List Sp) (s:Sp):(lI acc s).length <= acc.length + 1:=by
 unfold lI
 split
 · omega
 · split
   · simp
   · split <;> simp
def iU (l:List Sp) (i:Nat):List Sp:=(l.take i).foldl lI []
theorem jQ {l:List Sp} {i:Nat} (hi:i < l.length):iU l (i + 1) = lI (iU l i) l[i]:=by
 unfold iU;rw [List.take_succ_eq_append_getElem hi,List.foldl_append];rfl
theorem JZ {l:List Sp} {i:Nat} (hi:l.length <= i):iU l i = norm l:=by
 unfold iU;rw [List.take_of_length_le hi,D6]
theorem vI (l:List Sp):∀ i,(iU l i).length <= i
 | 0=>by simp [iU]
 | i + 1=>by
   by_cases hi:i < l.length
   · rw [jQ hi];have:=O7 (iU l i) l[i];have:=vI l i;omega
   · have e:iU l (i + 1) = iU l i:=by unfold iU;rw [List.take_of_length_le (by omega),List.take_of_length_le (by omega)]
     rw [e];have:=vI l i;omega
theorem vJ (l:List Sp):∀ i,bT (iU l i) <= bT (l.take i)
 | 0=>by simp [iU]
 | i + 1=>by
   by_cases hi:i < l.length
   · rw [jQ hi,xu l hi];have:=O6 (iU l i) l[i];have:=vJ l i;omega
   · have e:iU l (i + 1) = iU l i:=by unfold iU;rw [List.take_of_length_le (by omega),List.take_of_length_le (by omega)]
     have e2:l.take (i + 1) = l.take i:=by rw [List.take_of_length_le (by omega),List.take_of_length_le (by omega)]
     rw [e,e2];exact vJ l i
theorem Xj {l:List Sp} {s:Sp} (h:s ∈ l):s.t.size <= bT l:=by
 induction l with
 | nil=>cases h
 | cons x l ih =>
   rw [aN]
   rcases List.mem_cons.1 h with rfl | h'
   · omega
   · have:=ih h';omega
theorem S9 {E:List Sp} {x:Sp} {w:Int} {n:Nat} (hw:w = (n:Int)) (A:List AV) (h:w.toNat < E.length) (h':n < E.length):((aT E).set (0 + w.toNat) A).set (0 + w.toNat) (qR (mrg E[w.toNat] x)) = aT (E.set n (mrg E[n] x)):=by
 subst hw;rw [Nat.zero_add];simp only [Int.toNat_natCast];rw [List.set_set,lJ]
theorem Tc {E:List Sp} {w:Int} {n:Nat} (hw:w = (n:Int)) (h:w.toNat < E.length) (h':n < E.length):E[w.toNat] = E[n]:=by
 subst hw;rfl
theorem aam{G:Prop}(h:G:=by
 have hi:i < l.length:=by omega
 have he:emptyS l[i] = false:=by simp [emptyS, *]
 have hn:E.length - 1 < E.length:=by omega
 have hm:(IntKind.i64.wrap ((E.length:Int) - 1)).toNat < E.length:=by assumption
 have hkk:E[(IntKind.i64.wrap ((E.length:Int) - 1)).toNat].k = l[i].k:=by assumption
 rw [Tc (hw (by omega)) hm hn] at hkk
 have hr:=fun A=>S9 (x:=l[i]) (hw (by omega)) A hm hn
 refine Ev.zA (k - 1) ⟨i + 1,v,c + 8,E.set (E.length - 1) (mrg E[E.length - 1] l[i]),rfl,?_⟩ (by refine' Ev.zp <;> first | (first | exact wrap_succ (by omega) | (exact congrArg (fun n=>aG.mk 3 35 _ 0 false n) (hr _)) | (simp;done) | rfl) | rfl | (refine' Ev.ze;(first | exact wrap_succ (by omega) | (exact congrArg (fun n=>aG.mk 3 35 _ 0 false n) (hr _)) | (simp;done) | rfl)) | fail)
 exact ⟨by omega,by rw [jQ hi,<- hE,BH he (n:=E.length - 1) (by omega) hn hkk]⟩):G:=h
theorem aax{G:Prop}(h:G:=by
 have hi:i < l.length:=by omega
 have he:emptyS l[i] = false:=by simp [emptyS, *]
 have hn:E.length - 1 < E.length:=by omega
 have hm:(IntKind.i64.wrap ((E.length:Int) - 1)).toNat < E.length:=by assumption
 have hkk:¬ E[(IntKind.i64.wrap ((E.length:Int) - 1)).toNat].k = l[i].k:=by assumption
 rw [Tc (hw (by omega)) hm hn] at hkk
 refine Ev.zA (k - 1) ⟨i + 1,c + 8 + 8,c + 8 + 8 + 8,E ++ [l[i]],rfl,?_⟩ (by refine' Ev.zp <;> first | (first | exact wrap_succ (by omega) | (simp;done) | (simp [aT,qR];done) | rfl) | rfl | (refine' Ev.ze;(first | exact wrap_succ (by omega) | (simp;done) | (simp [aT,qR];done) | rfl)) | fail)
 exact ⟨by omega,by rw [jQ hi,<- hE,D5 he (n:=E.length - 1) (by omega) hn hkk]⟩):G:=h
theorem abe{G:Prop}(h:G:=by
 have hi:i < l.length:=by omega
 have he:emptyS l[i] = false:=by simp [emptyS, *]
 have hz:E = []:=List.eq_nil_of_length_eq_zero (by omega)
 subst hz
 refine Ev.zA (k - 1) ⟨i + 1,c + 8 + 8,c + 8 + 8 + 8,[l[i]],rfl,?_⟩ (by refine' Ev.zp <;> first | (first | exact wrap_succ (by omega) | (simp;done) | (simp [aT,qR];done) | rfl) | rfl | (refine' Ev.ze;(first | exact wrap_succ (by omega) | (simp;done) | (simp [aT,qR];done) | rfl)) | fail)
 exact ⟨by omega,by rw [jQ hi,<- hE,DZ he]⟩):G:=h
theorem abn{G:Prop}(h:G:=by
 have hn:E.length - 1 < E.length:=by omega
 have hm:(IntKind.i64.wrap ((E.length:Int) - 1)).toNat < E.length:=by assumption
 have h1:=Xj (List.getElem_mem hm)
 have h2:=vJ l i
 have h3:=xu l hi
 have h4:=JX l (i + 1)
 rw [<- hE] at h2
 refine Ev.Side.of ?_
 show (E[(IntKind.i64.wrap ((E.length:Int) - 1)).toNat]).t.size + _ <= _
 omega):G:=h
theorem ae8{G:Prop}(h:G:=by
 refine Ev.Side.of ?_
 show (IntKind.i64.wrap ((E.length:Int) - 1)).toNat < E.length
 rw [hw (by omega)];omega):G:=h
theorem iP (l:List Sp) (hl:l.length <= 100000000) (hb:bT l <= 1000000000):aO env 71 [.lst 3 (aT l)] (fun r hs=>r = .lst 3 (aT (norm l)) /\ hs = []):=by
 have hsl:=aV l
 have hmx:2000000003 <= maxLen:=by decide
 refine Ev.fn [0,2,3,4,5,6,11,25,40] 0 [.tmp 2] Tryd.func71 (abH _ rfl) ?_
 repeat' (first | refine' Ev.zS | refine' Ev.zK | ((with_reducible refine Ev.dG ?_);(first | refine Ev.dr 8 [] [0,1,2,3,4,9,10,5,6,7,8,11,12] ?_);intro Q hQ;(simp only [Ev.aj,Ev.ak]);conv=>whnf) | ((with_reducible refine Ev.dG ?_);(first | refine Ev.drv 9 [] [(0,false),(1,false),(2,true),(3,false),(4,false),(5,true),(6,false),(7,false),(8,false),(9,false),(10,false),(11,true),(12,false),(13,false),(14,false)] ?_ | refine Ev.drv 10 [] [(0,false),(1,false),(2,true),(3,false),(4,false),(5,true),(6,false),(7,false),(8,false),(9,false),(10,false),(11,false),(12,false),(13,false),(14,false)] ?_);intro Q hQ;(simp only [Ev.bn,Ev.bC,Ev.dw]);conv=>whnf) | refine' Ev.zT | fail)
 refine Ev.loop (fun k s=>∃ (i v c:Nat) (E:List Sp),s = ⟨[(0,.lst 3 (aT l)),(2,nilA),(3,.own 512 v 0 E.length),(4,.v (.int .i64 i))],[(512,⟨3,35,v,0,false,aT E⟩)],c⟩ /\ k + i = l.length /\ E = iU l i) ?_ ?_
 · refine Ev.zB ⟨l.length,0,0,?_,[],rfl,?_⟩
   exact ⟨rfl,rfl⟩
 rintro k s1 ⟨i,v,c,E,rfl,hk,hE⟩
 have hln:=aV E
 have hlE:=vI l i
 rw [<- hE] at hlE
 have hw:0 < E.length -> IntKind.i64.wrap ((E.length:Int) - 1) = ((E.length - 1:Nat):Int):=fun h=>by rw [bg (by omega)];omega
 repeat' (first | refine' Ev.zS | refine' Ev.zK | ((refine JY (by rw [aV,Nat.zero_add,hw (by omega)];omega) ?_);conv=>whnf) | ((with_reducible refine Ev.dG ?_);(first | refine Ev.dr 8 [] [0,1,2,3,4,9,10,5,6,7,8,11,12] ?_);intro Q hQ;(simp only [Ev.aj,Ev.ak]);conv=>whnf) | ((with_reducible refine Ev.dG ?_);(first | refine Ev.drv 9 [] [(0,false),(1,false),(2,true),(3,false),(4,false),(5,true),(6,false),(7,false),(8,false),(9,false),(10,false),(11,true),(12,false),(13,false),(14,false)] ?_ | refine Ev.drv 10 [] [(0,false),(1,false),(2,true),(3,false),(4,false),(5,true),(6,false),(7,false),(8,false),(9,false),(10,false),(11,false),(12,false),(13,false),(14,false)] ?_);intro Q hQ;(simp only [Ev.bn,Ev.bC,Ev.dw]);conv=>whnf) | refine' Ev.zT | fail)
 · have hi:i < l.length:=by omega
   have he:emptyS l[i] = true:=by simp [emptyS, *]
   refine Ev.zA (k - 1) ⟨i + 1,v,c + 8,E,rfl,?_⟩
   exact ⟨by omega,by rw [jQ hi,<- hE,sH he]⟩
 · refine' aam
 · have hi:i < l.length:=by omega
   refine' abn
 · refine' aax
 · refine' ae8
 · refine' abe
 · refine' aam
 · have hi:i < l.length:=by omega
   refine' abn
 · refine' aax
 · refine' ae8
 · refine' abe
 · refine ⟨Ev.aB ?_,rfl⟩
   rw [List.drop_zero,List.take_of_length_le (by omega),hE,JZ (by omega)]
theorem dD {l:List Sp} (h:bT l <= 1000000000):Small l:=by
 intro s hs
 have:s.t.size <= bT l:=by
   clear h
   induction l with
   | nil=>cases hs
   | cons x l ih =>
     rw [aN]
     rcases List.mem_cons.1 hs with rfl | h'
     · omega
     · have:=ih h';omega
 omega
end Go.Proofs.YtadlnaljicikfaaDoor.aI
namespace Go.Proofs.YtadlnaljicikfaaDoor.aI
open Go Go.Lib
theorem D7 {l:List Sp} {b:Nat} (h:∀ s ∈ l,s.t.size <= b):bT l <= b * l.length:=by
 induction l with
 | nil=>simp [bT]
 | cons s l ih =>
   have h1:=h s (by simp)
   have h2:=ih (fun x hx=>h x (by simp [hx]))
   rw [aN,List.length_cons,Nat.mul_succ];omega
theorem Lh (l:List Sp) {n:Int} (hn:0 <= n /\ n <= 1048576):(qY l n).length <= 13 /\ bT (qY l n) <= 312:=by
 obtain ⟨h1,h2,h3⟩:=BF l hn
 have:=D7 (b:=24) (fun s hs=>(h1 s hs).2.1)
 omega
def pq:Int -> List (List Sp) -> Int
 | n,[]=>n
 | _,x :: l=>pq (outW x) l
end Go.Proofs.YtadlnaljicikfaaDoor.aI
namespace Go.Proofs.YtadlnaljicikfaaDoor.aI
open Go
set_option maxRecDepth 100000
attribute [local irreducible] Ev.iH Ev.iR Ev.bY Ev.runK Ev.cu Ev.gK Ev.Side Ev.Wp Ev.Again Ev.To Ev.Fin
open Go.Lib Go.RowKit
theorem EZ (l:List Sp):((l.take 20).map (vF 60)).length <= 20:=by simp;omega
theorem Lj (l:List Sp):bT ((l.take 20).map (vF 60)) <= 1200:=by
 have h:=D7 (l:=(l.take 20).map (vF 60)) (b:=60) (fun s hs=>by
   obtain ⟨s',_,rfl⟩:=List.mem_map.1 hs
   show (s'.t.extract 0 (min s'.t.size 60)).size <= 60
   rw [ByteArray.size_extract];omega)
 have:=EZ l
 omega
def aX (l:List (List Sp)):List (List AV):=l.map fun x=>[.lst 3 (aT x)]
@[simp] theorem bW (l:List (List Sp)):(aX l).length = l.length:=by simp [aX]
@[simp] theorem iI (l:List Int):(ints l).length = l.length:=by simp [ints]
structure Lg where
 base:ByteArray
 revs:List Int
 dP:List (List Sp)
def lgA (c:Lg):AV:=.agg [.v (.string c.base),.lst 1 (ints c.revs),.lst 1 (aX c.dP)]
def qZ (n:Int) (l:List Sp):Int:=if aC l ≠ 0 then aC l else if iT l ≠ n then 5 else if 1048576 < outW l then 4 else if UF l then 0 else 8
def gW:Int -> List (List Sp) -> Int
 | _,[]=>0
 | n,x :: l=>if qZ n x = 0 then gW (outW x) l else qZ n x
def Iq:Int -> List (List Sp) -> List Int
 | n,[]=>[n]
 | n,x :: l=>n :: Iq (outW x) l
def LgS (c:Lg):Prop:=c.base.size <= 1000000000 /\ c.revs.length <= 100000000 /\ c.dP.length <= 100000000 /\ ∀ x ∈ c.dP,x.length <= 100000000 /\ Small x
theorem yJ:∀ (a b:List (List Sp)) (n:Int),gW n (a ++ b) = if gW n a = 0 then gW (pq n a) b else gW n a
 | [],b,n=>rfl
 | x :: a,b,n=>by
   rw [List.cons_append]
   by_cases h:qZ n x = 0
   · have e1:gW n (x :: (a ++ b)) = gW (outW x) (a ++ b):=if_pos h
     have e2:gW n (x :: a) = gW (outW x) a:=if_pos h
     rw [e1,e2,yJ a b];rfl
   · have e1:gW n (x :: (a ++ b)) = qZ n x:=if_neg h
     have e2:gW n (x :: a) = qZ n x:=if_neg h
     rw [e1,e2,if_neg h]
theorem xA:∀ (a:List (List Sp)) (n:Int),(Iq n a).length = a.length + 1
 | [],n=>rfl
 | y :: a,n=>by simp only [Iq,List.length_cons];rw [xA a]
end Go.Proofs.YtadlnaljicikfaaDoor.aI
namespace Go.Proofs.YtadlnaljicikfaaDoor.aI
open Go Go.Lib
theorem Hl {l:List UInt8} (hl:l ≠ []) (h:decodeL l ≠ (65533,1)):decodeL (l.take (decodeL l).2) = decodeL l:=by
 have hp:=List.length_pos_iff.2 hl
 have hle:=decodeL_le l hl
 have g:∀ w i,i < w -> ((l.take w).getD i 0) = l.getD i 0:=fun w i hi=>by
   simp only [List.getD_eq_getElem?_getD,List.getElem?_take,if_pos hi]
 rw [decodeL_N] at h hle ⊢
 rw [decodeL_N]
 rcases decodeN_shape l.length (l.getD 0 0).toNat (l.getD 1 0).toNat (l.getD 2 0).toNat (l.getD 3 0).toNat with ⟨c,e⟩ | ⟨c1,c2,c3,cv,e⟩ | ⟨c1,c2,c3,c4,cv,cs,e⟩ | ⟨c1,c2,c3,c4,c5,cv,cw,e⟩ | e
 · rw [e]
   simp only
   rw [g 1 0 (by omega)]
   unfold decodeN;rw [if_pos c]
 · rw [e]
   simp only
   rw [g 2 0 (by omega),g 2 1 (by omega),show (l.take 2).length = 2 by rw [List.length_take];omega]
   unfold decodeN;rw [if_neg (by omega),if_pos ⟨c1,by omega,c3⟩,if_pos cv]
 · rw [e]
   simp only
   rw [g 3 0 (by omega),g 3 1 (by omega),g 3 2 (by omega),show (l.take 3).length = 3 by rw [List.length_take];omega]
   unfold decodeN;rw [if_neg (by omega),if_neg (by omega),if_pos ⟨c1,⟨by omega,c3⟩,by omega,c4⟩,if_pos ⟨cv,by omega⟩]
 · rw [e]
   simp only
   rw [g 4 0 (by omega),g 4 1 (by omega),g 4 2 (by omega),g 4 3 (by omega),show (l.take 4).length = 4 by rw [List.length_take];omega]
   unfold decodeN;rw [if_neg (by omega),if_neg (by omega),if_neg (by omega),if_pos ⟨c1,⟨by omega,c3⟩,⟨by omega,c4⟩,by omega,c5⟩,if_pos ⟨cv,by omega⟩]
 · exact absurd e h
def CS (p:Nat):Prop:=encodeRune (p:Int) ≠ [] /\ ∀ rest,decodeL (encodeRune (p:Int) ++ rest) = (p,(encodeRune (p:Int)).length) /\ (p,(encodeRune (p:Int)).length) ≠ (65533,1)
theorem zq {l:List UInt8} (hl:l ≠ []) (h:decodeL l ≠ (65533,1)):CS (decodeL l).1 /\ encodeRune ((decodeL l).1:Int) = l.take (decodeL l).2:=by
 have e:=encode_decode l hl (fun hh=>h (Prod.ext hh.1 hh.2))
 have hw:=decodeL_width l
 have hle:=decodeL_le l hl
 have hlen:(l.take (decodeL l).2).length = (decodeL l).2:=by rw [List.length_take];omega
 have hne:l.take (decodeL l).2 ≠ []:=by intro hh;rw [hh] at hlen;simp at hlen;omega
 have hc:=Hl hl h
 refine ⟨⟨by rw [e];exact hne,fun rest=>?_⟩,e⟩
 rw [e,hlen]
 refine ⟨?_,h⟩
 rw [vG hne (by rw [hc];exact h),hc]
def fE (l:List Nat):List UInt8:=l.flatMap fun (p:Nat)=>encodeRune (p:Int)
theorem pz (p:Nat) (l:List Nat):fE (p :: l) = encodeRune (p:Int) ++ fE l:=rfl
theorem kC (a b:List Nat):fE (a ++ b) = fE a ++ fE b:=by simp [fE]
theorem jd:∀ l,validD l = true -> fE (pts l) = l /\ ∀ p ∈ pts l,CS p:=by
 refine wY ⟨rfl,fun p hp=>by simp [EU] at hp⟩ (fun l he hv hd hs ih=>?_)
 obtain ⟨s,e⟩:=zq he hd
 rw [ng he]
 refine ⟨?_,?_⟩
 · rw [pz,e,ih.1,List.take_append_drop]
 · intro p hp
   rcases List.mem_cons.1 hp with rfl | hp
   · exact s
   · exact ih.2 p hp
theorem lU:∀ (l:List Nat),(∀ p ∈ l,CS p) -> validD (fE l) = true /\ pts (fE l) = l
 | [],_=>⟨rfl,rfl⟩
 | p :: l,h=>by
   obtain ⟨h1,h2⟩:=h p (by simp)
   obtain ⟨i1,i2⟩:=lU l (fun q hq=>h q (by simp [hq]))
   obtain ⟨d1,d2⟩:=h2 (fE l)
   have hne:encodeRune (p:Int) ++ fE l ≠ []:=by simp [h1]
   rw [pz]
   refine ⟨?_,?_⟩
   · rw [validD_step hne,d1,if_neg d2]
     simp only [List.drop_left];exact i1
   · rw [ng hne,d1]
     simp only [List.drop_left];rw [i2]
theorem E5 (p:Nat):(Utf8.encode (p:Int)).data.toList = encodeRune (p:Int):=by
 have h:=Extern.FmtText.encode_eq p
 unfold encodeRune
 rw [<- h]
 unfold Extern.FmtText.nums
 rw [List.map_map]
 conv=>lhs;rw [<- List.map_id (Utf8.encode (p:Int)).data.toList]
 refine List.map_congr_left (fun b _=>?_)
 simp
theorem Ho (l:List Nat):(runesBytes (l.map fun (p:Nat)=>(p:Int))).data.toList = fE l:=by
 have key:∀ (l:List Nat) (r:ByteArray),((l.map fun (p:Nat)=>(p:Int)).foldl (fun r n=>r ++ Utf8.encode n) r).data.toList = r.data.toList ++ fE l:=by
   intro l
   induction l with
   | nil=>intro r;simp [fE]
   | cons p l ih=>intro r;rw [List.map_cons,List.foldl_cons,ih,tN,E5,pz,List.append_assoc]
 exact key l _
def eU (l:List Nat):List Int:=l.map fun (p:Nat)=>(p:Int)
theorem runes_all (b:ByteArray):jh b = bK (eU (pts b.data.toList)):=by
 have key:∀ (n i:Nat) (acc:Array Value),(Conv.runesFrom b n i acc).toList = acc.toList ++ (oW n (b.data.toList.drop i)).map fun (p:Nat)=>Value.int .i32 (p:Int):=by
   intro n
   induction n with
   | zero=>intro i acc;simp [Conv.runesFrom,oW]
   | succ n ih =>
     intro i acc
     have hsz:b.data.toList.length = b.size:=bD b
     by_cases hi:i < b.size
     · have hne:b.data.toList.drop i ≠ []:=by intro hh;have:=congrArg List.length hh;rw [List.length_drop] at this;simp at this;omega
       simp only [Conv.runesFrom,oW,if_pos hi,if_neg hne]
       rw [ih,decodeL_drop,List.drop_drop]
       simp
     · have he:b.data.toList.drop i = []:=List.drop_of_length_le (by omega)
       simp only [Conv.runesFrom,oW,if_neg hi,he,if_pos]
       simp
 unfold jh
 rw [key]
 simp only [List.drop_zero,List.nil_append]
 have e:oW b.size b.data.toList = pts b.data.toList:=by unfold pts;rw [bD]
 rw [e]
 simp [bK,eU]
theorem Td {l:List Nat}:l.length <= (fE l).length ∨ ∃ p ∈ l,¬ CS p:=by
 induction l with
 | nil=>exact .inl (Nat.le_refl _)
 | cons p l ih =>
   by_cases h:CS p
   · have:=List.length_pos_iff.2 h.1
     rcases ih with ih | ⟨q,a,b⟩
     · refine .inl ?_
       rw [pz,List.length_append,List.length_cons];omega
     · exact .inr ⟨q,by simp [a],b⟩
   · exact .inr ⟨p,by simp,h⟩
end Go.Proofs.YtadlnaljicikfaaDoor.aI
namespace Go.Proofs.YtadlnaljicikfaaDoor.aI
open Go
set_option maxRecDepth 100000
attribute [local irreducible] Ev.iH Ev.iR Ev.bY Ev.runK Ev.cu Ev.gK Ev.Side Ev.Wp Ev.Again Ev.To Ev.Fin
open Go.Lib Go.RowKit
theorem abJ:∀ c,Tryd.f56.body = some c -> comp c = (.seq (.reg 0 [I.n 0 4 (.assign (.const (Value.string { data:=#[] }))),I.n 1 5 (I.si 0)]) (.seq (.seq (.reg 1 [I.n 0 12 (I.mv 0),I.n 1 13 (I.c1 72 12 23),I.n 2 6 (I.sa 13)]) (.seq (.reg 2 [I.n 0 14 (I.mv 6),I.n 1 15 (I.bc .neq 30 14 0 30)]) (.cond (.tmp 15) (.seq (.reg 3 [I.n 0 16 (I.mv 6),I.n 1 4 (.assign (.const (Value.string { data:=#[] }))),I.n 2 5 (I.sa 16)]) .ret) .skip))) (.seq (.seq (.reg 4 [I.n 0 17 (I.mv 1),I.n 1 18 (I.c1 32 17 9),I.n 2 7 (I.sa 18)]) (.block 0 (.seq (.reg 5 [I.n 0 20 (I.mv 7),I.n 1 21 (I.bc .lss 3 20 0 3),I.n 2 19 (I.sa 21)]) (.cond (.tmp 19) (.seq (.reg 6 [I.n 0 4 (.assign (.const (Value.string { data:=#[] }))),I.n 1 5 (I.si 3)]) .ret) (.seq (.reg 7 [I.n 0 23 (I.mv 7),I.n 1 24 (I.mv 0),I.n 2 25 (I.c1 74 24 23),I.n 3 26 (I.bo .neq 3 23 25 3),I.n 4 22 (I.sa 26)]) (.cond (.tmp 22) (.seq (.reg 8 [I.n 0 4 (.assign (.const (Value.string { data:=#[] }))),I.n 1 5 (I.si 5)]) .ret) .skip)))))) (.seq (.reg 9 [I.n 0 27 (I.mv 1),I.n 1 28 (I.cv 9 115 27),I.n 2 8 (I.sa 28)]) (.seq (.reg 10 [I.n 0 9 I.sn]) (.seq (.seq (.reg 11 [I.n 0 29 (I.mv 0),I.n 1 30 (I.ln 29 23),I.n 2 31 (.move (.const (Value.int .i64 0)))]) (.block 1 (.loop (.seq (.reg 12 [I.n 0 32 (I.bo .lss 3 31 30 3)]) (.seq (.cond (.tmp 32) .skip (.exit 1)) (.seq (.block 2 (.seq (.reg 13 [I.n 0 33 (I.ia 23 29 31),I.n 1 34 (I.ld 35 33),I.n 2 11 (.alloc 35),I.u 3 (I.st 35 11 34)]) (.seq (.seq (.reg 14 [I.n 0 35 (I.fa 35 11 0),I.n 1 36 (I.ld 3 35)]) (.block 3 (.seq (.reg 15 [I.n 0 38 (I.bc .eql 3 36 2 3),I.n 1 37 (I.sa 38)]) (.cond (.tmp 37) (.reg 16 [I.n 0 39 (I.mv 9),I.n 1 40 (I.fa 35 11 2),I.n 2 41 (I.ld 9 40),I.n 3 42 (I.cv 9 115 41),I.n 4 43 (I.ap 39 42 115 115),I.n 5 9 (I.sa 43)]) (.seq (.reg 17 [I.n 0 45 (I.bc .eql 3 36 1 3),I.n 1 44 (I.sa 45)]) (.cond (.tmp 44) (.reg 18 [I.n 0 46 (I.mv 9),I.n 1 47 (I.mv 8),I.n 2 48 (I.fa 35 11 1),I.n 3 49 (I.ld 3 48),I.n 4 50 (.slice 115 (.tmp 47) none (some (.tmp 49)) none),I.n 5 51 (I.ap 46 50 115 115),I.n 6 9 (I.sa 51)]) .skip)))))) (.reg 19 [I.n 0 52 (I.mv 8),I.n 1 53 (I.fa 35 11 1),I.n 2 54 (I.ld 3 53),I.n 3 55 (.slice 115 (.tmp 52) (some (.tmp 54)) none none),I.n 4 8 (I.sa 55)])))) (.reg 20 [I.n 0 56 (I.bc .add 3 31 1 3),I.n 1 31 (I.mv 56)]))))))) (.seq (.reg 21 [I.n 0 57 (I.mv 9),I.n 1 58 (I.cv 115 9 57),I.n 2 4 (I.sa 58),I.n 3 5 (I.si 0)]) .ret))))))):=by
 intro c h
 have:c = Tryd.f56.body.get rfl:=by rw [<- Option.some_inj,<- h];rfl
 rw [this];rfl
theorem abK:∀ c,Tryd.f57.body = some c -> comp c = (.seq (.reg 0 [I.n 0 4 (.assign (.const (Value.string { data:=#[] }))),I.n 1 5 (I.si 0)]) (.seq (.seq (.reg 1 [I.n 0 10 (I.mv 1),I.n 1 11 (I.ln 10 22),I.n 2 12 (I.bc .eql 3 11 0 3),I.n 3 13 (I.mv 12),I.w 4 14 (I.mv 0) 13 true,I.w 5 15 (I.c1 78 14 9) 13 true,I.w 6 16 (.unOp .not 4 (.tmp 15)) 13 true,I.n 7 17 (I.pc 13 16 false)]) (.cond (.tmp 17) (.seq (.reg 2 [I.n 0 4 (.assign (.const (Value.string { data:=#[] }))),I.n 1 5 (I.si 3)]) .ret) .skip)) (.seq (.seq (.reg 3 [I.n 0 18 (I.mv 1),I.n 1 19 (I.ln 18 22),I.n 2 20 (.move (.const (Value.int .i64 0)))]) (.block 0 (.loop (.seq (.reg 4 [I.n 0 21 (I.bo .lss 3 20 19 3)]) (.seq (.cond (.tmp 21) .skip (.exit 0)) (.seq (.block 1 (.seq (.reg 5 [I.n 0 22 (I.ia 22 18 20),I.n 1 23 (I.ld 23 22),I.n 2 7 (I.sa 23)]) (.seq (.reg 6 [I.n 0 25 (I.mv 7),I.n 1 26 (I.mv 0),I.n 2 27 (I.c2 56 25 26 23 9),I.n 3 24 (I.mv 27),I.n 4 28 (I.ex 24 0),I.n 5 29 (I.ex 24 1),I.n 6 8 (I.sa 28),I.n 7 9 (I.sa 29)]) (.seq (.seq (.reg 7 [I.n 0 30 (I.mv 9),I.n 1 31 (I.bc .neq 30 30 0 30)]) (.cond (.tmp 31) (.seq (.reg 8 [I.n 0 32 (I.mv 9),I.n 1 4 (.assign (.const (Value.string { data:=#[] }))),I.n 2 5 (I.sa 32)]) .ret) .skip)) (.reg 9 [I.n 0 33 (I.mv 8),I.n 1 0 (I.sa 33)]))))) (.reg 10 [I.n 0 34 (I.bc .add 3 20 1 3),I.n 1 20 (I.mv 34)]))))))) (.seq (.reg 11 [I.n 0 35 (I.mv 0),I.n 1 4 (I.sa 35),I.n 2 5 (I.si 0)]) .ret)))):=by
 intro c h
 have:c = Tryd.f57.body.get rfl:=by rw [<- Option.some_inj,<- h];rfl
 rw [this];rfl
def fK:List Sp -> List Nat -> List Nat
 | [],_=>[]
 | s :: l,r=>(if s.k = 2 then pts s.t.data.toList else if s.k = 1 then r.take s.n.toNat else []) ++ fK l (r.drop s.n.toNat)
def lV (l:List Sp) (t:ByteArray):Int:=if aC l ≠ 0 then aC l else if bG t.data.toList < 0 then 3 else if bG t.data.toList ≠ iT l then 5 else 0
def txt (ns:List Nat):ByteArray:=⟨(fE ns).toArray⟩
def oL (l:List Sp) (t:ByteArray):ByteArray:=if lV l t = 0 then txt (fK l (pts t.data.toList)) else ⟨#[]⟩
def toA (l:List Sp) (t:ByteArray):AV:=.dM [.v (.string (oL l t)),.v (.int .i64 (lV l t))]
theorem qM {l:List Sp} {t:ByteArray} {e:Int} (h:lV l t = e) (he:e ≠ 0):toA l t = .dM [.v (.string ⟨#[]⟩),.v (.int .i64 e)]:=by
 unfold toA oL;rw [h,if_neg he]
theorem Tf {l:List Sp} {t:ByteArray} (h:lV l t = 0):toA l t = .dM [.v (.string (txt (fK l (pts t.data.toList)))),.v (.int .i64 0)]:=by
 unfold toA oL;rw [h,if_pos rfl]
theorem fD (ns:List Nat):(txt ns).data.toList = fE ns:=by simp [txt]
theorem E8 {a b:ByteArray} (h:a.data.toList = b.data.toList):a = b:=by
 cases a;cases b;simp at h ⊢
 exact h
theorem kS (ns:List Nat):runesBytes (eU ns) = txt ns:=E8 (by rw [fD];exact Ho ns)
theorem Fa (a b:List Nat):txt a ++ txt b = txt (a ++ b):=E8 (by rw [tN,fD,fD,fD,kC])
theorem qN {t:ByteArray} (h:validD t.data.toList = true):txt (pts t.data.toList) = t:=E8 (by rw [fD,(jd _ h).1])
theorem ny {l:List Sp} {t:ByteArray} (h:lV l t = 0):aC l = 0 /\ validD t.data.toList = true /\ iT l = (pts t.data.toList).length:=by
 unfold lV at h
 by_cases h1:aC l = 0
 · rw [if_neg (by simp [h1])] at h
   by_cases h2:bG t.data.toList < 0
   · rw [if_pos h2] at h;cases h
   · rw [if_neg h2] at h
     by_cases h3:bG t.data.toList = iT l
     · cases hv:validD t.data.toList with
       | false=>rw [vH hv] at h2;omega
       | true=>exact ⟨h1,rfl,by rw [<- h3,bH hv]⟩
     · rw [if_pos h3] at h;cases h
 · rw [if_pos h1] at h;exact absurd h h1
theorem vK {l:List Sp} {t:ByteArray} (h1:aC l = 0) (h2:validD t.data.toList = true) (h3:iT l = (pts t.data.toList).length):lV l t = 0:=by
 unfold lV;rw [if_neg (by simp [h1]),bH h2,if_neg (by omega),if_neg (by simp [h3])]
def uP (s:Sp) (r:List Nat):List Nat:=if s.k = 2 then pts s.t.data.toList else if s.k = 1 then r.take s.n.toNat else []
theorem pF (s:Sp) (l:List Sp) (r:List Nat):fK (s :: l) r = uP s r ++ fK l (r.drop s.n.toNat):=rfl
theorem Ll {l:List Sp} {i:Nat} (hi:i < l.length) (r:List Nat):fK (l.drop i) r = uP l[i] r ++ fK (l.drop (i + 1)) (r.drop l[i].n.toNat):=by
 rw [List.drop_eq_getElem_cons hi,pF]
theorem Ti {l:List Sp} {i:Nat} (hi:i < l.length):aY dZ (l.drop i) = dZ l[i] + aY dZ (l.drop (i + 1)):=by
 rw [List.drop_eq_getElem_cons hi,bV]
theorem Ad {l:List Sp} (h:∀ s ∈ l,bM s):0 <= aY dZ l:=(jJ dZ 1048576 l (fun x hx=>(h x hx).dZ)).1
theorem jq {s:Sp} (h:bM s):(s.k = 2 /\ s.n = 0 /\ dZ s = 0 /\ validD s.t.data.toList = true) ∨ ((s.k = 1 ∨ s.k = 3) /\ 0 <= s.n /\ dZ s = s.n /\ s.t = ⟨#[]⟩):=by
 rcases h.cases with ⟨a,b,c,d⟩ | ⟨a,b,c⟩
 · exact .inr ⟨a,b,by unfold aI.dZ kN;rw [if_pos a],d⟩
 · exact .inl ⟨a,b,by unfold aI.dZ kN;rw [if_neg (by omega)],c⟩
theorem Hq:∀ (l:List Sp) (r:List Nat),(∀ s ∈ l,bM s) -> aY dZ l = r.length -> ((fK l r).length:Int) = aY dO l
 | [],r,_,_=>by simp [fK,aY]
 | s :: l,r,h,hr=>by
   have hs:=h s (by simp)
   have hp:=Ad (fun x hx=>h x (by simp [hx]):∀ x ∈ l,bM x)
   rw [bV] at hr
   have hn:s.n.toNat <= r.length /\ dZ s = (s.n.toNat:Int):=by rcases jq hs with ⟨a,b,c,d⟩ | ⟨a,b,c,d⟩ <;> omega
   have ih:=Hq l (r.drop s.n.toNat) (fun x hx=>h x (by simp [hx])) (by rw [List.length_drop];omega)
   rw [pF,List.length_append,bV,Int.natCast_add,ih]
   congr 1
   unfold uP dO kQ
   rcases jq hs with ⟨a,b,c,d⟩ | ⟨a | a,b,c,d⟩
   · rw [if_pos a,if_neg (by omega),if_pos a,bH d];omega
   · rw [if_neg (by omega),if_pos a,if_pos a,List.length_take];omega
   · rw [if_neg (by omega),if_neg (by omega),if_neg (by omega),if_neg (by omega)];rfl
theorem yK:∀ (l:List Sp) (r:List Nat),(∀ s ∈ l,bM s) -> (∀ p ∈ r,CS p) -> ∀ p ∈ fK l r,CS p
 | [],r,_,_,p,hp=>by simp [fK] at hp
 | s :: l,r,h,hr,p,hp=>by
   rw [pF,List.mem_append] at hp
   rcases hp with hp | hp
   · unfold uP at hp
     rcases jq (h s (by simp)) with ⟨a,b,c,d⟩ | ⟨a | a,b,c,d⟩
     · rw [if_pos a] at hp;exact (jd _ d).2 p hp
     · rw [if_neg (by omega),if_pos a] at hp;exact hr p (List.mem_of_mem_take hp)
     · rw [if_neg (by omega),if_neg (by omega)] at hp;cases hp
   · exact yK l _ (fun x hx=>h x (by simp [hx])) (fun q hq=>hr q (List.mem_of_mem_drop hq)) p hp
theorem yL:∀ (l:List Sp) (r:List Nat),(∀ s ∈ l,bM s) -> (fE (fK l r)).length <= (fE r).length + bT l
 | [],r,_=>by simp [fK,fE]
 | s :: l,r,h=>by
   have ih:=yL l (r.drop s.n.toNat) (fun x hx=>h x (by simp [hx]))
   have hr:(fE r).length = (fE (r.take s.n.toNat)).length + (fE (r.drop s.n.toNat)).length:=by
     rw [<- List.length_append,<- kC,List.take_append_drop]
   rw [pF,kC,List.length_append,aN]
   have:(fE (uP s r)).length <= (fE (r.take s.n.toNat)).length + s.t.size:=by
     unfold uP
     rcases jq (h s (by simp)) with ⟨a,b,c,d⟩ | ⟨a | a,b,c,d⟩
     · rw [if_pos a,(jd _ d).1,bD];omega
     · rw [if_neg (by omega),if_pos a];omega
     · rw [if_neg (by omega),if_neg (by omega)];simp [fE]
   omega
theorem yM {l:List Sp} {t:ByteArray} (h:lV l t = 0) (hl:l.length <= 1000000000) (hb:t.size + bT l <= 1000000000):validD (oL l t).data.toList = true /\ pts (oL l t).data.toList = fK l (pts t.data.toList) /\ ((pts (oL l t).data.toList).length:Int) = outW l /\ (oL l t).size <= t.size + bT l:=by
 obtain ⟨h1,h2,h3⟩:=ny h
 obtain ⟨h4,h5⟩:=(kR l).1 h1
 have hs:=xk h4 hl
 have hT:oL l t = txt (fK l (pts t.data.toList)):=if_pos h
 obtain ⟨p1,p2⟩:=jd _ h2
 obtain ⟨q1,q2⟩:=lU _ (yK l _ h4 p2)
 have hlen:=Hq l (pts t.data.toList) h4 (by omega)
 have hsz:=yL l (pts t.data.toList) h4
 rw [p1,bD] at hsz
 rw [hT,fD]
 refine ⟨q1,q2,?_,?_⟩
 · rw [q2,ku,<- hlen,bg]
   rcases Td (l:=fK l (pts t.data.toList)) with hu | ⟨p,hp,hn⟩
   · omega
   · exact absurd (yK l _ h4 p2 p hp) hn
 · rw [<- bD,fD];exact hsz
theorem fM (l:List Int):(bK l).length = l.length:=by simp [bK]
theorem gy (l:List Nat):(eU l).length = l.length:=by simp [eU]
theorem pG (l:List Int):∀ y ∈ bK l,y.length = 1:=by
 intro y hy
 refine' agx
set_option maxHeartbeats 8000000 in
theorem Xk (l:List Sp) (t:ByteArray) (hl:l.length <= 100000000) (hb:bT l + t.size <= 1000000000):aO env 56 [.lst 3 (aT l),.v (.string t)] (fun r hs=>r = toA l t /\ hs = []):=by
  have hsl:=aV l
  have hra:=runes_all t
  have hc:=jO t (by omega)
  have hsm:Small l:=dD (by omega)
  have hpl:=oq t.data.toList
  rw [bD] at hpl
  refine Ev.fn [0,1,4,5,6,7,8,9,11,15,19,22,29,30,31,32,36,37,44] 0 [.tmp 4,.tmp 5] Tryd.func56 (abJ _ rfl) ?_
  repeat' (first | refine' Ev.zS | refine' Ev.zK | ((with_reducible refine Ev.ca0 ?_);(first | refine Ev.aU (dL l (by omega) hsm) rfl rfl ?_ | refine Ev.aU (fF l (by omega)) rfl rfl ?_ | refine Ev.ca (dL l (by omega) hsm) ?_ | refine Ev.ca (hc) ?_ | refine Ev.ca (fF l (by omega)) ?_);conv=>whnf) | refine' Ev.zT | fail)
  · have:lV l t = 3:=by unfold lV;rw [if_neg (by simp;assumption),if_pos (by assumption)]
    exact ⟨(qM this (by decide)).symm,rfl⟩
  · have h1:aC l = 0:=by assumption
    have h2:¬ bG t.data.toList < 0:=by assumption
    have h3:bG t.data.toList = iT l:=by assumption
    have hz:lV l t = 0:=by unfold lV;rw [if_neg (by simp [h1]),if_neg h2,if_neg (by simp [h3])]
    obtain ⟨_,hv,hin⟩:=ny hz
    obtain ⟨h4,h5⟩:=(kR l).1 h1
    have hsum:=xk h4 (by omega)
    rw [Tf hz]
    generalize pts t.data.toList = r0 at *
    refine Ev.loop (fun k s=>∃ (i c:Nat) (O R:List Nat) (st:AV) (hx:List (Nat × aG)),s = ⟨[(8,.lst 1 (bK (eU R))),(9,st),(29,.lst 3 (aT l)),(30,.v (.int .i64 (aT l).length)),(31,.v (.int .i64 i))],hx,c⟩ /\
      ((O = [] /\ st = nilA /\ hx = []) ∨ (∃ v,st = .own 8224 v 0 O.length /\ hx = [(8224,⟨1,21,v,0,false,bK (eU O)⟩)]) ∨ (∃ v,st = .own 9256 v 0 O.length /\ hx = [(9256,⟨1,21,v,0,false,bK (eU O)⟩)])) /\
      k + i = l.length /\ fK l r0 = O ++ fK (l.drop i) R /\ (R.length:Int) = aY dZ (l.drop i) /\ O.length + R.length <= bT (l.take i) + r0.length) ?_ ?_
    · refine Ev.zB ⟨l.length,0,?_,[],r0,nilA,[],rfl,?_⟩ (by refine' Ev.zp <;> first | (first | (rw [hra];done) | rfl) | rfl | (refine' Ev.ze;(first | (rw [hra];done) | rfl)) | fail)
      exact ⟨.inl ⟨rfl,rfl,rfl⟩,by omega,rfl,by rw [List.drop_zero];omega,by simp⟩
    rintro k s1 ⟨i,c,O,R,st,hx,rfl,hst,hk,hap,hR,hsz⟩
    have hrl:=fM (eU R)
    rw [gy] at hrl
    have hol:=fM (eU O)
    rw [gy] at hol
    by_cases hil:i < l.length
    · have hs:=h4 _ (List.getElem_mem hil)
      have hsa:=Ti hil
      have hsp:=Ad (fun x hx=>h4 x (List.mem_of_mem_drop hx):∀ x ∈ l.drop (i + 1),bM x)
      have hpa:=Ll hil R
      have htk:=xu l hil
      have htl:=JX l (i + 1)
      have hxa:=runes_all l[i].t
      have hpx:=oq l[i].t.data.toList
      rw [bD] at hpx
      have hdr:List.take ((bK (eU R)).length - (l[i].n).toNat) (List.drop (l[i].n).toNat (bK (eU R))) = bK (eU (R.drop l[i].n.toNat)):=by
        rw [Bf,List.take_of_length_le (by rw [List.length_drop,gy,hrl];exact Nat.le_refl _)];simp [eU,List.map_drop]
      have Fb:List.take ((l[i].n).toNat - 0) (List.drop 0 (bK (eU R))) = bK (eU (R.take l[i].n.toNat)):=by
        rw [Bf,List.drop_zero,Nat.sub_zero];simp [eU,List.map_take]
      rcases hst with ⟨rfl,rfl,rfl⟩ | ⟨v,rfl,rfl⟩ | ⟨v,rfl,rfl⟩
      · rcases jq hs with ⟨a,b,c',d⟩ | ⟨a | a,b,c',d⟩
        · have hi2:(i:Int) < ((aT l).length:Int):=by omega
          have hn:l[i].n.toNat <= R.length:=by omega
          have hP:uP l[i] R = pts l[i].t.data.toList:=by unfold uP;rw [if_pos a]
          have hstep:fK l r0 = ([] ++ pts l[i].t.data.toList) ++ fK (l.drop (i + 1)) (R.drop l[i].n.toNat):=by rw [hap,hpa,hP,List.append_assoc]
          have hrow:jh l[i].t = bK (eU ([] ++ pts l[i].t.data.toList)):=by rw [hxa];simp [bK,eU]
          have hlr:(jh l[i].t).length = ([] ++ pts l[i].t.data.toList).length:=by rw [hxa,fM,gy];simp
          have hpl2:(pts l[i].t.data.toList).length <= l[i].t.size:=by exact hpx
          repeat' (first | refine' Ev.zP | (with_reducible refine Ev.aJ hi2 ?_) | (with_reducible refine Ev.aJ a ?_) | refine' Ev.zS | refine' Ev.zK | refine' Ev.zT | fail)
          · refine Ev.zA (k - 1) ⟨i + 1,c + 8 + 8,([] ++ pts l[i].t.data.toList),R.drop l[i].n.toNat,.own 8224 (c + 8) 0 ([] ++ pts l[i].t.data.toList).length,[(8224,⟨1,21,c + 8,0,false,bK (eU ([] ++ pts l[i].t.data.toList))⟩)],rfl,?_⟩ (by refine' Ev.zp <;> first | (first | exact wrap_succ (by omega) | exact congrArg (AV.lst 1) hdr | exact hlr | (exact congrArg (fun n=>aG.mk 1 21 _ 0 false n) hrow) | rfl) | rfl | (refine' Ev.ze;(first | exact wrap_succ (by omega) | exact congrArg (AV.lst 1) hdr | exact hlr | (exact congrArg (fun n=>aG.mk 1 21 _ 0 false n) hrow) | rfl)) | fail)
            refine ⟨.inr (.inl ⟨_,rfl,rfl⟩),by omega,hstep,by rw [List.length_drop];omega,?_⟩
            simp only [List.length_append,List.length_nil,List.length_drop,List.length_take] at hsz ⊢;omega
          · rw [hxa];exact Ev.Aa (pG _) (by rw [fM,gy];omega) (by decide)
        · have hi2:(i:Int) < ((aT l).length:Int):=by omega
          have a2:¬ l[i].k = 2:=by omega
          have hn:l[i].n.toNat <= R.length:=by omega
          have hP:uP l[i] R = R.take l[i].n.toNat:=by unfold uP;rw [if_neg a2,if_pos a]
          have hstep:fK l r0 = ([] ++ R.take l[i].n.toNat) ++ fK (l.drop (i + 1)) (R.drop l[i].n.toNat):=by rw [hap,hpa,hP,List.append_assoc]
          have hrow:List.take (l[i].n.toNat - 0) (List.drop 0 (bK (eU R))) = bK (eU ([] ++ R.take l[i].n.toNat)):=by rw [Fb];simp [bK,eU]
          have hlr:(List.take (l[i].n.toNat - 0) (List.drop 0 (bK (eU R)))).length = ([] ++ R.take l[i].n.toNat).length:=by rw [Fb,fM,gy];simp
          have hpl2:(R.take l[i].n.toNat).length <= R.length:=by rw [List.length_take];omega
          repeat' (first | refine' Ev.zP | (with_reducible refine Ev.aJ hi2 ?_) | (with_reducible refine Ev.aP a2 ?_) | (with_reducible refine Ev.aJ a ?_) | refine' Ev.zS | refine' Ev.zK | refine' Ev.zT | fail)
          · refine Ev.zA (k - 1) ⟨i + 1,c + 8 + 8,([] ++ R.take l[i].n.toNat),R.drop l[i].n.toNat,.own 9256 (c + 8) 0 ([] ++ R.take l[i].n.toNat).length,[(9256,⟨1,21,c + 8,0,false,bK (eU ([] ++ R.take l[i].n.toNat))⟩)],rfl,?_⟩ (by refine' Ev.zp <;> first | (first | exact wrap_succ (by omega) | exact congrArg (AV.lst 1) hdr | exact hlr | (exact congrArg (fun n=>aG.mk 1 21 _ 0 false n) hrow) | rfl) | rfl | (refine' Ev.ze;(first | exact wrap_succ (by omega) | exact congrArg (AV.lst 1) hdr | exact hlr | (exact congrArg (fun n=>aG.mk 1 21 _ 0 false n) hrow) | rfl)) | fail)
            refine ⟨.inr (.inr ⟨_,rfl,rfl⟩),by omega,hstep,by rw [List.length_drop];omega,?_⟩
            simp only [List.length_append,List.length_nil,List.length_drop,List.length_take] at hsz ⊢;omega
          · rw [Fb];exact Ev.Aa (pG _) (by rw [fM,gy];omega) (by decide)
        · have hi2:(i:Int) < ((aT l).length:Int):=by omega
          have a2:¬ l[i].k = 2:=by omega
          have a1:¬ l[i].k = 1:=by omega
          have hn:l[i].n.toNat <= R.length:=by omega
          have hP:uP l[i] R = []:=by unfold uP;rw [if_neg a2,if_neg a1]
          have hstep:fK l r0 = [] ++ fK (l.drop (i + 1)) (R.drop l[i].n.toNat):=by rw [hap,hpa,hP];rfl
          repeat' (first | refine' Ev.zP | (with_reducible refine Ev.aJ hi2 ?_) | (with_reducible refine Ev.aP a2 ?_) | (with_reducible refine Ev.aP a1 ?_) | refine' Ev.zS | refine' Ev.zK | refine' Ev.zT | fail)
          · refine Ev.zA (k - 1) ⟨i + 1,c + 8,[],R.drop l[i].n.toNat,nilA,[],rfl,?_⟩ (by refine' Ev.zp <;> first | (first | exact wrap_succ (by omega) | exact congrArg (AV.lst 1) hdr | rfl) | rfl | (refine' Ev.ze;(first | exact wrap_succ (by omega) | exact congrArg (AV.lst 1) hdr | rfl)) | fail)
            refine ⟨.inl ⟨rfl,rfl,rfl⟩,by omega,hstep,by rw [List.length_drop];omega,?_⟩
            simp only [List.length_append,List.length_nil,List.length_drop,List.length_take] at hsz ⊢;omega
      · rcases jq hs with ⟨a,b,c',d⟩ | ⟨a | a,b,c',d⟩
        · have hi2:(i:Int) < ((aT l).length:Int):=by omega
          have hn:l[i].n.toNat <= R.length:=by omega
          have hP:uP l[i] R = pts l[i].t.data.toList:=by unfold uP;rw [if_pos a]
          have hstep:fK l r0 = (O ++ pts l[i].t.data.toList) ++ fK (l.drop (i + 1)) (R.drop l[i].n.toNat):=by rw [hap,hpa,hP,List.append_assoc]
          have hrow:bK (eU O) ++ jh l[i].t = bK (eU (O ++ pts l[i].t.data.toList)):=by rw [hxa];simp [bK,eU]
          have hlr:O.length + (jh l[i].t).length = (O ++ pts l[i].t.data.toList).length:=by rw [hxa,fM,gy];simp
          have hpl2:(pts l[i].t.data.toList).length <= l[i].t.size:=by exact hpx
          repeat' (first | refine' Ev.zP | (with_reducible refine Ev.aJ hi2 ?_) | (with_reducible refine Ev.aJ a ?_) | refine' Ev.zS | refine' Ev.zK | refine' Ev.zT | fail)
          · refine Ev.zA (k - 1) ⟨i + 1,c + 8 + 8,(O ++ pts l[i].t.data.toList),R.drop l[i].n.toNat,.own 8224 (c + 8) 0 (O ++ pts l[i].t.data.toList).length,[(8224,⟨1,21,c + 8,0,false,bK (eU (O ++ pts l[i].t.data.toList))⟩)],rfl,?_⟩ (by refine' Ev.zp <;> first | (first | exact wrap_succ (by omega) | exact congrArg (AV.lst 1) hdr | exact hlr | (exact congrArg (fun n=>aG.mk 1 21 _ 0 false n) hrow) | rfl) | rfl | (refine' Ev.ze;(first | exact wrap_succ (by omega) | exact congrArg (AV.lst 1) hdr | exact hlr | (exact congrArg (fun n=>aG.mk 1 21 _ 0 false n) hrow) | rfl)) | fail)
            refine ⟨.inr (.inl ⟨_,rfl,rfl⟩),by omega,hstep,by rw [List.length_drop];omega,?_⟩
            simp only [List.length_append,List.length_nil,List.length_drop,List.length_take] at hsz ⊢;omega
          · rw [hxa];exact Ev.jG (by rw [hol]) (pG _) (by rw [fM,gy];omega) (by decide)
        · have hi2:(i:Int) < ((aT l).length:Int):=by omega
          have a2:¬ l[i].k = 2:=by omega
          have hn:l[i].n.toNat <= R.length:=by omega
          have hP:uP l[i] R = R.take l[i].n.toNat:=by unfold uP;rw [if_neg a2,if_pos a]
          have hstep:fK l r0 = (O ++ R.take l[i].n.toNat) ++ fK (l.drop (i + 1)) (R.drop l[i].n.toNat):=by rw [hap,hpa,hP,List.append_assoc]
          have hrow:bK (eU O) ++ List.take (l[i].n.toNat - 0) (List.drop 0 (bK (eU R))) = bK (eU (O ++ R.take l[i].n.toNat)):=by rw [Fb];simp [bK,eU]
          have hlr:O.length + (List.take (l[i].n.toNat - 0) (List.drop 0 (bK (eU R)))).length = (O ++ R.take l[i].n.toNat).length:=by rw [Fb,fM,gy];simp
          have hpl2:(R.take l[i].n.toNat).length <= R.length:=by rw [List.length_take];omega
          repeat' (first | refine' Ev.zP | (with_reducible refine Ev.aJ hi2 ?_) | (with_reducible refine Ev.aP a2 ?_) | (with_reducible refine Ev.aJ a ?_) | refine' Ev.zS | refine' Ev.zK | refine' Ev.zT | fail)
          · refine Ev.zA (k - 1) ⟨i + 1,c + 8 + 8,(O ++ R.take l[i].n.toNat),R.drop l[i].n.toNat,.own 8224 (c + 8) 0 (O ++ R.take l[i].n.toNat).length,[(8224,⟨1,21,c + 8,0,false,bK (eU (O ++ R.take l[i].n.toNat))⟩)],rfl,?_⟩ (by refine' Ev.zp <;> first | (first | exact wrap_succ (by omega) | exact congrArg (AV.lst 1) hdr | exact hlr | (exact congrArg (fun n=>aG.mk 1 21 _ 0 false n) hrow) | rfl) | rfl | (refine' Ev.ze;(first | exact wrap_succ (by omega) | exact congrArg (AV.lst 1) hdr | exact hlr | (exact congrArg (fun n=>aG.mk 1 21 _ 0 false n) hrow) | rfl)) | fail)
            refine ⟨.inr (.inl ⟨_,rfl,rfl⟩),by omega,hstep,by rw [List.length_drop];omega,?_⟩
            simp only [List.length_append,List.length_nil,List.length_drop,List.length_take] at hsz ⊢;omega
          · rw [Fb];exact Ev.jG (by rw [hol]) (pG _) (by rw [fM,gy];omega) (by decide)
        · have hi2:(i:Int) < ((aT l).length:Int):=by omega
          have a2:¬ l[i].k = 2:=by omega
          have a1:¬ l[i].k = 1:=by omega
          have hn:l[i].n.toNat <= R.length:=by omega
          have hP:uP l[i] R = []:=by unfold uP;rw [if_neg a2,if_neg a1]
          have hstep:fK l r0 = O ++ fK (l.drop (i + 1)) (R.drop l[i].n.toNat):=by rw [hap,hpa,hP];rfl
          repeat' (first | refine' Ev.zP | (with_reducible refine Ev.aJ hi2 ?_) | (with_reducible refine Ev.aP a2 ?_) | (with_reducible refine Ev.aP a1 ?_) | refine' Ev.zS | refine' Ev.zK | refine' Ev.zT | fail)
          · refine Ev.zA (k - 1) ⟨i + 1,c + 8,O,R.drop l[i].n.toNat,.own 8224 v 0 O.length,[(8224,⟨1,21,v,0,false,bK (eU O)⟩)],rfl,?_⟩ (by refine' Ev.zp <;> first | (first | exact wrap_succ (by omega) | exact congrArg (AV.lst 1) hdr | rfl) | rfl | (refine' Ev.ze;(first | exact wrap_succ (by omega) | exact congrArg (AV.lst 1) hdr | rfl)) | fail)
            refine ⟨.inr (.inl ⟨_,rfl,rfl⟩),by omega,hstep,by rw [List.length_drop];omega,?_⟩
            simp only [List.length_drop] at hsz ⊢;omega
      · rcases jq hs with ⟨a,b,c',d⟩ | ⟨a | a,b,c',d⟩
        · have hi2:(i:Int) < ((aT l).length:Int):=by omega
          have hn:l[i].n.toNat <= R.length:=by omega
          have hP:uP l[i] R = pts l[i].t.data.toList:=by unfold uP;rw [if_pos a]
          have hstep:fK l r0 = (O ++ pts l[i].t.data.toList) ++ fK (l.drop (i + 1)) (R.drop l[i].n.toNat):=by rw [hap,hpa,hP,List.append_assoc]
          have hrow:bK (eU O) ++ jh l[i].t = bK (eU (O ++ pts l[i].t.data.toList)):=by rw [hxa];simp [bK,eU]
          have hlr:O.length + (jh l[i].t).length = (O ++ pts l[i].t.data.toList).length:=by rw [hxa,fM,gy];simp
          have hpl2:(pts l[i].t.data.toList).length <= l[i].t.size:=by exact hpx
          repeat' (first | refine' Ev.zP | (with_reducible refine Ev.aJ hi2 ?_) | (with_reducible refine Ev.aJ a ?_) | refine' Ev.zS | refine' Ev.zK | refine' Ev.zT | fail)
          · refine Ev.zA (k - 1) ⟨i + 1,c + 8 + 8,(O ++ pts l[i].t.data.toList),R.drop l[i].n.toNat,.own 9256 (c + 8) 0 (O ++ pts l[i].t.data.toList).length,[(9256,⟨1,21,c + 8,0,false,bK (eU (O ++ pts l[i].t.data.toList))⟩)],rfl,?_⟩ (by refine' Ev.zp <;> first | (first | exact wrap_succ (by omega) | exact congrArg (AV.lst 1) hdr | exact hlr | (exact congrArg (fun n=>aG.mk 1 21 _ 0 false n) hrow) | rfl) | rfl | (refine' Ev.ze;(first | exact wrap_succ (by omega) | exact congrArg (AV.lst 1) hdr | exact hlr | (exact congrArg (fun n=>aG.mk 1 21 _ 0 false n) hrow) | rfl)) | fail)
            refine ⟨.inr (.inr ⟨_,rfl,rfl⟩),by omega,hstep,by rw [List.length_drop];omega,?_⟩
            simp only [List.length_append,List.length_nil,List.length_drop,List.length_take] at hsz ⊢;omega
          · rw [hxa];exact Ev.jG (by rw [hol]) (pG _) (by rw [fM,gy];omega) (by decide)
        · have hi2:(i:Int) < ((aT l).length:Int):=by omega
          have a2:¬ l[i].k = 2:=by omega
          have hn:l[i].n.toNat <= R.length:=by omega
          have hP:uP l[i] R = R.take l[i].n.toNat:=by unfold uP;rw [if_neg a2,if_pos a]
          have hstep:fK l r0 = (O ++ R.take l[i].n.toNat) ++ fK (l.drop (i + 1)) (R.drop l[i].n.toNat):=by rw [hap,hpa,hP,List.append_assoc]
          have hrow:bK (eU O) ++ List.take (l[i].n.toNat - 0) (List.drop 0 (bK (eU R))) = bK (eU (O ++ R.take l[i].n.toNat)):=by rw [Fb];simp [bK,eU]
          have hlr:O.length + (List.take (l[i].n.toNat - 0) (List.drop 0 (bK (eU R)))).length = (O ++ R.take l[i].n.toNat).length:=by rw [Fb,fM,gy];simp
          have hpl2:(R.take l[i].n.toNat).length <= R.length:=by rw [List.length_take];omega
          repeat' (first | refine' Ev.zP | (with_reducible refine Ev.aJ hi2 ?_) | (with_reducible refine Ev.aP a2 ?_) | (with_reducible refine Ev.aJ a ?_) | refine' Ev.zS | refine' Ev.zK | refine' Ev.zT | fail)
          · refine Ev.zA (k - 1) ⟨i + 1,c + 8 + 8,(O ++ R.take l[i].n.toNat),R.drop l[i].n.toNat,.own 9256 (c + 8) 0 (O ++ R.take l[i].n.toNat).length,[(9256,⟨1,21,c + 8,0,false,bK (eU (O ++ R.take l[i].n.toNat))⟩)],rfl,?_⟩ (by refine' Ev.zp <;> first | (first | exact wrap_succ (by omega) | exact congrArg (AV.lst 1) hdr | exact hlr | (exact congrArg (fun n=>aG.mk 1 21 _ 0 false n) hrow) | rfl) | rfl | (refine' Ev.ze;(first | exact wrap_succ (by omega) | exact congrArg (AV.lst 1) hdr | exact hlr | (exact congrArg (fun n=>aG.mk 1 21 _ 0 false n) hrow) | rfl)) | fail)
            refine ⟨.inr (.inr ⟨_,rfl,rfl⟩),by omega,hstep,by rw [List.length_drop];omega,?_⟩
            simp only [List.length_append,List.length_nil,List.length_drop,List.length_take] at hsz ⊢;omega
          · rw [Fb];exact Ev.jG (by rw [hol]) (pG _) (by rw [fM,gy];omega) (by decide)
        · have hi2:(i:Int) < ((aT l).length:Int):=by omega
          have a2:¬ l[i].k = 2:=by omega
          have a1:¬ l[i].k = 1:=by omega
          have hn:l[i].n.toNat <= R.length:=by omega
          have hP:uP l[i] R = []:=by unfold uP;rw [if_neg a2,if_neg a1]
          have hstep:fK l r0 = O ++ fK (l.drop (i + 1)) (R.drop l[i].n.toNat):=by rw [hap,hpa,hP];rfl
          repeat' (first | refine' Ev.zP | (with_reducible refine Ev.aJ hi2 ?_) | (with_reducible refine Ev.aP a2 ?_) | (with_reducible refine Ev.aP a1 ?_) | refine' Ev.zS | refine' Ev.zK | refine' Ev.zT | fail)
          · refine Ev.zA (k - 1) ⟨i + 1,c + 8,O,R.drop l[i].n.toNat,.own 9256 v 0 O.length,[(9256,⟨1,21,v,0,false,bK (eU O)⟩)],rfl,?_⟩ (by refine' Ev.zp <;> first | (first | exact wrap_succ (by omega) | exact congrArg (AV.lst 1) hdr | rfl) | rfl | (refine' Ev.ze;(first | exact wrap_succ (by omega) | exact congrArg (AV.lst 1) hdr | rfl)) | fail)
            refine ⟨.inr (.inr ⟨_,rfl,rfl⟩),by omega,hstep,by rw [List.length_drop];omega,?_⟩
            simp only [List.length_drop] at hsz ⊢;omega
    · have hi2:¬ (i:Int) < ((aT l).length:Int):=by omega
      have hdl:l.drop i = []:=List.drop_of_length_le (by omega)
      rw [hdl] at hap
      have hO:fK l r0 = O:=by rw [hap];simp [fK]
      rw [hO,<- kS]
      rcases hst with ⟨rfl,rfl,rfl⟩ | ⟨v,rfl,rfl⟩ | ⟨v,rfl,rfl⟩
      all_goals (repeat' (first | refine' Ev.zP | (with_reducible refine Ev.aP hi2 ?_) | refine' Ev.zS | refine' Ev.zK | ((refine Ev.CZ [] rfl ?_);conv=>whnf) | refine' Ev.zT | fail))
      · exact ⟨rfl,rfl⟩
      all_goals
        refine ⟨?_,rfl⟩
        have e:List.take O.length (List.drop 0 (eU O)) = eU O:=by rw [List.drop_zero,List.take_of_length_le (by rw [gy];exact Nat.le_refl _)]
        show AV.dM [.v (.string (runesBytes (List.take O.length (List.drop 0 (eU O))))),_] = _
        rw [e]
  · have:lV l t = 5:=by unfold lV;rw [if_neg (by simp;assumption),if_neg (by assumption),if_pos (by assumption)]
    exact ⟨(qM this (by decide)).symm,rfl⟩
  · have h1:aC l ≠ 0:=by assumption
    have:lV l t = aC l:=by unfold lV;rw [if_pos h1]
    exact ⟨(qM this h1).symm,rfl⟩
def lC:List (List Sp) -> ByteArray -> Int × ByteArray
 | [],t=>(0,t)
 | x :: l,t=>if lV x t = 0 then lC l (oL x t) else (lV x t,⟨#[]⟩)
def O8 (t:ByteArray) (l:List (List Sp)):Int × ByteArray:=if l = [] /\ validD t.data.toList = false then (3,⟨#[]⟩) else lC l t
def allA (t:ByteArray) (l:List (List Sp)):AV:=.dM [.v (.string (O8 t l).2),.v (.int .i64 (O8 t l).1)]
def rC (l:List (List Sp)):Nat:=(l.map bT).sum
theorem yN (x:List Sp) (l:List (List Sp)):rC (x :: l) = bT x + rC l:=by simp [rC]
theorem D8 (l:List (List Sp)):∀ i,rC (l.take i) <= rC l:=fun i=>by
 have:rC l = rC (l.take i) + rC (l.drop i):=by
   conv=>lhs;rw [<- List.take_append_drop i l]
   unfold rC;rw [List.map_append,List.sum_append]
 omega
theorem Tj {t:ByteArray} (h:validD t.data.toList = false):O8 t [] = (3,⟨#[]⟩):=if_pos ⟨rfl,h⟩
theorem Xl {t:ByteArray} {l:List (List Sp)} (h:¬ (l = [] /\ validD t.data.toList = false)):O8 t l = lC l t:=if_neg h
theorem Xm {l:List Sp} {t:ByteArray} (h:lV l t = 0):(oL l t).size <= t.size + bT l:=by
 obtain ⟨h1,h2,h3⟩:=ny h
 have hT:oL l t = txt (fK l (pts t.data.toList)):=if_pos h
 have hsz:=yL l (pts t.data.toList) ((kR l).1 h1).1
 rw [(jd _ h2).1,bD] at hsz
 rw [hT,<- bD,fD];exact hsz
theorem aaq{G:Prop}(h:G:=by
 have hne:¬ (l = [] /\ validD t.data.toList = false):=by
   rintro ⟨e1,e2⟩
   first
     | (rename_i hv;rw [e2] at hv;cases hv)
     | (subst e1;rename_i h0;exact h0 rfl)
 have hA:allA t l = .dM [.v (.string (lC l t).2),.v (.int .i64 (lC l t).1)]:=by unfold allA;rw [Xl hne]
 rw [hA]
 refine Ev.loop (fun k s=>∃ (i c:Nat) (u:ByteArray),s = ⟨[(0,.v (.string u)),(4,.v (.string ⟨#[]⟩)),(5,.v (.int .i64 0)),(18,.lst 1 (aX l)),(19,.v (.int .i64 (aX l).length)),(20,.v (.int .i64 i))],[],c⟩ /\ k + i = l.length /\ lC l t = lC (l.drop i) u /\ u.size + rC (l.drop i) <= 1000000000) ?_ ?_
 all_goals(rcases(⟨_⟩:PLift _)with⟨h⟩;exact h)):G:=h
theorem aa1{G:Prop}(h:G:=by
 have e1:toA l[i] u = .dM [.v (.string ⟨#[]⟩),.v (.int .i64 (lV l[i] u))]:=qM rfl h0
 rw [e1] at hT
 have e2:lC l t = (lV l[i] u,⟨#[]⟩):=by rw [hg];simp only [lC];rw [if_neg h0]
 rw [e2]
 repeat' (first | refine' Ev.zP | (with_reducible refine Ev.aJ hi2 ?_) | (with_reducible refine Ev.aP h0 ?_) | (((with_reducible refine Ev.aK h0 ?_);conv=>whnf)) | refine' Ev.zS | refine' Ev.zK | ((with_reducible refine Ev.ca0 ?_);(first | refine Ev.ca (hT) ?_);conv=>whnf) | refine' Ev.zT | fail)
 exact ⟨rfl,rfl⟩):G:=h
theorem abd{G:Prop}(h:G:=by
 have hsz:=Xm h0
 have e1:toA l[i] u = .dM [.v (.string (oL l[i] u)),.v (.int .i64 0)]:=by unfold toA;rw [h0]
 rw [e1] at hT
 repeat' (first | refine' Ev.zP | (with_reducible refine Ev.aJ hi2 ?_) | refine' Ev.zS | refine' Ev.zK | ((with_reducible refine Ev.ca0 ?_);(first | refine Ev.ca (hT) ?_);conv=>whnf) | refine' Ev.zT | fail)
 refine Ev.zA (k - 1) ⟨i + 1,?_,oL l[i] u,rfl,?_⟩
 refine ⟨by omega,?_,by omega⟩
 rw [hg];simp only [lC];rw [if_pos h0]):G:=h
theorem abp{G:Prop}(h:G:=by
 have hi2:¬ (i:Int) < ((aX l).length:Int):=by omega
 have hd:l.drop i = []:=List.drop_of_length_le (by omega)
 rw [hd] at hg
 have e2:lC l t = (0,u):=hg
 rw [e2]
 repeat' (first | refine' Ev.zP | (with_reducible refine Ev.aP hi2 ?_) | refine' Ev.zS | refine' Ev.zK | refine' Ev.zT | fail)
 exact ⟨rfl,rfl⟩):G:=h
theorem ach{G:Prop}(h:G:=by
 have hi2:(i:Int) < ((aX l).length:Int):=by omega
 have hd:l.drop i = l[i] :: l.drop (i + 1):=List.drop_eq_getElem_cons hi
 rw [hd] at hg hu
 rw [yN] at hu
 have hT:=Xk l[i] u (hx _ (List.getElem_mem hi)) (by omega)
 by_cases h0:lV l[i] u = 0
 all_goals(rcases(⟨_⟩:PLift _)with⟨h⟩;exact h)):G:=h
theorem afk{G:Prop}(h:G:=by
 refine Ev.zB ⟨l.length,0,?_,t,rfl,?_⟩
 exact ⟨by omega,rfl,by rw [List.drop_zero];exact hb⟩):G:=h
theorem Tm (t:ByteArray) (l:List (List Sp)) (hl:l.length <= 100000000) (hx:∀ x ∈ l,x.length <= 100000000) (hb:t.size + rC l <= 1000000000):aO env 57 [.v (.string t),.lst 1 (aX l)] (fun r hs=>r = allA t l /\ hs = []):=by
 have hrl:=bW l
 have hpv:=su t (by omega)
 refine Ev.fn [0,1,4,5,7,8,9,17,18,19,20,21,31] 0 [.tmp 4,.tmp 5] Tryd.func57 (abK _ rfl) ?_
 repeat' (first | refine' Ev.zS | refine' Ev.zK | ((with_reducible refine Ev.ca0 ?_);(first | refine Ev.ca (hpv) ?_);conv=>whnf) | refine' Ev.zT | fail)
 · refine' aaq
   · refine' afk
   rintro k s1 ⟨i,c,u,rfl,hk,hg,hu⟩
   by_cases hi:i < l.length
   · refine' ach
     · refine' abd
     · refine' aa1
   · refine' abp
 · rename_i h0 hv
   have:l = []:=List.eq_nil_of_length_eq_zero (by omega)
   subst this
   refine ⟨?_,rfl⟩
   unfold allA;rw [Tj hv];rfl
 · refine' aaq
   · refine' afk
   rintro k s1 ⟨i,c,u,rfl,hk,hg,hu⟩
   by_cases hi:i < l.length
   · refine' ach
     · refine' abd
     · refine' aa1
   · refine' abp
end Go.Proofs.YtadlnaljicikfaaDoor.aI
namespace Go.Proofs.YtadlnaljicikfaaDoor.aI
open Go
inductive Mk where
 | put (c:Nat)
 | keep
 | drop
def dY:List Mk -> Nat
 | []=>0
 | .put _ :: l=>dY l
 | .keep :: l=>dY l + 1
 | .drop :: l=>dY l + 1
def dF:List Mk -> Nat
 | []=>0
 | .put _ :: l=>dF l + 1
 | .keep :: l=>dF l + 1
 | .drop :: l=>dF l
def nC (w:Nat -> Nat):List Mk -> Nat
 | []=>0
 | .put c :: l=>nC w l + w c
 | .keep :: l=>nC w l
 | .drop :: l=>nC w l
theorem eP:∀ (a b:List Mk),dY (a ++ b) = dY a + dY b
 | [],b=>by simp [dY]
 | .put c :: a,b=>by rw [List.cons_append];simp only [dY];exact eP a b
 | .keep :: a,b=>by rw [List.cons_append];simp only [dY];rw [eP a b];omega
 | .drop :: a,b=>by rw [List.cons_append];simp only [dY];rw [eP a b];omega
theorem fZ:∀ (a b:List Mk),dF (a ++ b) = dF a + dF b
 | [],b=>by simp [dF]
 | .put c :: a,b=>by rw [List.cons_append];simp only [dF];rw [fZ a b];omega
 | .keep :: a,b=>by rw [List.cons_append];simp only [dF];rw [fZ a b];omega
 | .drop :: a,b=>by rw [List.cons_append];simp only [dF];exact fZ a b
def lD (k:Bool) (f:List Mk -> List Mk):List Mk -> List Mk
 | .drop :: x=>.drop :: lD k f x
 | .put c :: x=>if k then .put c :: f x else f x
 | .keep :: x=>(if k then .keep else .drop) :: f x
 | []=>[]
def iy:List Mk -> List Mk -> List Mk
 | [],x=>x
 | .put c :: y,x=>.put c :: iy y x
 | .keep :: y,x=>lD true (iy y) x
 | .drop :: y,x=>lD false (iy y) x
def qO (k:Bool) (f:List Mk -> List Mk):List Mk -> List Mk
 | .put c :: a=>.put c :: qO k f a
 | .keep :: a=>if k then .keep :: f a else f a
 | .drop :: a=>if k then .drop :: f a else f a
 | []=>[]
def jD:List Mk -> List Mk -> List Mk
 | [],a=>a
 | .put _ :: s,a=>.keep :: jD s a
 | .keep :: s,a=>qO true (jD s) a
 | .drop :: s,a=>qO false (jD s) a
def kJ:List Mk -> List Nat -> List Nat
 | [],r=>r
 | .put c :: l,r=>c :: kJ l r
 | .keep :: l,p :: r=>p :: kJ l r
 | .drop :: l,_ :: r=>kJ l r
 | .keep :: _,[]=>[]
 | .drop :: _,[]=>[]
theorem lW (w:Nat -> Nat):∀ (y x:List Mk),dF x = dY y -> dY (iy y x) = dY x /\ dF (iy y x) = dF y /\ nC w (iy y x) <= nC w x + nC w y
 | [],x,h=>⟨rfl,h,by simp only [iy,nC];omega⟩
 | .put c :: y,x,h=>by
   have:=lW w y x h
   simp only [iy,dY,dF,nC];omega
 | .keep :: y,x,h=>by
   simp only [iy]
   induction x with
   | nil=>simp [dF,dY] at h
   | cons a x ih =>
     cases a with
     | drop=>have:=ih h;simp only [lD,dY,dF,nC] at this ⊢;omega
     | put c=>have:=lW w y x (by simp only [dF,dY] at h;omega);simp only [lD,if_true,dY,dF,nC];omega
     | keep=>have:=lW w y x (by simp only [dF,dY] at h;omega);simp only [lD,if_true,dY,dF,nC];omega
 | .drop :: y,x,h=>by
   simp only [iy]
   induction x with
   | nil=>simp [dF,dY] at h
   | cons a x ih =>
     cases a with
     | drop=>have:=ih h;simp only [lD,dY,dF,nC] at this ⊢;omega
     | put c=>have:=lW w y x (by simp only [dF,dY] at h;omega);simp only [lD,Bool.false_eq_true,if_false,dY,dF,nC];omega
     | keep=>have:=lW w y x (by simp only [dF,dY] at h;omega);simp only [lD,Bool.false_eq_true,if_false,dY,dF,nC];omega
theorem lX (w:Nat -> Nat):∀ (s a:List Mk),dY a = dY s -> dY (jD s a) = dF s /\ nC w (jD s a) = nC w a /\ dF (jD s a) + dY a <= dF a + dF s + dY a
 | [],a,h=>⟨h,rfl,by simp only [jD,dF];omega⟩
 | .put c :: s,a,h=>by
   have:=lX w s a h
   simp only [jD,dY,dF,nC];omega
 | .keep :: s,a,h=>by
   simp only [jD]
   induction a with
   | nil=>simp [dY] at h
   | cons b a ih =>
     cases b with
     | put c=>have:=ih h;simp only [qO,dY,dF,nC] at this ⊢;omega
     | keep=>have:=lX w s a (by simp only [dY] at h;omega);simp only [qO,if_true,dY,dF,nC];omega
     | drop=>have:=lX w s a (by simp only [dY] at h;omega);simp only [qO,if_true,dY,dF,nC];omega
 | .drop :: s,a,h=>by
   simp only [jD]
   induction a with
   | nil=>simp [dY] at h
   | cons b a ih =>
     cases b with
     | put c=>have:=ih h;simp only [qO,dY,dF,nC] at this ⊢;omega
     | keep=>have:=lX w s a (by simp only [dY] at h;omega);simp only [qO,Bool.false_eq_true,if_false,dY,dF,nC];omega
     | drop=>have:=lX w s a (by simp only [dY] at h;omega);simp only [qO,Bool.false_eq_true,if_false,dY,dF,nC];omega
theorem pI:∀ (y x:List Mk) (r:List Nat),dY x = r.length -> dF x = dY y -> kJ (iy y x) r = kJ y (kJ x r)
 | [],x,r,h1,h2=>rfl
 | .put c :: y,x,r,h1,h2=>by simp only [iy,kJ];rw [pI y x r h1 h2]
 | .keep :: y,x,r,h1,h2=>by
   simp only [iy]
   induction x generalizing r with
   | nil=>simp [dF,dY] at h2
   | cons a x ih =>
     cases a with
     | put c=>simp only [lD,if_true,kJ];rw [pI y x r h1 (by simp only [dF,dY] at h2;omega)]
     | drop=>cases r with
       | nil=>simp [dY] at h1
       | cons p r=>simp only [lD,kJ];exact ih r (by simpa [dY] using h1) h2
     | keep=>cases r with
       | nil=>simp [dY] at h1
       | cons p r=>simp only [lD,if_true,kJ];rw [pI y x r (by simpa [dY] using h1) (by simp only [dF,dY] at h2;omega)]
 | .drop :: y,x,r,h1,h2=>by
   simp only [iy]
   induction x generalizing r with
   | nil=>simp [dF,dY] at h2
   | cons a x ih =>
     cases a with
     | put c=>simp only [lD,Bool.false_eq_true,if_false,kJ];exact pI y x r h1 (by simp only [dF,dY] at h2;omega)
     | drop=>cases r with
       | nil=>simp [dY] at h1
       | cons p r=>simp only [lD,kJ];exact ih r (by simpa [dY] using h1) h2
     | keep=>cases r with
       | nil=>simp [dY] at h1
       | cons p r=>simp only [lD,Bool.false_eq_true,if_false,kJ];exact pI y x r (by simpa [dY] using h1) (by simp only [dF,dY] at h2;omega)
def xB (n:Nat):List Mk:=List.replicate n .keep
theorem Hr:∀ n,dY (xB n) = n
 | 0=>rfl
 | n + 1=>by simp only [xB,List.replicate_succ,dY];rw [<- xB,Hr n]
theorem D9:∀ n,dF (xB n) = n
 | 0=>rfl
 | n + 1=>by simp only [xB,List.replicate_succ,dF];rw [<- xB,D9 n]
theorem Ea:∀ (r:List Nat),kJ (xB r.length) r = r
 | []=>rfl
 | p :: r=>by simp only [List.length_cons,xB,List.replicate_succ,kJ];rw [<- xB,Ea r]
end Go.Proofs.YtadlnaljicikfaaDoor.aI
namespace Go.Proofs.YtadlnaljicikfaaDoor.aI
open Go Go.Lib
def nD (s:Sp):List Mk:=if s.k = 2 then (pts s.t.data.toList).map Mk.put else if s.k = 1 then List.replicate s.n.toNat Mk.keep else List.replicate s.n.toNat Mk.drop
def iC (l:List Sp):List Mk:=l.flatMap nD
theorem gX:iC [] = []:=rfl
theorem aQ (s:Sp) (l:List Sp):iC (s :: l) = nD s ++ iC l:=rfl
abbrev bf (l:List Sp):Prop:=∀ s ∈ l,bM s
theorem bf.tail {s:Sp} {l:List Sp} (h:bf (s :: l)):bf l:=fun x hx=>h x (by simp [hx])
theorem bf.head {s:Sp} {l:List Sp} (h:bf (s :: l)):bM s:=h s (by simp)
theorem bf.cons {s:Sp} {l:List Sp} (h:bM s) (h':bf l):bf (s :: l):=fun x hx=>by
 rcases List.mem_cons.1 hx with rfl | hx
 · exact h
 · exact h' x hx
theorem bf.app {a b:List Sp} (h:bf a) (h':bf b):bf (a ++ b):=fun x hx=>by
 rcases List.mem_append.1 hx with hx | hx
 · exact h x hx
 · exact h' x hx
theorem bf.nil:bf []:=fun x hx=>by simp at hx
theorem je (n:Nat):dY (List.replicate n Mk.keep) = n /\ dF (List.replicate n Mk.keep) = n:=⟨Hr n,D9 n⟩
theorem kD:∀ n:Nat,dY (List.replicate n Mk.drop) = n /\ dF (List.replicate n Mk.drop) = 0
 | 0=>⟨rfl,rfl⟩
 | n + 1=>by have:=kD n;simp only [List.replicate_succ,dY,dF];omega
theorem ou:∀ l:List Nat,dY (l.map Mk.put) = 0 /\ dF (l.map Mk.put) = l.length
 | []=>⟨rfl,rfl⟩
 | c :: l=>by have:=ou l;simp only [List.map_cons,dY,dF,List.length_cons];omega
theorem dI {s:Sp} (h:s.k = 2):nD s = (pts s.t.data.toList).map Mk.put:=if_pos h
theorem dX {s:Sp} (h:s.k = 1):nD s = List.replicate s.n.toNat Mk.keep:=by unfold nD;rw [if_neg (by omega),if_pos h]
theorem dQ {s:Sp} (h:s.k = 3):nD s = List.replicate s.n.toNat Mk.drop:=by unfold nD;rw [if_neg (by omega),if_neg (by omega)]
theorem aem{G:Prop}(h:G:=by (rcases h.cases with ⟨a | a,b,c,d⟩ | ⟨a,b,c⟩);all_goals(rcases(⟨_⟩:PLift _)with⟨h⟩;exact h)):G:=h
theorem jE {s:Sp} (h:bM s):(dY (nD s):Int) = dZ s /\ (dF (nD s):Int) = dO s:=by
 refine' aem
 · rw [dX a];have:=je s.n.toNat
   unfold dZ dO kN kQ;rw [if_pos (.inl a),if_pos a];omega
 · rw [dQ a];have:=kD s.n.toNat
   unfold dZ dO kN kQ;rw [if_pos (.inr a),if_neg (by omega),if_neg (by omega)];omega
 · rw [dI a];have:=ou (pts s.t.data.toList)
   unfold dZ dO kN kQ;rw [if_neg (by omega),if_neg (by omega),if_pos a,bH c];omega
theorem bU:∀ {l:List Sp},bf l -> (dY (iC l):Int) = aY dZ l /\ (dF (iC l):Int) = aY dO l
 | [],_=>⟨rfl,rfl⟩
 | s :: l,h=>by
   have h1:=jE h.head
   have h2:=bU h.tail
   rw [aQ,eP,fZ,bV,bV];omega
theorem Xn {a b:Sp} (ha:bM a) (hb:bM b) (hk:b.k = a.k) (hs:dZ a + dZ b <= 1048576):nD (mrg a b) = nD a ++ nD b:=by
 obtain ⟨m1,m2,m3,m4,m5⟩:=EW ha hb hk hs
 have ek:(mrg a b).k = a.k:=rfl
 rcases ha.cases with ⟨a1 | a1,a2,a3,a4⟩ | ⟨a1,a2,a3⟩
 · have:=hb.cases
   rw [dX (ek.trans a1),dX a1,dX (hk.trans a1),m5,List.replicate_append_replicate]
   congr 1;omega
 · have:=hb.cases
   rw [dQ (ek.trans a1),dQ a1,dQ (hk.trans a1),m5,List.replicate_append_replicate]
   congr 1;omega
 · rw [dI (ek.trans a1),dI a1,dI (hk.trans a1),<- List.map_append]
   congr 1
   show pts (a.t ++ b.t).data.toList = _
   rw [tN,KZ _ a3]
theorem yO {s:Sp} (h:emptyS s = true):nD s = []:=by
 obtain ⟨h1,h2⟩:=lT.1 h
 unfold nD;rw [h1,h2]
 split
 · rfl
 · split <;> rfl
theorem tY:∀ (l:List Sp) (cur:Sp),bM cur -> bf l -> dZ cur + aY dZ l <= 1048576 -> iC (fG cur l) = nD cur ++ iC l
 | [],cur,_,_,_=>by simp [fG,iC]
 | s :: l,cur,hc,hl,hs=>by
   have h1:=hl.head
   have h3:0 <= aY dZ l:=(jJ dZ 1048576 l (fun x hx=>(hl.tail x hx).dZ)).1
   have h4:=h1.dZ;have h5:=hc.dZ
   rw [bV] at hs
   simp only [fG]
   by_cases he:emptyS s = true
   · rw [if_pos he,aQ,yO he,List.nil_append]
     exact tY l cur hc hl.tail (by omega)
   · rw [if_neg he]
     by_cases hk:s.k = cur.k
     · rw [if_pos hk]
       obtain ⟨m1,m2,m3,m4,_⟩:=EW hc h1 hk (by omega)
       rw [tY l (mrg cur s) m1 hl.tail (by omega),Xn hc h1 hk (by omega),aQ,List.append_assoc]
     · rw [if_neg hk,aQ,tY l s h1 hl.tail (by omega),aQ]
theorem xC:∀ {l:List Sp},bf l -> aY dZ l <= 1048576 -> iC (norm l) = iC l
 | [],_,_=>rfl
 | s :: l,hl,hs=>by
   have h1:=hl.head
   rw [bV] at hs
   simp only [norm]
   by_cases he:emptyS s = true
   · rw [if_pos he,aQ,yO he,List.nil_append]
     exact xC hl.tail (by have:=(sF he).1;omega)
   · rw [if_neg he,tY l s h1 hl.tail hs,aQ]
def Eb:Mk -> Int
 | .put _=>2
 | .keep=>1
 | .drop=>3
theorem pJ {s:Sp} (h:bM s):∀ m ∈ nD s,Eb m = s.k:=by
 intro m hm
 refine' aem
 · rw [dX a] at hm;rw [(List.mem_replicate.1 hm).2,a];rfl
 · rw [dQ a] at hm;rw [(List.mem_replicate.1 hm).2,a];rfl
 · rw [dI a] at hm;obtain ⟨c,_,rfl⟩:=List.mem_map.1 hm;rw [a];rfl
theorem vM {s:Sp} (h:bM s) (he:emptyS s = false):nD s ≠ []:=by
 intro h0
 have he':¬ (s.n = 0 /\ s.t = ⟨#[]⟩):=fun x=>by rw [lT.2 x] at he;cases he
 refine' aem
 · rw [dX a] at h0;have:=congrArg List.length h0;rw [List.length_replicate] at this;simp at this;exact he' ⟨by omega,d⟩
 · rw [dQ a] at h0;have:=congrArg List.length h0;rw [List.length_replicate] at this;simp at this;exact he' ⟨by omega,d⟩
 · rw [dI a] at h0
   have:=List.map_eq_nil_iff.1 h0
   refine he' ⟨b,La.2 ?_⟩
   refine Decidable.byContradiction fun hne=>abE hne this
theorem BI {k:Int}:∀ {A A' B B':List Mk},A ++ B = A' ++ B' -> (∀ m ∈ A,Eb m = k) -> (∀ m ∈ A',Eb m = k) -> (∀ m ∈ B.head?,Eb m ≠ k) -> (∀ m ∈ B'.head?,Eb m ≠ k) -> A = A' /\ B = B'
 | [],[],B,B',h,_,_,_,_=>⟨rfl,h⟩
 | [],m :: A',B,B',h,_,h2,h3,_=>by
   rw [List.nil_append,List.cons_append] at h
   rw [h] at h3
   exact absurd (h2 m (by simp)) (h3 m (by simp))
 | m :: A,[],B,B',h,h1,_,_,h4=>by
   rw [List.nil_append,List.cons_append] at h
   rw [<- h] at h4
   exact absurd (h1 m (by simp)) (h4 m (by simp))
 | m :: A,m' :: A',B,B',h,h1,h2,h3,h4=>by
   rw [List.cons_append,List.cons_append] at h
   obtain ⟨e1,e2⟩:=List.cons.inj h
   obtain ⟨i1,i2⟩:=BI e2 (fun x hx=>h1 x (by simp [hx])) (fun x hx=>h2 x (by simp [hx])) h3 h4
   exact ⟨by rw [e1,i1],i2⟩
theorem Ht:∀ {l:List Sp} {k:Int},bf l -> xg (some k) l = true -> ∀ m ∈ (iC l).head?,Eb m ≠ k
 | [],k,_,_,m,hm=>by simp [iC] at hm
 | s :: l,k,h,hn,m,hm=>by
   simp only [xg,Bool.and_eq_true,Bool.not_eq_true',decide_eq_false_iff_not,Option.some.injEq] at hn
   have hne:=vM h.head hn.1.1
   rw [aQ] at hm
   cases hA:nD s with
   | nil=>exact absurd hA hne
   | cons x A =>
     rw [hA] at hm
     simp only [List.cons_append,List.head?_cons,Option.mem_def,Option.some.injEq] at hm
     subst hm
     rw [pJ h.head x (by rw [hA];simp)]
     exact fun e=>hn.1.2 e.symm
theorem ado{G:Prop}(h:G:=by
 have:=congrArg List.length h;rw [List.length_replicate,List.length_replicate] at this
 simp only at this
 have:n = n':=by omega
 rw [this,d,d']):G:=h
theorem Xo {s u:Sp} (hs:bM s) (hu:bM u) (hk:s.k = u.k) (h:nD s = nD u):s = u:=by
 obtain ⟨k,n,t⟩:=s
 obtain ⟨k',n',t'⟩:=u
 simp only at hk
 subst hk
 rcases hs.cases with ⟨a | a,b,c,d⟩ | ⟨a,b,c⟩
 · rcases hu.cases with ⟨a',b',c',d'⟩ | ⟨a',b',c'⟩
   · simp only at a b c d a' b' c' d'
     rw [dX a,dX a] at h
     refine' ado
   · simp only at a a';omega
 · rcases hu.cases with ⟨a',b',c',d'⟩ | ⟨a',b',c'⟩
   · simp only at a b c d a' b' c' d'
     rw [dQ a,dQ a] at h
     refine' ado
   · simp only at a a';omega
 · rcases hu.cases with ⟨a',b',c',d'⟩ | ⟨a',b',c'⟩
   · simp only at a a';omega
   · simp only at a b c a' b' c'
     rw [dI a,dI a] at h
     have:=(List.map_inj_right (fun x y e=>by cases e;rfl)).1 h
     simp only at this
     have:t = t':=by rw [<- qN c,<- qN c',this]
     rw [this,b,b']
theorem Fe:∀ {l m:List Sp} {p q:Option Int},bf l -> bf m -> xg p l = true -> xg q m = true -> iC l = iC m -> l = m
 | [],[],_,_,_,_,_,_,_=>rfl
 | [],u :: m,_,_,_,h2,_,h4,h=>by
   simp only [xg,Bool.and_eq_true,Bool.not_eq_true'] at h4
   rw [gX,aQ] at h
   exact absurd (List.append_eq_nil_iff.1 h.symm).1 (vM h2.head h4.1.1)
 | s :: l,[],_,_,h1,_,h3,_,h=>by
   simp only [xg,Bool.and_eq_true,Bool.not_eq_true'] at h3
   rw [gX,aQ] at h
   exact absurd (List.append_eq_nil_iff.1 h).1 (vM h1.head h3.1.1)
 | s :: l,u :: m,_,_,h1,h2,h3,h4,h=>by
   simp only [xg,Bool.and_eq_true,Bool.not_eq_true'] at h3 h4
   rw [aQ,aQ] at h
   have hk:s.k = u.k:=by
     have n1:=vM h1.head h3.1.1
     have n2:=vM h2.head h4.1.1
     cases hA:nD s with
     | nil=>exact absurd hA n1
     | cons x A =>
       cases hB:nD u with
       | nil=>exact absurd hB n2
       | cons y B =>
         rw [hA,hB,List.cons_append,List.cons_append] at h
         obtain ⟨e,_⟩:=List.cons.inj h
         rw [<- pJ h1.head x (by rw [hA];simp),<- pJ h2.head y (by rw [hB];simp),e]
   obtain ⟨e1,e2⟩:=BI h (pJ h1.head) (fun m hm=>by rw [hk];exact pJ h2.head m hm) (Ht h1.tail h3.2) (by rw [hk];exact Ht h2.tail h4.2)
   rw [Xo h1.head h2.head hk e1,Fe h1.tail h2.tail h3.2 h4.2 e2]
def Yb:Mk -> Sp
 | .put c=>⟨2,0,txt [c]⟩
 | .keep=>⟨1,1,⟨#[]⟩⟩
 | .drop=>⟨3,1,⟨#[]⟩⟩
def zy (A:List Mk):Prop:=∀ c,.put c ∈ A -> CS c
def PZ (A:List Mk):List Sp:=norm (A.map Yb)
theorem abL {m:Mk} (h:∀ c,m = .put c -> CS c):bM (Yb m) /\ nD (Yb m) = [m]:=by
 cases m with
 | put c =>
   obtain ⟨h1,h2⟩:=lU [c] (by simpa using h c rfl)
   refine ⟨bM.put rfl rfl (by rw [show (Yb (.put c)).t = txt [c] from rfl,fD];exact h1),?_⟩
   rw [dI rfl,show (Yb (.put c)).t = txt [c] from rfl,fD,h2];rfl
 | keep=>exact ⟨bM.keep (.inl rfl) (by decide) rfl,by rw [dX rfl];rfl⟩
 | drop=>exact ⟨bM.keep (.inr rfl) (by decide) rfl,by rw [dQ rfl];rfl⟩
theorem zy.tail {m:Mk} {A:List Mk} (h:zy (m :: A)):zy A:=fun c hc=>h c (by simp [hc])
theorem Lm:∀ {A:List Mk},zy A -> bf (A.map Yb) /\ iC (A.map Yb) = A
 | [],_=>⟨bf.nil,rfl⟩
 | m :: A,h=>by
   obtain ⟨h1,h2⟩:=abL (m:=m) (fun c hc=>h c (by simp [hc]))
   obtain ⟨i1,i2⟩:=Lm h.tail
   rw [List.map_cons]
   exact ⟨bf.cons h1 i1,by rw [aQ,h2,i2];rfl⟩
theorem Lp {A:List Mk} (h:zy A) (hn:dY A <= 1048576):bf (PZ A) /\ UF (PZ A) = true /\ iC (PZ A) = A:=by
 obtain ⟨h1,h2⟩:=Lm h
 have hs:aY dZ (A.map Yb) <= 1048576:=by have:=(bU h1).1;rw [h2] at this;omega
 exact ⟨(oZ _ h1 hs).1,xq _ h1 hs,by unfold PZ;rw [xC h1 hs,h2]⟩
theorem Ae {l:List Sp} (h:bf l):zy (iC l):=by
 intro c hc
 obtain ⟨s,hs,hm⟩:=List.mem_flatMap.1 hc
 rcases (h s hs).cases with ⟨a | a,b,c,d⟩ | ⟨a,b,c⟩
 · rw [dX a] at hm;cases (List.mem_replicate.1 hm).2
 · rw [dQ a] at hm;cases (List.mem_replicate.1 hm).2
 · rw [dI a] at hm
   obtain ⟨d,hd,e⟩:=List.mem_map.1 hm
   cases e
   exact (jd _ c).2 _ hd
theorem Hu {l:List Sp} (h:bf l) (hs:aY dZ l <= 1048576):norm l = PZ (iC l):=by
 have hi:dY (iC l) <= 1048576:=by have:=(bU h).1;omega
 obtain ⟨h1,h2,h3⟩:=Lp (Ae h) hi
 exact Fe (oZ _ h hs).1 h1 (xq _ h hs) h2 (by rw [xC h hs,h3])
theorem zy.cons {m:Mk} {A:List Mk} (h:∀ c,m = .put c -> CS c) (h':zy A):zy (m :: A):=fun c hc=>by
 rcases List.mem_cons.1 hc with e | hc
 · exact h c e.symm
 · exact h' c hc
theorem tZ:∀ (y x:List Mk),zy y -> zy x -> zy (iy y x)
 | [],x,hy,hx=>hx
 | .put c :: y,x,hy,hx=>zy.cons (fun d e=>hy d (by rw [<- e];simp)) (tZ y x hy.tail hx)
 | .keep :: y,x,hy,hx=>by
   simp only [iy]
   induction x with
   | nil=>exact hx
   | cons a x ih =>
     cases a with
     | drop=>exact zy.cons (fun d e=>by cases e) (ih hx.tail)
     | put c=>simp only [lD,if_true];exact zy.cons (fun d e=>hx d (by rw [<- e];simp)) (tZ y x hy.tail hx.tail)
     | keep=>simp only [lD,if_true];exact zy.cons (fun d e=>by cases e) (tZ y x hy.tail hx.tail)
 | .drop :: y,x,hy,hx=>by
   simp only [iy]
   induction x with
   | nil=>exact hx
   | cons a x ih =>
     cases a with
     | drop=>exact zy.cons (fun d e=>by cases e) (ih hx.tail)
     | put c=>simp only [lD,Bool.false_eq_true,if_false];exact tZ y x hy.tail hx.tail
     | keep=>simp only [lD,Bool.false_eq_true,if_false];exact zy.cons (fun d e=>by cases e) (tZ y x hy.tail hx.tail)
theorem uf:∀ (s a:List Mk),zy a -> zy (jD s a)
 | [],a,ha=>ha
 | .put c :: s,a,ha=>zy.cons (fun d e=>by cases e) (uf s a ha)
 | .keep :: s,a,ha=>by
   simp only [jD]
   induction a with
   | nil=>exact ha
   | cons b a ih =>
     cases b with
     | put c=>exact zy.cons (fun d e=>ha d (by rw [<- e];simp)) (ih ha.tail)
     | keep=>simp only [qO,if_true];exact zy.cons (fun d e=>by cases e) (uf s a ha.tail)
     | drop=>simp only [qO,if_true];exact zy.cons (fun d e=>by cases e) (uf s a ha.tail)
 | .drop :: s,a,ha=>by
   simp only [jD]
   induction a with
   | nil=>exact ha
   | cons b a ih =>
     cases b with
     | put c=>exact zy.cons (fun d e=>ha d (by rw [<- e];simp)) (ih ha.tail)
     | keep=>simp only [qO,Bool.false_eq_true,if_false];exact uf s a ha.tail
     | drop=>simp only [qO,Bool.false_eq_true,if_false];exact uf s a ha.tail
theorem xE:∀ (a b:List Mk) (r:List Nat),dY a <= r.length -> kJ (a ++ b) r = kJ a (r.take (dY a)) ++ kJ b (r.drop (dY a))
 | [],b,r,h=>by simp [kJ,dY]
 | .put c :: a,b,r,h=>by simp only [List.cons_append,kJ,dY];rw [xE a b r h]
 | .keep :: a,b,[],h=>by simp [dY] at h
 | .keep :: a,b,p :: r,h=>by simp only [List.cons_append,kJ,dY,List.take_succ_cons,List.drop_succ_cons];rw [xE a b r (by simpa [dY] using h)]
 | .drop :: a,b,[],h=>by simp [dY] at h
 | .drop :: a,b,p :: r,h=>by simp only [List.cons_append,kJ,dY,List.take_succ_cons,List.drop_succ_cons];rw [xE a b r (by simpa [dY] using h)]
theorem Hw:∀ (l:List Nat),kJ (l.map Mk.put) [] = l
 | []=>rfl
 | c :: l=>by simp only [List.map_cons,kJ];rw [Hw l]
theorem Ec:∀ (r:List Nat),kJ (List.replicate r.length Mk.drop) r = []
 | []=>rfl
 | p :: r=>by simp only [List.length_cons,List.replicate_succ,kJ];exact Ec r
theorem BJ:∀ (l:List Sp) (r:List Nat),bf l -> aY dZ l = r.length -> fK l r = kJ (iC l) r
 | [],r,h,hr=>by
   have:r = []:=List.length_eq_zero_iff.1 (by simp [aY] at hr;omega)
   subst this;rfl
 | s :: l,r,h,hr=>by
   have hs:=h.head
   have h1:=jE hs
   have h3:=Ad h.tail
   rw [bV] at hr
   rw [pF,aQ,xE _ _ _ (by omega)]
   rcases jq hs with ⟨a,b,c,d⟩ | ⟨a,b,c,d⟩
   · have e0:dY (nD s) = 0:=by omega
     rw [e0,b]
     simp only [Int.toNat_zero,List.drop_zero,List.take_zero]
     rw [BJ l r h.tail (by omega),dI a,Hw]
     unfold uP;rw [if_pos a]
   · have e0:dY (nD s) = s.n.toNat:=by omega
     rw [e0,BJ l _ h.tail (by rw [List.length_drop];omega)]
     congr 1
     have hl:(r.take s.n.toNat).length = s.n.toNat:=by rw [List.length_take];omega
     unfold uP
     rcases a with a | a
     · rw [dX a,if_neg (by omega),if_pos a]
       have:=Ea (r.take s.n.toNat)
       rw [hl] at this;exact this.symm
     · rw [dQ a,if_neg (by omega),if_neg (by omega)]
       have:=Ec (r.take s.n.toNat)
       rw [hl] at this;exact this.symm
def Xp:List Mk -> Prop
 | .put _ :: _=>False
 | _=>True
theorem yP:∀ (l:List Nat) (Y X:List Mk),iy (l.map Mk.put ++ Y) X = l.map Mk.put ++ iy Y X
 | [],_,_=>rfl
 | c :: l,Y,X=>by simp only [List.map_cons,List.cons_append,iy];rw [yP l]
theorem vN:∀ (n:Nat) (Y X:List Mk),Xp Y -> iy Y (List.replicate n Mk.drop ++ X) = List.replicate n Mk.drop ++ iy Y X
 | 0,Y,X,_=>rfl
 | n + 1,[],X,h=>rfl
 | n + 1,.put c :: Y,X,h=>h.elim
 | n + 1,.keep :: Y,X,h=>by have:=vN n (.keep :: Y) X h;simp only [List.replicate_succ,List.cons_append,iy,lD] at this ⊢;rw [this]
 | n + 1,.drop :: Y,X,h=>by have:=vN n (.drop :: Y) X h;simp only [List.replicate_succ,List.cons_append,iy,lD] at this ⊢;rw [this]
theorem BK:∀ (l:List Nat) (Y X:List Mk),iy (List.replicate l.length Mk.keep ++ Y) (l.map Mk.put ++ X) = l.map Mk.put ++ iy Y X
 | [],_,_=>rfl
 | c :: l,Y,X=>by simp only [List.length_cons,List.map_cons,List.replicate_succ,List.cons_append,iy,lD,if_true];rw [BK l]
theorem BL:∀ (n:Nat) (Y X:List Mk),iy (List.replicate n Mk.keep ++ Y) (List.replicate n Mk.keep ++ X) = List.replicate n Mk.keep ++ iy Y X
 | 0,_,_=>rfl
 | n + 1,Y,X=>by simp only [List.replicate_succ,List.cons_append,iy,lD,if_true];rw [BL n]
theorem BM:∀ (n:Nat) (Y X:List Mk),iy (List.replicate n Mk.drop ++ Y) (List.replicate n Mk.keep ++ X) = List.replicate n Mk.drop ++ iy Y X
 | 0,_,_=>rfl
 | n + 1,Y,X=>by simp only [List.replicate_succ,List.cons_append,iy,lD,Bool.false_eq_true,if_false];rw [BM n]
theorem BN:∀ (l:List Nat) (Y X:List Mk),iy (List.replicate l.length Mk.drop ++ Y) (l.map Mk.put ++ X) = iy Y X
 | [],_,_=>rfl
 | c :: l,Y,X=>by simp only [List.length_cons,List.map_cons,List.replicate_succ,List.cons_append,iy,lD,Bool.false_eq_true,if_false];exact BN l Y X
theorem yQ:∀ (l:List Nat) (S A:List Mk),jD (l.map Mk.put ++ S) A = List.replicate l.length Mk.keep ++ jD S A
 | [],_,_=>rfl
 | c :: l,S,A=>by simp only [List.length_cons,List.map_cons,List.replicate_succ,List.cons_append,jD];rw [yQ l]
theorem yR:∀ (l:List Nat) (S A:List Mk),Xp S -> jD S (l.map Mk.put ++ A) = l.map Mk.put ++ jD S A
 | [],_,_,_=>rfl
 | c :: l,[],A,h=>rfl
 | c :: l,.put _ :: S,A,h=>h.elim
 | c :: l,.keep :: S,A,h=>by have:=yR l (.keep :: S) A h;simp only [List.map_cons,List.cons_append,jD,qO] at this ⊢;rw [this]
 | c :: l,.drop :: S,A,h=>by have:=yR l (.drop :: S) A h;simp only [List.map_cons,List.cons_append,jD,qO] at this ⊢;rw [this]
theorem vO:∀ (n:Nat) (m:Mk) (S A:List Mk),(m = .keep ∨ m = .drop) -> jD (List.replicate n Mk.keep ++ S) (List.replicate n m ++ A) = List.replicate n m ++ jD S A
 | 0,_,_,_,_=>rfl
 | n + 1,m,S,A,h=>by
   rcases h with rfl | rfl
   · simp only [List.replicate_succ,List.cons_append,jD,qO,if_true];rw [vO n _ S A (.inl rfl)]
   · simp only [List.replicate_succ,List.cons_append,jD,qO,if_true];rw [vO n _ S A (.inr rfl)]
theorem vP:∀ (n:Nat) (m:Mk) (S A:List Mk),(m = .keep ∨ m = .drop) -> jD (List.replicate n Mk.drop ++ S) (List.replicate n m ++ A) = jD S A
 | 0,_,_,_,_=>rfl
 | n + 1,m,S,A,h=>by
   rcases h with rfl | rfl
   · simp only [List.replicate_succ,List.cons_append,jD,qO,Bool.false_eq_true,if_false];exact vP n _ S A (.inl rfl)
   · simp only [List.replicate_succ,List.cons_append,jD,qO,Bool.false_eq_true,if_false];exact vP n _ S A (.inr rfl)
def dS (s:Sp):Nat:=if s.k = 2 then (pts s.t.data.toList).length else s.n.toNat
def dJ (s:Sp) (n:Nat):Sp:=if s.k = 2 then ⟨2,0,txt ((pts s.t.data.toList).take n)⟩ else ⟨s.k,n,⟨#[]⟩⟩
def bI (s:Sp) (n:Nat):Sp:=if s.k = 2 then ⟨2,0,txt ((pts s.t.data.toList).drop n)⟩ else ⟨s.k,s.n - n,⟨#[]⟩⟩
def aS (s:Sp) (n:Nat) (l:List Sp):List Sp:=if dS s = n then l else bI s n :: l
theorem kV {s:Sp} (h:bM s):(nD s).length = dS s:=by
 unfold dS
 refine' aem
 · rw [dX a,List.length_replicate,if_neg (by omega)]
 · rw [dQ a,List.length_replicate,if_neg (by omega)]
 · rw [dI a,List.length_map,if_pos a]
theorem ug {s:Sp} (h:s.k = 2):dS s = (pts s.t.data.toList).length:=if_pos h
theorem fP {s:Sp} (h:s.k ≠ 2):dS s = s.n.toNat:=if_neg h
theorem sJ {s:Sp} (n:Nat) (h:s.k ≠ 2):dJ s n = ⟨s.k,n,⟨#[]⟩⟩:=if_neg h
theorem sK {s:Sp} (n:Nat) (h:s.k ≠ 2):bI s n = ⟨s.k,s.n - n,⟨#[]⟩⟩:=if_neg h
theorem kE {s:Sp} (h:bM s) {n:Nat} (hn:n <= dS s):bM (dJ s n) /\ bM (bI s n) /\ nD (dJ s n) = (nD s).take n /\ nD (bI s n) = (nD s).drop n /\ (dJ s n).t.size + (bI s n).t.size = s.t.size /\ (dJ s n).k = s.k /\ (bI s n).k = s.k:=by
 rcases h.cases with ⟨a,b,c,d⟩ | ⟨a,b,c⟩
 · have hk:s.k ≠ 2:=by omega
   rw [fP hk] at hn
   rw [sJ n hk,sK n hk,d]
   refine ⟨bM.keep a (by simp only;omega) rfl,bM.keep a (by simp only;omega) rfl,?_,?_,rfl,rfl,rfl⟩
   · rcases a with a | a
     · rw [dX a,dX (s:=⟨s.k,n,⟨#[]⟩⟩) a,List.take_replicate];congr 1;simp only;omega
     · rw [dQ a,dQ (s:=⟨s.k,n,⟨#[]⟩⟩) a,List.take_replicate];congr 1;simp only;omega
   · rcases a with a | a
     · rw [dX a,dX (s:=⟨s.k,s.n - n,⟨#[]⟩⟩) a,List.drop_replicate];congr 1;simp only;omega
     · rw [dQ a,dQ (s:=⟨s.k,s.n - n,⟨#[]⟩⟩) a,List.drop_replicate];congr 1;simp only;omega
 · have hp:=(jd _ c).2
   have e1:dJ s n = ⟨2,0,txt ((pts s.t.data.toList).take n)⟩:=if_pos a
   have e2:bI s n = ⟨2,0,txt ((pts s.t.data.toList).drop n)⟩:=if_pos a
   obtain ⟨s1,s2⟩:=lU ((pts s.t.data.toList).take n) (fun p hp'=>hp p (List.mem_of_mem_take hp'))
   obtain ⟨s3,s4⟩:=lU ((pts s.t.data.toList).drop n) (fun p hp'=>hp p (List.mem_of_mem_drop hp'))
   rw [e1,e2]
   refine ⟨bM.put rfl rfl (by simp only;rw [fD];exact s1),bM.put rfl rfl (by simp only;rw [fD];exact s3),?_,?_,?_,a.symm,a.symm⟩
   · rw [dI rfl,dI a];simp only;rw [fD,s2,List.map_take]
   · rw [dI rfl,dI a];simp only;rw [fD,s4,List.map_drop]
   · simp only
     have:txt ((pts s.t.data.toList).take n) ++ txt ((pts s.t.data.toList).drop n) = s.t:=by rw [Fa,List.take_append_drop,qN c]
     rw [<- Hf,this]
theorem nG {s:Sp} {l:List Sp} (h:bM s) (hl:bf l) {n:Nat} (hn:n <= dS s):bf (aS s n l) /\ iC (aS s n l) = (nD s).drop n ++ iC l /\ (aS s n l).length <= l.length + 1 /\ (dS s = n -> (aS s n l).length = l.length) /\ (dJ s n).t.size + bT (aS s n l) <= s.t.size + bT l:=by
 obtain ⟨h1,h2,h3,h4,h5,_,_⟩:=kE h hn
 unfold aS
 by_cases hz:dS s = n
 · rw [if_pos hz]
   refine ⟨hl,?_,by omega,fun _=>rfl,by omega⟩
   rw [List.drop_of_length_le (by rw [kV h];omega),List.nil_append]
 · rw [if_neg hz]
   exact ⟨bf.cons h2 hl,by rw [aQ,h4],by simp,fun e=>absurd e hz,by rw [aN];omega⟩
theorem iJ {s:Sp} (h:bM s) {n:Nat} (hn:n <= dS s):(s.k = 1 /\ (nD s).take n = List.replicate n Mk.keep) ∨ (s.k = 3 /\ (nD s).take n = List.replicate n Mk.drop) ∨ (s.k = 2 /\ ∃ l:List Nat,l.length = n /\ (nD s).take n = l.map Mk.put):=by
 refine' aem
 · rw [fP (by omega)] at hn
   refine .inl ⟨a,?_⟩
   rw [dX a,List.take_replicate];congr 1;omega
 · rw [fP (by omega)] at hn
   refine .inr (.inl ⟨a,?_⟩)
   rw [dQ a,List.take_replicate];congr 1;omega
 · rw [ug a] at hn
   refine .inr (.inr ⟨a,(pts s.t.data.toList).take n,by rw [List.length_take];omega,?_⟩)
   rw [dI a,List.map_take]
theorem Tn:∀ {l:List Sp},bf l -> (∀ s ∈ l.head?,s.k ≠ 2 /\ nD s ≠ []) -> Xp (iC l)
 | [],_,_=>trivial
 | s :: l,h,hk=>by
   have hs:=h.head
   obtain ⟨h2,h3⟩:=hk s (by simp)
   have hkk:=pJ hs
   rw [aQ]
   cases hA:nD s with
   | nil=>exact absurd hA h3
   | cons m A =>
     rw [hA] at hkk
     have:=hkk m (by simp)
     cases m with
     | put c=>exact absurd this.symm h2
     | keep=>trivial
     | drop=>trivial
def Ir (l:List Sp):Prop:=∀ s ∈ l,emptyS s = false
theorem Ir.tail {s:Sp} {l:List Sp} (h:Ir (s :: l)):Ir l:=fun x hx=>h x (by simp [hx])
theorem Hy:∀ {l:List Sp} {p:Option Int},xg p l = true -> Ir l
 | [],_,_=>fun x hx=>by simp at hx
 | s :: l,p,h=>by
   simp only [xg,Bool.and_eq_true,Bool.not_eq_true'] at h
   intro x hx
   rcases List.mem_cons.1 hx with rfl | hx
   · exact h.1.1
   · exact Hy h.2 x hx
theorem jR {s:Sp} {l:List Sp} (h:bM s) (hl:Ir l) {n:Nat} (hn:n <= dS s):Ir (aS s n l):=by
 unfold aS
 by_cases hz:dS s = n
 · rw [if_pos hz];exact hl
 · rw [if_neg hz]
   intro x hx
   rcases List.mem_cons.1 hx with rfl | hx
   · obtain ⟨h1,h2,h3,h4,_⟩:=kE h hn
     cases he:emptyS (bI s n) with
     | false=>rfl
     | true =>
       have:=yO he
       rw [h4] at this
       have:=congrArg List.length this
       rw [List.length_drop,kV h] at this
       simp at this;omega
   · exact hl x hx
theorem xG {s:Sp} (h:bM s) (he:emptyS s = false):0 < dS s:=by
 rw [<- kV h];exact List.length_pos_iff.2 (vM h he)
def kK:Nat -> List Sp -> List Sp -> List Sp
 | 0,_,_=>[]
 | f + 1,[],[]=>[]
 | f + 1,u :: x,[]=>u :: kK f x []
 | f + 1,[],v :: y=>if v.k = 2 then v :: kK f [] y else []
 | f + 1,u :: x,v :: y =>
   if v.k = 2 then v :: kK f (u :: x) y else
   if u.k = 3 then u :: kK f x (v :: y) else
   (if v.k = 1 then [dJ u (min (dS u) (dS v))] else if u.k = 1 then [dJ v (min (dS u) (dS v))] else []) ++ kK f (aS u (min (dS u) (dS v)) x) (aS v (min (dS u) (dS v)) y)
theorem lY {s:Sp} {l:List Sp} (h:bM s) (hl:bf l) {n:Nat} (hn:n <= dS s):iC (s :: l) = (nD s).take n ++ iC (aS s n l):=by
 rw [(nG h hl hn).2.1,aQ,<- List.append_assoc,List.take_append_drop]
theorem yS {s:Sp} (h:s.k = 2):dY (nD s) = 0:=by rw [dI h];exact (ou _).1
theorem Hz {s:Sp} (h:s.k = 3):dF (nD s) = 0:=by rw [dQ h];exact (kD _).2
theorem HY {l:List Sp} (h:bf l) (hf:Ir l) (hk:∀ s ∈ l.head?,s.k ≠ 2):Xp (iC l) :=
 Tn h fun s hs=>⟨hk s hs,by
   cases l with
   | nil=>simp at hs
   | cons x l=>simp only [List.head?_cons,Option.mem_def,Option.some.injEq] at hs;subst hs;exact vM h.head (hf _ (by simp))⟩
theorem pK:∀ (f:Nat) (x y:List Sp),x.length + y.length <= f -> bf x -> bf y -> Ir x -> Ir y -> dF (iC x) = dY (iC y) ->
   iC (kK f x y) = iy (iC y) (iC x) /\ bf (kK f x y) /\ (kK f x y).length <= x.length + y.length /\ bT (kK f x y) <= bT x + bT y
 | 0,x,y,hf,hx,hy,_,_,_=>by
   obtain rfl:x = []:=List.length_eq_zero_iff.1 (by omega)
   obtain rfl:y = []:=List.length_eq_zero_iff.1 (by omega)
   exact ⟨rfl,bf.nil,Nat.le_refl _,Nat.le_refl _⟩
 | f + 1,[],[],hf,hx,hy,_,_,_=>⟨rfl,bf.nil,Nat.le_refl _,Nat.le_refl _⟩
 | f + 1,u :: x,[],hf,hx,hy,fx,fy,ho=>by
   rw [aQ,fZ,gX] at ho
   simp only [dY] at ho
   obtain ⟨i1,i2,i3,i4⟩:=pK f x [] (by simp at hf ⊢;omega) hx.tail hy fx.tail fy (by rw [gX];simp only [dY];omega)
   simp only [kK]
   refine ⟨?_,bf.cons hx.head i2,by simp at i3 ⊢;omega,by rw [aN,aN];omega⟩
   rw [aQ,i1,gX,aQ];rfl
 | f + 1,[],v :: y,hf,hx,hy,fx,fy,ho=>by
   rw [aQ,eP,gX] at ho
   simp only [dF] at ho
   have hv2:v.k = 2:=by
     refine Decidable.byContradiction fun hk=>?_
     have h1:=(jE hy.head).1
     have h2:=xG hy.head (fy v (by simp))
     rw [fP hk] at h2
     rcases jq hy.head with ⟨a,_⟩ | ⟨a,b,c,d⟩
     · exact hk a
     · omega
   simp only [kK];rw [if_pos hv2]
   obtain ⟨i1,i2,i3,i4⟩:=pK f [] y (by simp at hf ⊢;omega) hx hy.tail fx fy.tail (by rw [gX];simp only [dF];omega)
   refine ⟨?_,bf.cons hy.head i2,by simp at i3 ⊢;omega,by rw [aN,aN];omega⟩
   rw [aQ,i1,aQ,dI hv2,yP]
 | f + 1,u :: x,v :: y,hf,hx,hy,fx,fy,ho=>by
   simp only [kK]
   by_cases hv2:v.k = 2
   · rw [if_pos hv2]
     have hv0:=yS hv2
     rw [aQ v,eP] at ho
     obtain ⟨i1,i2,i3,i4⟩:=pK f (u :: x) y (by simp at hf ⊢;omega) hx hy.tail fx fy.tail (by omega)
     refine ⟨?_,bf.cons hy.head i2,by simp at i3 ⊢;omega,by rw [aN,aN v];omega⟩
     rw [aQ,i1,aQ v,dI hv2,yP]
   · rw [if_neg hv2]
     by_cases hu3:u.k = 3
     · rw [if_pos hu3]
       have hu0:=Hz hu3
       rw [aQ u,fZ] at ho
       obtain ⟨i1,i2,i3,i4⟩:=pK f x (v :: y) (by simp at hf ⊢;omega) hx.tail hy fx.tail fy (by omega)
       refine ⟨?_,bf.cons hx.head i2,by simp at i3 ⊢;omega,by rw [aN,aN u];omega⟩
       rw [aQ u,i1,aQ u,dQ hu3,vN _ _ _ (HY hy fy (fun s hs=>by simp at hs;subst hs;exact hv2))]
     · rw [if_neg hu3]
       have hn1:min (dS u) (dS v) <= dS u:=Nat.min_le_left ..
       have hn2:min (dS u) (dS v) <= dS v:=Nat.min_le_right ..
       have hone:dS u = min (dS u) (dS v) ∨ dS v = min (dS u) (dS v):=by omega
       generalize min (dS u) (dS v) = n at *
       obtain ⟨a1,a2,a3,a4,a5⟩:=nG hx.head hx.tail hn1
       obtain ⟨b1,b2,b3,b4,b5⟩:=nG hy.head hy.tail hn2
       obtain ⟨p1,p2,p3,p4,p5,p6,p7⟩:=kE hx.head hn1
       obtain ⟨q1,q2,q3,q4,q5,q6,q7⟩:=kE hy.head hn2
       have mx:=lY hx.head hx.tail hn1
       have my:=lY hy.head hy.tail hn2
       have hlen:(aS u n x).length + (aS v n y).length <= x.length + y.length + 1:=by
         rcases hone with h | h
         · have:=a4 h;omega
         · have:=b4 h;omega
       have hom:dF ((nD u).take n) = n /\ dY ((nD v).take n) = n:=by
         refine ⟨?_,?_⟩
         · rcases iJ hx.head hn1 with ⟨_,e⟩ | ⟨e,_⟩ | ⟨_,l,e1,e2⟩
           · rw [e];exact (je n).2
           · exact absurd e hu3
           · rw [e2,<- e1];exact (ou l).2
         · rcases iJ hy.head hn2 with ⟨_,e⟩ | ⟨_,e⟩ | ⟨e,_⟩
           · rw [e];exact (je n).1
           · rw [e];exact (kD n).1
           · exact absurd e hv2
       rw [mx,my,fZ,eP] at ho
       simp only [List.length_cons] at hf
       obtain ⟨i1,i2,i3,i4⟩:=pK f _ _ (by omega) a1 b1 (jR hx.head fx.tail hn1) (jR hy.head fy.tail hn2) (by omega)
       rw [mx,my,aN,aN]
       simp only [List.length_cons]
       rcases iJ hy.head hn2 with ⟨hk,e⟩ | ⟨hk,e⟩ | ⟨e,_⟩
       · rw [if_pos hk]
         refine ⟨?_,bf.app (bf.cons p1 bf.nil) i2,by simp only [List.singleton_append,List.length_cons];omega,by rw [List.singleton_append,aN];omega⟩
         rw [List.singleton_append,aQ,p3,i1,e]
         rcases iJ hx.head hn1 with ⟨_,e'⟩ | ⟨e',_⟩ | ⟨_,l,e1,e2⟩
         · rw [e',BL]
         · exact absurd e' hu3
         · rw [e2,<- e1,BK]
       · rw [if_neg (by omega)]
         rcases iJ hx.head hn1 with ⟨hk',e'⟩ | ⟨e',_⟩ | ⟨hk',l,e1,e2⟩
         · rw [if_pos hk']
           have ht:(dJ v n).t.size = 0:=by rw [sJ n hv2];rfl
           refine ⟨?_,bf.app (bf.cons q1 bf.nil) i2,by simp only [List.singleton_append,List.length_cons];omega,by rw [List.singleton_append,aN];omega⟩
           rw [List.singleton_append,aQ,q3,i1,e,e',BM]
         · exact absurd e' hu3
         · rw [if_neg (by omega),List.nil_append]
           refine ⟨?_,i2,by omega,by omega⟩
           rw [i1,e,e2,<- e1,BN]
       · exact absurd e hv2
def UG (s:Sp):Sp:=⟨1,dO s,⟨#[]⟩⟩
def kL:Nat -> List Sp -> List Sp -> List Sp
 | 0,_,_=>[]
 | f + 1,[],[]=>[]
 | f + 1,u :: a,[]=>u :: kL f a []
 | f + 1,[],v :: s=>if v.k = 2 then UG v :: kL f [] s else []
 | f + 1,u :: a,v :: s =>
   if v.k = 2 then UG v :: kL f (u :: a) s else
   if u.k = 2 then u :: kL f a (v :: s) else
   (if v.k = 1 then [dJ u (min (dS u) (dS v))] else []) ++ kL f (aS u (min (dS u) (dS v)) a) (aS v (min (dS u) (dS v)) s)
theorem Tq {v:Sp} (h:bM v) (hk:v.k = 2) (ho:dO v <= 1048576):bM (UG v) /\ nD (UG v) = List.replicate (pts v.t.data.toList).length Mk.keep /\ (UG v).t.size = 0:=by
 have h2:=(jE h).2
 rw [dI hk,(ou _).2] at h2
 refine ⟨bM.keep (.inl rfl) (by show 0 <= dO v /\ dO v <= 1048576;omega) rfl,?_,rfl⟩
 rw [dX rfl];congr 1;show (dO v).toNat = _;omega
theorem pO:∀ (f:Nat) (a s:List Sp),a.length + s.length <= f -> bf a -> bf s -> Ir a -> Ir s -> dY (iC a) = dY (iC s) -> dF (iC s) <= 1048576 ->
   iC (kL f a s) = jD (iC s) (iC a) /\ bf (kL f a s) /\ (kL f a s).length <= a.length + s.length /\ bT (kL f a s) <= bT a
 | 0,x,y,hf,hx,hy,_,_,_,_=>by
   obtain rfl:x = []:=List.length_eq_zero_iff.1 (by omega)
   obtain rfl:y = []:=List.length_eq_zero_iff.1 (by omega)
   exact ⟨rfl,bf.nil,Nat.le_refl _,Nat.le_refl _⟩
 | f + 1,[],[],hf,hx,hy,_,_,_,_=>⟨rfl,bf.nil,Nat.le_refl _,Nat.le_refl _⟩
 | f + 1,u :: x,[],hf,hx,hy,fx,fy,ho,hb=>by
   rw [aQ,eP,gX] at ho
   simp only [dY] at ho
   obtain ⟨i1,i2,i3,i4⟩:=pO f x [] (by simp at hf ⊢;omega) hx.tail hy fx.tail fy (by rw [gX];simp only [dY];omega) hb
   simp only [kL]
   refine ⟨?_,bf.cons hx.head i2,by simp at i3 ⊢;omega,by rw [aN,aN];omega⟩
   rw [aQ,i1,gX,aQ];rfl
 | f + 1,[],v :: y,hf,hx,hy,fx,fy,ho,hb=>by
   rw [aQ,eP,gX] at ho
   rw [aQ,fZ] at hb
   simp only [dY] at ho
   have hv2:v.k = 2:=by
     refine Decidable.byContradiction fun hk=>?_
     have h1:=(jE hy.head).1
     have h2:=xG hy.head (fy v (by simp))
     rw [fP hk] at h2
     rcases jq hy.head with ⟨a,_⟩ | ⟨a,b,c,d⟩
     · exact hk a
     · omega
   simp only [kL];rw [if_pos hv2]
   obtain ⟨k1,k2,k3⟩:=Tq hy.head hv2 (by have:=(jE hy.head).2;omega)
   obtain ⟨i1,i2,i3,i4⟩:=pO f [] y (by simp at hf ⊢;omega) hx hy.tail fx fy.tail (by rw [gX];simp only [dY];omega) (by omega)
   refine ⟨?_,bf.cons k1 i2,by simp at i3 ⊢;omega,by rw [aN];omega⟩
   rw [aQ,i1,aQ,dI hv2,yQ,k2]
 | f + 1,u :: x,v :: y,hf,hx,hy,fx,fy,ho,hb=>by
   simp only [kL]
   by_cases hv2:v.k = 2
   · rw [if_pos hv2]
     have hv0:=yS hv2
     rw [aQ v,eP] at ho
     rw [aQ v,fZ] at hb
     obtain ⟨k1,k2,k3⟩:=Tq hy.head hv2 (by have:=(jE hy.head).2;omega)
     obtain ⟨i1,i2,i3,i4⟩:=pO f (u :: x) y (by simp at hf ⊢;omega) hx hy.tail fx fy.tail (by omega) (by omega)
     refine ⟨?_,bf.cons k1 i2,by simp at i3 ⊢;omega,by rw [aN];omega⟩
     rw [aQ,i1,aQ v,dI hv2,yQ,k2]
   · rw [if_neg hv2]
     by_cases hu2:u.k = 2
     · rw [if_pos hu2]
       have hu0:=yS hu2
       rw [aQ u,eP] at ho
       obtain ⟨i1,i2,i3,i4⟩:=pO f x (v :: y) (by simp at hf ⊢;omega) hx.tail hy fx.tail fy (by omega) hb
       refine ⟨?_,bf.cons hx.head i2,by simp at i3 ⊢;omega,by rw [aN,aN u];omega⟩
       rw [aQ u,i1,aQ u,dI hu2,yR _ _ _ (HY hy fy (fun s hs=>by simp at hs;subst hs;exact hv2))]
     · rw [if_neg hu2]
       have hn1:min (dS u) (dS v) <= dS u:=Nat.min_le_left ..
       have hn2:min (dS u) (dS v) <= dS v:=Nat.min_le_right ..
       have hone:dS u = min (dS u) (dS v) ∨ dS v = min (dS u) (dS v):=by omega
       generalize min (dS u) (dS v) = n at *
       obtain ⟨a1,a2,a3,a4,a5⟩:=nG hx.head hx.tail hn1
       obtain ⟨b1,b2,b3,b4,b5⟩:=nG hy.head hy.tail hn2
       obtain ⟨p1,p2,p3,p4,p5,p6,p7⟩:=kE hx.head hn1
       have mx:=lY hx.head hx.tail hn1
       have my:=lY hy.head hy.tail hn2
       have hlen:(aS u n x).length + (aS v n y).length <= x.length + y.length + 1:=by
         rcases hone with h | h
         · have:=a4 h;omega
         · have:=b4 h;omega
       have tk:∃ m,(m = Mk.keep ∨ m = Mk.drop) /\ (nD u).take n = List.replicate n m /\ dY (List.replicate n m) = n:=by
         rcases iJ hx.head hn1 with ⟨_,e⟩ | ⟨_,e⟩ | ⟨e,_⟩
         · exact ⟨_,.inl rfl,e,(je n).1⟩
         · exact ⟨_,.inr rfl,e,(kD n).1⟩
         · exact absurd e hu2
       obtain ⟨m,hm,e',hin⟩:=tk
       have hom:dY ((nD v).take n) = n:=by
         rcases iJ hy.head hn2 with ⟨_,e⟩ | ⟨_,e⟩ | ⟨e,_⟩
         · rw [e];exact (je n).1
         · rw [e];exact (kD n).1
         · exact absurd e hv2
       rw [mx,my,eP,eP,e'] at ho
       rw [my,fZ] at hb
       simp only [List.length_cons] at hf
       obtain ⟨i1,i2,i3,i4⟩:=pO f _ _ (by omega) a1 b1 (jR hx.head fx.tail hn1) (jR hy.head fy.tail hn2) (by omega) (by omega)
       rw [mx,my,aN]
       simp only [List.length_cons]
       rcases iJ hy.head hn2 with ⟨hk,e⟩ | ⟨hk,e⟩ | ⟨e,_⟩
       · rw [if_pos hk]
         refine ⟨?_,bf.app (bf.cons p1 bf.nil) i2,by simp only [List.singleton_append,List.length_cons];omega,by rw [List.singleton_append,aN];omega⟩
         rw [List.singleton_append,aQ,p3,i1,e,e',vO _ _ _ _ hm]
       · rw [if_neg (by omega),List.nil_append]
         refine ⟨?_,i2,by omega,by omega⟩
         rw [i1,e,e',vP _ _ _ _ hm]
       · exact absurd e hv2
structure oM (l:List Sp):Prop where
 all:bf l
 bnd:aY dZ l <= 1048576
theorem oM.of {l:List Sp} (h:aC l = 0) (hl:l.length <= 1000000000):oM l /\ iT l = aY dZ l:=by
 obtain ⟨h1,h2⟩:=(kR l).1 h
 have h3:=xk h1 hl
 exact ⟨⟨h1,by omega⟩,h3⟩
theorem oM.may {l:List Sp} (h:oM l) (hl:l.length <= 1000000000):aC l = 0 /\ iT l = aY dZ l:=by
 have h3:=xk h.all hl
 exact ⟨(kR l).2 ⟨h.all,by rw [h3];exact h.bnd⟩,h3⟩
theorem oM.norm {l:List Sp} (h:oM l):oM (norm l) /\ UF (norm l) = true /\ iC (norm l) = iC l /\ aY dZ (norm l) = aY dZ l /\ aY dO (norm l) = aY dO l /\ bT (norm l) = bT l /\ (norm l).length <= l.length /\ Ir (norm l):=by
 obtain ⟨a,b,c,d,e⟩:=oZ l h.all h.bnd
 have hn:=xq l h.all h.bnd
 exact ⟨⟨a,by rw [b];exact h.bnd⟩,hn,xC h.all h.bnd,b,c,d,e,Hy hn⟩
def kF (a b:List Sp):List Sp:=PZ (iy (iC b) (iC a))
def pR (a s:List Sp):List Sp:=PZ (jD (iC s) (iC a))
structure OpN (l:List Sp):Prop where
 ops:oM l
 nf:UF l = true
theorem OpN.inj {l m:List Sp} (h:OpN l) (h':OpN m) (he:iC l = iC m):l = m:=Fe h.ops.all h'.ops.all h.nf h'.nf he
theorem Lr {A:List Mk} (h:zy A) (hn:dY A <= 1048576):OpN (PZ A) /\ iC (PZ A) = A:=by
 obtain ⟨h1,h2,h3⟩:=Lp h hn
 exact ⟨⟨⟨h1,by have:=(bU h1).1;rw [h3] at this;omega⟩,h2⟩,h3⟩
theorem sN {a b:List Sp} (ha:oM a) (hb:oM b) (ho:aY dO a = aY dZ b) :
   OpN (kF a b) /\ iC (kF a b) = iy (iC b) (iC a) /\ aY dZ (kF a b) = aY dZ a /\ aY dO (kF a b) = aY dO b /\
   aI.norm (kK ((aI.norm a).length + (aI.norm b).length) (aI.norm a) (aI.norm b)) = kF a b /\ bf (kK ((aI.norm a).length + (aI.norm b).length) (aI.norm a) (aI.norm b)) /\
   aY dZ (kK ((aI.norm a).length + (aI.norm b).length) (aI.norm a) (aI.norm b)) <= 1048576 /\ (kK ((aI.norm a).length + (aI.norm b).length) (aI.norm a) (aI.norm b)).length <= a.length + b.length /\
   bT (kK ((aI.norm a).length + (aI.norm b).length) (aI.norm a) (aI.norm b)) <= bT a + bT b /\ (kF a b).length <= a.length + b.length /\ bT (kF a b) <= bT a + bT b:=by
 obtain ⟨a1,a2,a3,a4,a5,a6,a7,a8⟩:=ha.norm
 obtain ⟨b1,b2,b3,b4,b5,b6,b7,b8⟩:=hb.norm
 have ma:=bU ha.all
 have mb:=bU hb.all
 have hm:dF (iC a) = dY (iC b):=by omega
 obtain ⟨i1,i2,i3,i4⟩:=pK _ _ _ (Nat.le_refl _) a1.all b1.all a8 b8 (by rw [a3,b3];exact hm)
 rw [a3,b3] at i1
 have hsz:=lW (fun _=>0) (iC b) (iC a) hm
 have hab:=ha.bnd
 obtain ⟨o1,o2⟩:=Lr (tZ _ _ (Ae hb.all) (Ae ha.all)) (by omega:dY (iy (iC b) (iC a)) <= 1048576)
 have hc:=bU i2
 rw [i1] at hc
 have hd:=bU o1.ops.all
 rw [o2] at hd
 have hbn:aY dZ (kK ((aI.norm a).length + (aI.norm b).length) (aI.norm a) (aI.norm b)) <= 1048576:=by omega
 have he:aI.norm (kK ((aI.norm a).length + (aI.norm b).length) (aI.norm a) (aI.norm b)) = kF a b:=by rw [Hu i2 hbn,i1];rfl
 obtain ⟨n1,n2,n3,n4,n5⟩:=oZ _ i2 hbn
 rw [he] at n1 n2 n3 n4 n5
 exact ⟨o1,o2,by show aY dZ (PZ _) = _;omega,by show aY dO (PZ _) = _;omega,he,i2,hbn,by omega,by omega,by omega,by omega⟩
theorem BO {a s:List Sp} (ha:oM a) (hs:oM s) (ho:aY dZ a = aY dZ s) (hb:aY dO s <= 1048576) :
   OpN (pR a s) /\ iC (pR a s) = jD (iC s) (iC a) /\ aY dZ (pR a s) = aY dO s /\
   aI.norm (kL ((aI.norm a).length + (aI.norm s).length) (aI.norm a) (aI.norm s)) = pR a s /\ bf (kL ((aI.norm a).length + (aI.norm s).length) (aI.norm a) (aI.norm s)) /\
   aY dZ (kL ((aI.norm a).length + (aI.norm s).length) (aI.norm a) (aI.norm s)) <= 1048576 /\ (kL ((aI.norm a).length + (aI.norm s).length) (aI.norm a) (aI.norm s)).length <= a.length + s.length /\
   bT (kL ((aI.norm a).length + (aI.norm s).length) (aI.norm a) (aI.norm s)) <= bT a /\ (pR a s).length <= a.length + s.length /\ bT (pR a s) <= bT a:=by
 obtain ⟨a1,a2,a3,a4,a5,a6,a7,a8⟩:=ha.norm
 obtain ⟨b1,b2,b3,b4,b5,b6,b7,b8⟩:=hs.norm
 have ma:=bU ha.all
 have mb:=bU hs.all
 have hm:dY (iC a) = dY (iC s):=by omega
 obtain ⟨i1,i2,i3,i4⟩:=pO _ _ _ (Nat.le_refl _) a1.all b1.all a8 b8 (by rw [a3,b3];exact hm) (by rw [b3];omega)
 rw [a3,b3] at i1
 have hsz:=lX (fun _=>0) (iC s) (iC a) hm
 obtain ⟨o1,o2⟩:=Lr (uf _ _ (Ae ha.all)) (by omega:dY (jD (iC s) (iC a)) <= 1048576)
 have hc:=bU i2
 rw [i1] at hc
 have hd:=bU o1.ops.all
 rw [o2] at hd
 have hbn:aY dZ (kL ((aI.norm a).length + (aI.norm s).length) (aI.norm a) (aI.norm s)) <= 1048576:=by omega
 have he:aI.norm (kL ((aI.norm a).length + (aI.norm s).length) (aI.norm a) (aI.norm s)) = pR a s:=by rw [Hu i2 hbn,i1];rfl
 obtain ⟨n1,n2,n3,n4,n5⟩:=oZ _ i2 hbn
 rw [he] at n1 n2 n3 n4 n5
 exact ⟨o1,o2,by show aY dZ (PZ _) = _;omega,he,i2,hbn,by omega,by omega,by omega,by omega⟩
end Go.Proofs.YtadlnaljicikfaaDoor.aI
