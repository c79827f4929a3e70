/- A part of the proof: a calculus over values, and contracts of functions. No condition. -/
import Derived.Test.YtadlnaljicikfaaDoorZHistoryRuns6
import Derived.Lib.TrimUEq
import Derived.Lib.QuoteLoop
import Derived.Lib.MapLaws
import Derived.Stop.FmtQuoteTie
set_option linter.unusedVariables false
set_option linter.unusedSimpArgs false
namespace Go.Proofs.YtadlnaljicikfaaDoor.aB
open Go
set_option maxRecDepth 100000
attribute [local irreducible] Ev.gV Ev.iy Ev.bC Ev.runK Ev.bD Ev.fD Ev.Side Ev.Wp Ev.Again Ev.To Ev.Fin
open Go.Lib Go.RowKit
theorem V7:∀ c,Tryd.f119.body = some c -> comp c = (.seq (.reg 0 [I.n 0 4 (I.si 0)]) (.seq (.reg 1 [I.n 0 5 (I.si 0)]) (.seq (.seq (.reg 2 [I.n 0 8 (I.mv 0),I.n 1 9 (I.ln 8 140),I.n 2 10 (.move (.const (Value.int .i64 0)))]) (.block 0 (.loop (.seq (.reg 3 [I.n 0 11 (I.bo .lss 3 10 9 3)]) (.seq (.cond (.tmp 11) .skip (.exit 0)) (.seq (.block 1 (.seq (.reg 4 [I.n 0 12 (I.ia 140 8 10),I.n 1 13 (I.ld 35 12),I.n 2 7 (.alloc 35),I.u 3 (I.st 35 7 13)]) (.reg 5 [I.n 0 14 (I.mv 5),I.n 1 15 (I.mv 1),I.n 2 16 (I.ld 35 7),I.n 3 17 (.call { callee:=.value (.tmp 15),args:=#[.tmp 16],argTypes:=#[35] }),I.n 4 18 (I.bo .add 3 14 17 3),I.n 5 5 (I.sa 18)]))) (.reg 6 [I.n 0 19 (I.bc .add 3 10 1 3),I.n 1 10 (I.mv 19)]))))))) (.seq (.reg 7 [I.n 0 20 (I.mv 5),I.n 1 4 (I.sa 20)]) .ret)))):=by
 intro c h
 have:c = Tryd.f119.body.get rfl:=by rw [<- Option.some_inj,<- h];rfl
 rw [this];rfl
theorem ZN:∀ c,Tryd.f74.body = some c -> comp c = (.seq (.reg 0 [I.n 0 2 (I.si 0)]) (.seq (.reg 1 [I.n 0 3 (.assign (.func 119))]) (.seq (.reg 2 [I.n 0 4 (I.mv 3),I.n 1 5 (I.mv 0),I.n 2 6 (.call { callee:=.value (.tmp 4),args:=#[.tmp 5,.func 120],argTypes:=#[140,113] }),I.n 3 2 (I.sa 6)]) .ret))):=by
 intro c h
 have:c = Tryd.f74.body.get rfl:=by rw [<- Option.some_inj,<- h];rfl
 rw [this];rfl
theorem ZO:∀ c,Tryd.f73.body = some c -> comp c = (.seq (.reg 0 [I.n 0 2 (I.si 0)]) (.seq (.reg 1 [I.n 0 3 (I.mv 0),I.n 1 4 (.call { callee:=.value (.func 119),args:=#[.tmp 3,.func 82],argTypes:=#[140,113] }),I.n 2 2 (I.sa 4)]) .ret)):=by
 intro c h
 have:c = Tryd.f73.body.get rfl:=by rw [<- Option.some_inj,<- h];rfl
 rw [this];rfl
theorem Gm (f:Sp -> Int) (g:FuncId) (l:List Sp) (hl:l.length <= 1000000000) (hg:∀ s ∈ l,aH env g [.agg (qZ s)] (fun r hs=>r = .v (.int .i64 (f s)) /\ hs = [])) :
   aH env 119 [.lst 3 (bM l),.clo (.func g) [] []] (fun r hs=>r = .v (.int .i64 (sumW f l)) /\ hs = []):=by
 refine Ev.fn [0,1,4,5,7,8,9,10,11] 0 [.tmp 4] Tryd.func119 (V7 _ rfl) ?_
 refine' aam
 refine Ev.loop (fun k s=>∃ i c:Nat,s = ⟨[(1,.clo (.func g) [] []),(4,.v (.int .i64 0)),(5,.v (.int .i64 (sumW f (l.take i)))),(8,.lst 3 (bM l)),(9,.v (.int .i64 l.length)),(10,.v (.int .i64 i))],[],c⟩ /\ k + i = l.length) ?_ ?_
 · exact Ev.to ⟨[(1,_),(4,_),(5,.v (.int .i64 0)),(8,_),(9,.v (.int .i64 l.length)),(10,.v (.int .i64 ((0:Nat):Int)))],[],0⟩ ⟨rfl,rfl,rfl,rfl,Ev.dV rfl (by simp [bM]),rfl,trivial⟩ trivial (Nat.le_refl _) ⟨l.length,0,0,rfl,by omega⟩
 rintro k s1 ⟨i,c,rfl,hk⟩
 repeat' (first | refine' Ev.BZ | refine' Ev.zK | ((refine Ev.zi ?_ (fun hi=>?_);rotate_left);conv=>whnf) | ((refine Ev.aO (hg _ (List.getElem_mem hi)) rfl rfl ?_);conv=>whnf) | refine' Ev.zU | fail)
 · have hi':i < l.length:=by simpa using hi
   rw [RN hi hi']
   refine Ev.again (k - 1) ⟨[(1,_),(4,_),(5,.v (.int .i64 (sumW f (l.take (i + 1))))),(8,_),(9,_),(10,.v (.int .i64 ((i + 1:Nat):Int)))],[],c + 8⟩ (by omega) ⟨rfl,rfl,Ev.dV rfl (by rw [CB _ _ hi']),rfl,rfl,Ev.dV rfl (by rw [Ev.wrap64];omega),trivial⟩ trivial (Nat.le_refl _) ⟨i + 1,c + 8,rfl,by omega⟩
 · refine Ev.Side.of ?_;rename_i h;omega
 · refine Ev.Side.of ?_;rename_i h;simp only [bM,List.length_map];omega
 · rename_i h
   have ei:i = l.length:=by omega
   subst ei
   refine' ady
theorem iE (l:List Sp) (hl:l.length <= 1000000000):aH env 74 [.lst 3 (bM l)] (fun r hs=>r = .v (.int .i64 (sumW (fun s=>sQ s.k s.n) l)) /\ hs = []):=by
 refine Ev.fn [0,2,3] 0 [.tmp 2] Tryd.func74 (ZN _ rfl) ?_
 repeat' (first | refine' Ev.BZ | refine' Ev.zK | ((refine Ev.aO (Gm (fun s=>sQ s.k s.n) 120 l hl (fun s _=>VX _ _ _)) rfl rfl ?_);conv=>whnf) | refine' Ev.zU | fail)
 all_goals exact ⟨rfl,rfl⟩
theorem jo (l:List Sp) (hl:l.length <= 1000000000) (hs:Small l):aH env 73 [.lst 3 (bM l)] (fun r hs=>r = .v (.int .i64 (sumW (fun s=>jk s.k s.n s.t) l)) /\ hs = []):=by
 refine Ev.fn [0,2] 0 [.tmp 2] Tryd.func73 (ZO _ rfl) ?_
 repeat' (first | refine' Ev.BZ | refine' Ev.zK | ((refine Ev.aO (Gm (fun s=>jk s.k s.n s.t) 82 l hl (fun s h=>RD _ _ _ (hs s h))) rfl rfl ?_);conv=>whnf) | refine' Ev.zU | fail)
 all_goals exact ⟨rfl,rfl⟩
def eH (f:Sp -> Int):List Sp -> Int
 | []=>0
 | s :: l=>if f s = 0 then eH f l else f s
theorem mP (f:Sp -> Int):∀ (a b:List Sp),eH f (a ++ b) = if eH f a = 0 then eH f b else eH f a
 | [],b=>by simp [eH]
 | s :: a,b=>by
   simp only [List.cons_append,eH,mP f a b]
   by_cases h:f s = 0 <;> simp [h]
theorem Ot (f:Sp -> Int) (l:List Sp) {i:Nat} (hi:i < l.length) (h:eH f (l.take i) = 0) (h0:f l[i] = 0):eH f (l.take (i + 1)) = 0:=by
 rw [List.take_succ_eq_append_getElem hi,mP,h];simp [eH,h0]
theorem Ou (f:Sp -> Int) (l:List Sp) {i:Nat} (hi:i < l.length) (h:eH f (l.take i) = 0) (h0:¬ f l[i] = 0):eH f l = f l[i]:=by
 have e:l = l.take i ++ l[i] :: l.drop (i + 1):=by rw [List.getElem_cons_drop,List.take_append_drop]
 have:=mP f (l.take i) (l[i] :: l.drop (i + 1))
 rw [<- e,h] at this
 rw [this];simp [eH,h0]
def oQ (s:Sp):Int:=zY s.k s.n s.t
def jK (l:List Sp):Int:=sumW (fun s=>sQ s.k s.n) l
def outW (l:List Sp):Int:=sumW (fun s=>jk s.k s.n s.t) l
def aF (l:List Sp):Int:=if eH oQ l = 0 then (if 1048576 < jK l then 4 else 0) else eH oQ l
def nilA:AV:=.v (.slice none 0 0)
def keepA (n:Int):AV:=if n < 0 ∨ 1048576 < n then nilA else if n = 0 then nilA else .lst 3 (bM [⟨1,n,⟨#[]⟩⟩])
def Ku (n:Int):Int:=if n < 0 ∨ 1048576 < n then 2 else 0
theorem ZP:∀ c,Tryd.f72.body = some c -> comp c = (.seq (.reg 0 [I.n 0 2 (I.si 0)]) (.seq (.seq (.reg 1 [I.n 0 6 (I.mv 0),I.n 1 7 (I.ln 6 23),I.n 2 8 (.move (.const (Value.int .i64 0)))]) (.block 0 (.loop (.seq (.reg 2 [I.n 0 9 (I.bo .lss 3 8 7 3)]) (.seq (.cond (.tmp 9) .skip (.exit 0)) (.seq (.block 1 (.seq (.reg 3 [I.n 0 10 (I.ia 23 6 8),I.n 1 11 (I.ld 35 10),I.n 2 4 (.alloc 35),I.u 3 (I.st 35 4 11)]) (.seq (.reg 4 [I.n 0 12 (I.ld 35 4),I.n 1 13 (I.c1 118 12 35),I.n 2 5 (I.sa 13)]) (.seq (.reg 5 [I.n 0 14 (I.mv 5),I.n 1 15 (I.bc .neq 30 14 0 30)]) (.cond (.tmp 15) (.seq (.reg 6 [I.n 0 16 (I.mv 5),I.n 1 2 (I.sa 16)]) .ret) .skip))))) (.reg 7 [I.n 0 17 (I.bc .add 3 8 1 3),I.n 1 8 (I.mv 17)]))))))) (.seq (.seq (.reg 8 [I.n 0 18 (I.mv 0),I.n 1 19 (I.c1 74 18 23),I.n 2 20 (I.bc .gtr 3 19 1048576 3)]) (.cond (.tmp 20) (.seq (.reg 9 [I.n 0 2 (I.si 4)]) .ret) .skip)) (.seq (.reg 10 [I.n 0 2 (I.si 0)]) .ret)))):=by
 intro c h
 have:c = Tryd.f72.body.get rfl:=by rw [<- Option.some_inj,<- h];rfl
 rw [this];rfl
theorem V8:∀ c,Tryd.f111.body = some c -> comp c = (.seq (.reg 0 [I.n 0 2 I.sn,I.n 1 3 (I.si 0)]) (.seq (.seq (.reg 1 [I.n 0 4 (I.mv 0),I.n 1 5 (I.bc .lss 3 4 0 3),I.n 2 6 (I.mv 5),I.w 3 7 (I.mv 0) 6 false,I.w 4 8 (I.bc .gtr 3 7 1048576 3) 6 false,I.n 5 9 (I.pb 6 true 8)]) (.cond (.tmp 9) (.seq (.reg 2 [I.n 0 2 I.sn,I.n 1 3 (I.si 2)]) .ret) .skip)) (.seq (.seq (.reg 3 [I.n 0 10 (I.mv 0),I.n 1 11 (I.bc .eql 3 10 0 3)]) (.cond (.tmp 11) (.seq (.reg 4 [I.n 0 2 I.sn,I.n 1 3 (I.si 0)]) .ret) .skip)) (.seq (.reg 5 [I.n 0 12 (I.mv 0),I.n 1 13 (.build 35 #[(0,.const (Value.int .i64 1)),(1,.tmp 12)]),I.n 2 14 (I.b1 23 13),I.n 3 2 (I.sa 14),I.n 4 3 (I.si 0)]) .ret)))):=by
 intro c h
 have:c = Tryd.f111.body.get rfl:=by rw [<- Option.some_inj,<- h];rfl
 rw [this];rfl
theorem eY (l:List Sp) (hl:l.length <= 1000000000) (hs:Small l):aH env 72 [.lst 3 (bM l)] (fun r hs=>r = .v (.int .i64 (aF l)) /\ hs = []):=by
 have hsl:=dw l
 refine Ev.fn [0,2,4,5,6,7,8,9,15,20] 0 [.tmp 2] Tryd.func72 (ZP _ rfl) ?_
 refine' Ev.zW
 refine Ev.loop (fun k s=>∃ i c:Nat,s = ⟨[(0,.lst 3 (bM l)),(2,.v (.int .i64 0)),(6,.lst 3 (bM l)),(7,.v (.int .i64 l.length)),(8,.v (.int .i64 i))],[],c⟩ /\ k + i = l.length /\ eH oQ (l.take i) = 0) ?_ ?_
 · exact Ev.to ⟨[(0,_),(2,_),(6,.lst 3 (bM l)),(7,.v (.int .i64 l.length)),(8,.v (.int .i64 ((0:Nat):Int)))],[],0⟩ ⟨rfl,rfl,rfl,Ev.dV rfl (by simp [bM]),rfl,trivial⟩ trivial (Nat.le_refl _) ⟨l.length,0,0,rfl,by omega,rfl⟩
 rintro k s1 ⟨i,c,rfl,hk,hf⟩
 repeat' (first | refine' Ev.zS | refine' Ev.zK | ((refine Ev.aO (RF _ _ _ (hs _ (List.getElem_mem hi))) rfl rfl ?_);conv=>whnf) | ((refine Ev.aO (iE l hl) rfl rfl ?_);conv=>whnf) | refine' Ev.zT | fail)
 · rename_i heq
   exact Ev.again (k - 1) ⟨[(0,_),(2,_),(6,_),(7,_),(8,.v (.int .i64 ((i + 1:Nat):Int)))],[],c + 8⟩ (by omega) ⟨rfl,rfl,rfl,rfl,Ev.dV rfl (by rw [Ev.wrap64];omega),trivial⟩ trivial (Nat.le_refl _) ⟨i + 1,c + 8,rfl,by omega,Ot oQ l hi hf heq⟩
 · rename_i hne
   exact ⟨congrArg (fun b=>AV.v (Value.int .i64 b)) (by unfold aF;rw [Ou oQ l hi hf hne];exact (if_neg hne).symm),rfl⟩
 all_goals
   have ei:i = l.length:=by omega
   subst ei
   rw [List.take_of_length_le (Nat.le_refl _)] at hf
   refine ⟨congrArg (fun b=>AV.v (Value.int .i64 b)) ?_,rfl⟩
   simp [aF,hf,jK, *]
theorem Ov (n:Int):aH env 111 [.v (.int .i64 n)] (fun r hs=>r = .dD [keepA n,.v (.int .i64 (Ku n))] /\ hs = []):=by
 refine Ev.fn [0,2,3,9,11] 0 [.tmp 2,.tmp 3] Tryd.func111 (V8 _ rfl) ?_
 refine' Ev.zW
 all_goals (refine ⟨?_,rfl⟩;simp [keepA,Ku,lS,nilA,bM,qZ, *];try omega)
theorem ZQ:∀ c,Tryd.f34.body = some c -> comp c = (.seq (.reg 0 [I.n 0 4 (I.sb false)]) (.seq (.seq (.reg 1 [I.n 0 6 (I.mv 0),I.n 1 7 (I.ln 6 23),I.n 2 8 (I.mv 1),I.n 3 9 (I.ln 8 23),I.n 4 10 (I.bo .neq 3 7 9 3)]) (.cond (.tmp 10) (.seq (.reg 2 [I.n 0 4 (I.sb false)]) .ret) .skip)) (.seq (.seq (.reg 3 [I.n 0 5 (I.si 0)]) (.block 0 (.loop (.seq (.seq (.reg 4 [I.n 0 11 (I.mv 5),I.n 1 12 (I.mv 0),I.n 2 13 (I.ln 12 23),I.n 3 14 (I.bo .lss 3 11 13 3)]) (.cond (.tmp 14) .skip (.exit 0))) (.seq (.block 1 (.seq (.draw 6 [I.n 0 17 (I.mv 0),I.n 1 18 (I.mv 5),I.n 2 19 (I.ia 23 17 18),I.n 3 20 (I.ld 35 19),I.n 4 21 (I.mv 1),I.n 5 22 (I.mv 5),I.n 6 23 (I.ia 23 21 22),I.n 7 24 (I.ld 35 23),I.n 8 25 (I.bo .neq 35 20 24 35)] [[],[],[0,1],[2],[],[],[4,5],[6],[3,7]]) (.cond (.tmp 25) (.seq (.reg 7 [I.n 0 4 (I.sb false)]) .ret) .skip))) (.reg 5 [I.n 0 15 (I.mv 5),I.n 1 16 (I.bc .add 3 15 1 3),I.n 2 5 (I.sa 16)])))))) (.seq (.reg 8 [I.n 0 4 (I.sb true)]) .ret)))):=by
 intro c h
 have:c = Tryd.f34.body.get rfl:=by rw [<- Option.some_inj,<- h];rfl
 rw [this];rfl
instance (a b:Sp):Decidable (a = b):=decidable_of_iff (a.k = b.k /\ a.n = b.n /\ a.t = b.t) (by cases a;cases b;simp)
theorem aal{G:Prop}(h:G:=by (repeat' (first | refine' Ev.zS | refine' Ev.zK | ((with_reducible refine Ev.jO ?_);(first | refine Ev.dr 6 [] [0,1,2,3,4,5,6,7,8] ?_);intro Q hQ;(simp only [Ev.aK,Ev.aT]);conv=>whnf) | refine' Ev.zT | fail));all_goals(rcases(⟨_⟩:PLift _)with⟨h⟩;exact h)):G:=h
theorem acf{G:Prop}(h:G:=by
 have:i = l.length:=by omega
 subst this
 rw [List.take_of_length_le (Nat.le_refl _),List.take_of_length_le (by omega)] at hf
 exact ⟨congrArg (fun b=>AV.v (Value.bool b)) (decide_eq_true hf).symm,rfl⟩):G:=h
theorem acu{G:Prop}(h:G:=by exact Ev.to ⟨[(0,_),(1,_),(4,_),(5,.v (.int .i64 ((0:Nat):Int)))],[],0⟩ ⟨rfl,rfl,rfl,rfl,trivial⟩ trivial (Nat.le_refl _) ⟨l.length,0,rfl,by omega,rfl⟩):G:=h
theorem adp{G:Prop}(h:G:=by
 rename_i hne
 exact ⟨congrArg (fun b=>AV.v (Value.bool b)) (decide_eq_false (by rintro rfl;simp at hne)).symm,rfl⟩):G:=h
theorem aes{G:Prop}(h:G:=by exact ⟨congrArg (fun b=>AV.v (Value.bool b)) (decide_eq_false (by rintro rfl;omega)).symm,rfl⟩):G:=h
theorem Ox (l m:List Sp) (hl:l.length <= 1000000000):aH env 34 [.lst 3 (bM l),.lst 3 (bM m)] (fun r hs=>r = .v (.bool (decide (l = m))) /\ hs = []):=by
 have hsl:=dw l
 have hsm:=dw m
 refine Ev.fn [0,1,4,5,10,14,25] 0 [.tmp 4] Tryd.func34 (ZQ _ rfl) ?_
 refine' aal
 rotate_left
 · refine' aes
 have hlen:l.length = m.length:=by omega
 refine Ev.loop (fun k s=>∃ i:Nat,s = ⟨[(0,.lst 3 (bM l)),(1,.lst 3 (bM m)),(4,.v (.bool false)),(5,.v (.int .i64 i))],[],0⟩ /\ k + i = l.length /\ l.take i = m.take i) ?_ ?_
 · refine' acu
 rintro k s1 ⟨i,rfl,hk,hf⟩
 refine' aal
 · rename_i heq
   have hm':i < m.length:=by omega
   exact Ev.again (k - 1) ⟨[(0,_),(1,_),(4,_),(5,.v (.int .i64 ((i + 1:Nat):Int)))],[],0⟩ (by omega) ⟨rfl,rfl,rfl,Ev.dV rfl (by rw [Ev.wrap64];omega),trivial⟩ trivial (Nat.le_refl _) ⟨i + 1,rfl,by omega,by
     rw [List.take_succ_eq_append_getElem (by omega),List.take_succ_eq_append_getElem hm',hf]
     congr 2
     obtain ⟨e1,e2,e3⟩:=heq
     cases h1:l[i];cases h2:m[i];simp_all⟩
 · refine' adp
 · refine' acf
theorem ZR:∀ c,Tryd.f31.body = some c -> comp c = (.seq (.reg 0 [I.n 0 4 I.sn]) (.seq (.reg 1 [I.n 0 8 (.buildSlice 23 0 #[]),I.n 1 5 (I.sa 8)]) (.seq (.seq (.reg 2 [I.n 0 6 (I.si 0)]) (.block 0 (.loop (.seq (.seq (.reg 3 [I.n 0 9 (I.mv 6),I.n 1 10 (I.mv 0),I.n 2 11 (I.ln 10 23),I.n 3 12 (I.bo .lss 3 9 11 3),I.n 4 13 (I.mv 12),I.w 5 14 (I.mv 6) 13 true,I.w 6 15 (I.bc .lss 3 14 12 3) 13 true,I.n 7 16 (I.pc 13 15 false)]) (.cond (.tmp 16) .skip (.exit 0))) (.seq (.block 1 (.seq (.reg 5 [I.n 0 19 (I.mv 0),I.n 1 20 (I.mv 6),I.n 2 21 (I.ia 23 19 20),I.n 3 22 (I.fa 35 21 0),I.n 4 23 (I.ld 3 22),I.n 5 24 (I.bc .rem 3 23 3 3),I.n 6 25 (I.bc .add 3 24 3 3),I.n 7 26 (I.bc .rem 3 25 3 3),I.n 8 27 (.binOp .add 3 (.const (Value.int .i64 1)) (.tmp 26) 3),I.n 9 28 (.build 35 #[(0,.tmp 27)]),I.n 10 7 (.alloc 35),I.u 11 (I.st 35 7 28)]) (.seq (.seq (.reg 6 [I.n 0 29 (I.fa 35 7 0),I.n 1 30 (I.ld 3 29),I.n 2 31 (I.bc .eql 3 30 2 3)]) (.cond (.tmp 31) (.draw 7 [I.n 0 32 (I.mv 0),I.n 1 33 (I.mv 6),I.n 2 34 (I.ia 23 32 33),I.n 3 35 (I.fa 35 34 2),I.n 4 36 (I.ld 9 35),I.n 5 37 (I.mv 0),I.n 6 38 (I.mv 6),I.n 7 39 (I.ia 23 37 38),I.n 8 40 (I.fa 35 39 2),I.n 9 41 (I.ld 9 40),I.n 10 42 (I.ln 41 9),I.n 11 43 (.call { callee:=.builtin .min,args:=#[.tmp 42,.const (Value.int .i64 6)],argTypes:=#[3,3] }),I.n 12 44 (.slice 9 (.tmp 36) none (some (.tmp 43)) none),I.n 13 45 (I.c1 37 44 9),I.n 14 46 (I.fa 35 7 2),I.u 15 (I.st 9 46 45)] [[],[],[0,1],[2],[3],[],[],[5,6],[7],[8],[9],[10],[4,11],[12],[0,1,2,3,4,5,6,7,8,9,10,11,12,13],[14,13,13,0,1,2,3,4,5,6,7,8,9,10,11,12,13]]) (.seq (.reg 8 [I.n 0 47 (I.mv 0),I.n 1 48 (I.mv 6),I.n 2 49 (I.ia 23 47 48),I.n 3 50 (I.fa 35 49 1),I.n 4 51 (I.ld 3 50),I.n 5 52 (I.bc .rem 3 51 7 3),I.n 6 53 (I.bc .add 3 52 7 3),I.n 7 54 (I.bc .rem 3 53 7 3),I.n 8 55 (I.mv 1),I.n 9 56 (.call { callee:=.builtin .min,args:=#[.tmp 54,.tmp 55],argTypes:=#[3,3] }),I.n 10 57 (I.fa 35 7 1),I.u 11 (I.st 3 57 56)]) (.reg 9 [I.n 0 58 (I.mv 1),I.n 1 59 (I.fa 35 7 1),I.n 2 60 (I.ld 3 59),I.n 3 61 (I.bo .sub 3 58 60 3),I.n 4 1 (I.sa 61)])))) (.reg 10 [I.n 0 62 (I.mv 5),I.n 1 63 (I.ld 35 7),I.n 2 64 (I.b1 23 63),I.n 3 65 (I.ap 62 64 23 23),I.n 4 5 (I.sa 65)])))) (.reg 4 [I.n 0 17 (I.mv 6),I.n 1 18 (I.bc .add 3 17 1 3),I.n 2 6 (I.sa 18)])))))) (.seq (.seq (.reg 11 [I.n 0 66 (I.mv 1),I.n 1 67 (I.bc .gtr 3 66 0 3)]) (.cond (.tmp 67) (.reg 12 [I.n 0 68 (I.mv 5),I.n 1 69 (I.mv 1),I.n 2 70 (.build 35 #[(0,.const (Value.int .i64 1)),(1,.tmp 69)]),I.n 3 71 (I.b1 23 70),I.n 4 72 (I.ap 68 71 23 23),I.n 5 5 (I.sa 72)]) .skip)) (.seq (.reg 13 [I.n 0 73 (I.mv 5),I.n 1 4 (I.sa 73)]) .ret))))):=by
 intro c h
 have:c = Tryd.f31.body.get rfl:=by rw [<- Option.some_inj,<- h];rfl
 rw [this];rfl
theorem Oy (k:Int):IntKind.i64.wrap (1 + (IntKind.i64.wrap (k.tmod 3 + 3)).tmod 3) = 1 + k % 3:=by
 have h:k.tmod 3 = k % 3 ∨ k.tmod 3 = k % 3 - 3:=by rw [Int.tmod_eq_emod];split <;> simp
 have h1:IntKind.i64.wrap (k.tmod 3 + 3) = k.tmod 3 + 3:=by rw [Ev.wrap64];omega
 rw [h1,Int.tmod_eq_emod_of_nonneg (by omega),Ev.wrap64];omega
theorem V9 (k:Int):(IntKind.i64.wrap (k.tmod 7 + 7)).tmod 7 = k % 7:=by
 have h:k.tmod 7 = k % 7 ∨ k.tmod 7 = k % 7 - 7:=by rw [Int.tmod_eq_emod];split <;> simp
 have h1:IntKind.i64.wrap (k.tmod 7 + 7) = k.tmod 7 + 7:=by rw [Ev.wrap64];omega
 rw [h1,Int.tmod_eq_emod_of_nonneg (by omega)];omega
def kX (s:Sp) (n:Int):Sp:=if 1 + s.k % 3 = 2 then ⟨2,0,jm (s.t.extract 0 (min s.t.size 6))⟩ else ⟨1 + s.k % 3,min (s.n % 7) n,⟨#[]⟩⟩
def bY (p:List Sp × Int) (s:Sp):List Sp × Int:=(p.1 ++ [kX s p.2],p.2 - (kX s p.2).n)
def mQ (l:List Sp) (n:Int):List Sp × Int:=l.foldl bY ([],n)
theorem CO (l:List Sp) (n:Int) {i:Nat} (h:i < l.length):mQ (l.take (i + 1)) n = bY (mQ (l.take i) n) l[i]:=by
 unfold mQ;rw [List.take_succ_eq_append_getElem h,List.foldl_append];rfl
def jq (l:List Sp) (n:Int):List Sp:=(mQ (l.take 12) n).1 ++ if 0 < (mQ (l.take 12) n).2 then [⟨1,(mQ (l.take 12) n).2,⟨#[]⟩⟩] else []
theorem Gn (l:List Sp):∀ a,(l.foldl bY a).1.length = a.1.length + l.length:=by
 induction l with
 | nil=>simp
 | cons s l ih=>intro a;rw [List.foldl_cons,ih];simp [bY];omega
theorem RU (l:List Sp):∀ a:List Sp × Int,0 <= a.2 -> 0 <= (l.foldl bY a).2 /\ (l.foldl bY a).2 <= a.2:=by
 induction l with
 | nil=>intro a h;simp;omega
 | cons s l ih =>
   intro a h
   rw [List.foldl_cons]
   have h1:0 <= (bY a s).2 /\ (bY a s).2 <= a.2:=by
     simp only [bY,kX];split
     · simp;omega
     · simp only;omega
   obtain ⟨h2,h3⟩:=ih _ h1.1
   omega
theorem CP (l:List Sp) (n:Int) (hn:0 <= n /\ n <= 2000000):aH env 31 [.lst 3 (bM l),.v (.int .i64 n)] (fun r hs=>r = .lst 3 (bM (jq l n)) /\ hs = []):=by
 have hsl:=dw l
 have hm:=Ev.Ux
 refine Ev.fn [0,1,4,5,6,7,16,31,67] 0 [.tmp 4] Tryd.func31 (ZR _ rfl) ?_
 repeat' (first | refine' Ev.zS | refine' Ev.zK | ((with_reducible refine Ev.jO ?_);(first | refine Ev.dr 7 [] [0,1,2,3,4,5,6,7,8,9,10,11,12,13,14,15] ?_);intro Q hQ;(simp only [Ev.aK,Ev.aT]);conv=>whnf) | refine' Ev.zT | fail)
 refine Ev.loop (fun k s=>∃ (i v c:Nat),s = ⟨[(0,.lst 3 (bM l)),(1,.v (.int .i64 (mQ (l.take i) n).2)),(4,.v (.slice none 0 0)),(5,.own 512 v 0 i),(6,.v (.int .i64 i))],[(512,⟨3,35,v,0,false,bM (mQ (l.take i) n).1⟩)],c⟩ /\ k + i = 12 /\ i <= l.length) ?_ ?_
 · refine Ev.zB ⟨12,0,?_,?_,rfl,?_⟩
   exact ⟨rfl,by omega⟩
 rintro k s1 ⟨i,v,c,rfl,hk,hi'⟩
 have hlen:(mQ (l.take i) n).1.length = i:=by unfold mQ;rw [Gn];simp;omega
 have hsl2:=dw (mQ (l.take i) n).1
 obtain ⟨hn0,hn1⟩:0 <= (mQ (l.take i) n).2 /\ (mQ (l.take i) n).2 <= n:=RU (l.take i) ([],n) hn.1
 repeat' (first | refine' Ev.zS | refine' Ev.zK | ((refine Ev.aO (Gf _ (by rw [ByteArray.size_extract];omega)) rfl rfl ?_);conv=>whnf) | ((with_reducible refine Ev.jO ?_);(first | refine Ev.dr 7 [] [0,1,2,3,4,5,6,7,8,9,10,11,12,13,14,15] ?_);intro Q hQ;(simp only [Ev.aK,Ev.aT]);conv=>whnf) | refine' Ev.zT | fail)
 · rename_i hk2 _
   rw [Oy] at hk2
   have hs:=CO l n hi
   have hf:kX l[i] (mQ (l.take i) n).2 = ⟨2,0,jm (l[i].t.extract 0 (min l[i].t.size 6))⟩:=if_pos hk2
   have hx:(min (l[i].t.size:Int) 6).toNat = min l[i].t.size 6:=by omega
   refine Ev.zA (k - 1) ⟨i + 1,?_,?_,rfl,?_⟩ (by refine' Ev.zp <;> first | (first | (simp;done) | (rw [hs];simp [bY,hf,bM,qZ,Oy,hk2,hx];done)) | rfl | (refine' Ev.ze;(first | (simp;done) | (rw [hs];simp [bY,hf,bM,qZ,Oy,hk2,hx];done))) | fail)
   exact ⟨by omega,by omega⟩
 · rename_i hk2
   rw [Oy] at hk2
   have hs:=CO l n hi
   have hf:kX l[i] (mQ (l.take i) n).2 = ⟨1 + l[i].k % 3,min (l[i].n % 7) (mQ (l.take i) n).2,⟨#[]⟩⟩:=if_neg hk2
   have hw:IntKind.i64.wrap ((mQ (l.take i) n).2 - min (l[i].n % 7) (mQ (l.take i) n).2) = (mQ (l.take i) n).2 - min (l[i].n % 7) (mQ (l.take i) n).2:=by rw [Ev.wrap64];omega
   refine Ev.zA (k - 1) ⟨i + 1,?_,?_,rfl,?_⟩ (by refine' Ev.zp <;> first | (first | (simp;done) | (rw [hs];simp [bY,hf,bM,qZ,Oy,V9];done) | (rw [hs,V9];simp only [bY,hf];exact hw)) | rfl | (refine' Ev.ze;(first | (simp;done) | (rw [hs];simp [bY,hf,bM,qZ,Oy,V9];done) | (rw [hs,V9];simp only [bY,hf];exact hw))) | fail)
   exact ⟨by omega,by omega⟩
 all_goals
   have hT:l.take 12 = l.take i:=by
     first
       | rw [show i = 12 by omega]
       | rw [List.take_of_length_le (by simp at *;omega),List.take_of_length_le (by simp at *;omega)]
   refine ⟨Ev.oN (Ev.kV ?_ ?_),rfl⟩
   · simp [hlen,dw]
   · simp [jq,hT,bM,qZ, *]
theorem wrap_add (a b:Int):IntKind.i64.wrap (IntKind.i64.wrap a + b) = IntKind.i64.wrap (a + b):=by simp only [Ev.wrap64];omega
theorem aY {a:Int} (h : -9223372036854775808 <= a /\ a < 9223372036854775808):IntKind.i64.wrap a = a:=by rw [Ev.wrap64];omega
def aS (f:Sp -> Int) (l:List Sp):Int:=(l.map f).sum
theorem vw (f:Sp -> Int):aS f [] = 0:=rfl
theorem aV (f:Sp -> Int) (s:Sp) (l:List Sp):aS f (s :: l) = f s + aS f l:=by simp [aS]
theorem Gp (f:Sp -> Int) (a b:List Sp):aS f (a ++ b) = aS f a + aS f b:=by simp [aS]
theorem CQ (f:Sp -> Int):∀ (l:List Sp) (a:Int),l.foldl (fun a s=>IntKind.i64.wrap (a + f s)) (IntKind.i64.wrap a) = IntKind.i64.wrap (a + aS f l)
 | [],a=>by simp [aS]
 | s :: l,a=>by rw [List.foldl_cons,wrap_add,CQ f l,aV,Int.add_assoc]
theorem Kv (f:Sp -> Int) (l:List Sp):sumW f l = IntKind.i64.wrap (aS f l):=by
 have h:=CQ f l 0
 rw [Int.zero_add] at h;rw [<- h];rfl
theorem jr (f:Sp -> Int) (b:Int):∀ l:List Sp,(∀ s ∈ l,0 <= f s /\ f s <= b) -> 0 <= aS f l /\ aS f l <= b * l.length
 | [],_=>by simp [aS]
 | s :: l,h=>by
   have h1:=h s (by simp)
   have h2:=jr f b l (fun s hs=>h s (by simp [hs]))
   rw [aV,List.length_cons]
   have:b * ((l.length + 1:Nat):Int) = b * l.length + b:=by rw [Int.natCast_succ,Int.mul_add,Int.mul_one]
   omega
def dh (s:Sp):Int:=sQ s.k s.n
def bZ (s:Sp):Int:=jk s.k s.n s.t
theorem JE (t:ByteArray):validD (jm t).data.toList = true:=Cm t
theorem CS {s:Sp} (n:Int) (h:1 + s.k % 3 = 2):kX s n = ⟨2,0,jm (s.t.extract 0 (min s.t.size 6))⟩:=if_pos h
theorem CU {s:Sp} (n:Int) (h:¬ 1 + s.k % 3 = 2):kX s n = ⟨1 + s.k % 3,min (s.n % 7) n,⟨#[]⟩⟩:=if_neg h
theorem Oz (s:Sp) {n:Int} (h:0 <= n /\ n <= 1048576):oQ (kX s n) = 0:=by
 by_cases hk:1 + s.k % 3 = 2
 · rw [CS n hk];simp [oQ,zY,JE]
 · rw [CU n hk]
   have:1 + s.k % 3 = 1 ∨ 1 + s.k % 3 = 3:=by omega
   simp only [oQ,zY,this,if_true]
   rw [if_neg (by omega)]
theorem Wh (s:Sp) {n:Int} (h:0 <= n):0 <= (kX s n).n /\ (kX s n).n <= 6 /\ (kX s n).n <= n /\ dh (kX s n) = (kX s n).n:=by
 by_cases hk:1 + s.k % 3 = 2
 · rw [CS n hk];simp [dh,sQ];omega
 · rw [CU n hk]
   have:1 + s.k % 3 = 1 ∨ 1 + s.k % 3 = 3:=by omega
   simp only [dh,sQ,this,if_true,and_true];omega
theorem Wi (s:Sp) (n:Int):(kX s n).t.size <= 24:=by
 unfold kX;split
 · have h:=Kt (qY (s.t.extract 0 (min s.t.size 6)) (s.t.extract 0 (min s.t.size 6)).size)
   rw [qE,<- wQ,bn] at h
   have e:(s.t.extract 0 (min s.t.size 6)).size <= 6:=by rw [ByteArray.size_extract];omega
   show (jm _).size <= 24
   unfold jm;omega
 · show (⟨#[]⟩:ByteArray).size <= 24;decide
theorem RV (l:List Sp):∀ a:List Sp × Int,(0 <= a.2 /\ a.2 <= 1048576) -> (∀ s ∈ a.1,oQ s = 0 /\ s.t.size <= 24 /\ 0 <= dh s /\ dh s <= 6) ->
   (∀ s ∈ (l.foldl bY a).1,oQ s = 0 /\ s.t.size <= 24 /\ 0 <= dh s /\ dh s <= 6) /\ aS dh (l.foldl bY a).1 + (l.foldl bY a).2 = aS dh a.1 + a.2:=by
 induction l with
 | nil=>intro a _ h;exact ⟨h,rfl⟩
 | cons s l ih =>
   intro a ha h
   rw [List.foldl_cons]
   obtain ⟨b1,b2,b3,b4⟩:=Wh s ha.1
   have key:=ih (bY a s) (by simp only [bY];omega) (by
     intro x hx
     simp only [bY,List.mem_append,List.mem_singleton] at hx
     rcases hx with hx | rfl
     · exact h x hx
     · exact ⟨Oz s ha,Wi s _,by omega,by omega⟩)
   refine ⟨key.1,?_⟩
   rw [key.2]
   simp only [bY,Gp,aV,vw,b4];omega
theorem qF (l:List Sp) {n:Int} (hn:0 <= n /\ n <= 1048576):(∀ s ∈ jq l n,oQ s = 0 /\ s.t.size <= 24 /\ 0 <= dh s /\ dh s <= 1048576) /\ aS dh (jq l n) = n /\ (jq l n).length <= 13:=by
 obtain ⟨h1,h2⟩:=RV (l.take 12) ([],n) hn (by simp)
 obtain ⟨h3,h4⟩:=RU (l.take 12) ([],n) hn.1
 have h5:=Gn (l.take 12) ([],n)
 rw [show (l.take 12).foldl bY ([],n) = mQ (l.take 12) n from rfl] at h1 h2 h3 h4 h5
 rw [vw] at h2
 simp only at h2 h3 h4 h5
 unfold jq
 refine ⟨?_,?_,?_⟩
 · intro s hs
   rw [List.mem_append] at hs
   rcases hs with hs | hs
   · obtain ⟨a,b,c,d⟩:=h1 s hs;exact ⟨a,b,c,by omega⟩
   · split at hs
     · simp only [List.mem_singleton] at hs;subst hs
       refine ⟨?_,?_,?_⟩
       · simp only [oQ,zY,true_or,if_true];rw [if_neg (by omega)]
       · show (⟨#[]⟩:ByteArray).size <= 24;decide
       · simp only [dh,sQ,true_or,if_true];omega
     · simp at hs
 · rw [Gp]
   split
   · simp only [aV,vw,dh,sQ,true_or,if_true];omega
   · rw [vw];omega
 · rw [List.length_append,h5]
   have:(l.take 12).length <= 12:=by rw [List.length_take];omega
   split <;> simp <;> omega
theorem xQ (f:Sp -> Int):∀ l:List Sp,(∀ s ∈ l,f s = 0) -> eH f l = 0
 | [],_=>rfl
 | s :: l,h=>by simp only [eH];rw [if_pos (h s (by simp))];exact xQ f l (fun x hx=>h x (by simp [hx]))
theorem JF (l:List Sp):jK l = IntKind.i64.wrap (aS dh l):=Kv _ _
theorem iF (l:List Sp):outW l = IntKind.i64.wrap (aS bZ l):=Kv _ _
theorem Kw (l:List Sp) {n:Int} (hn:0 <= n /\ n <= 1048576):jK (jq l n) = n:=by
 rw [JF,(qF l hn).2.1];exact aY (by omega)
theorem Gq (l:List Sp) {n:Int} (hn:0 <= n /\ n <= 1048576):aF (jq l n) = 0:=by
 unfold aF
 rw [xQ _ _ (fun s hs=>((qF l hn).1 s hs).1),if_pos rfl,Kw l hn,if_neg (by omega)]
theorem Aa (l:List Sp) {n:Int} (hn:0 <= n /\ n <= 1048576):Small (jq l n):=fun s hs=>by have:=((qF l hn).1 s hs).2.1;omega
end Go.Proofs.YtadlnaljicikfaaDoor.aB
namespace Go.Proofs.YtadlnaljicikfaaDoor.aB
open Go
def Ep:Nat -> Nat -> List UInt8
 | 0,n=>[UInt8.ofNat n]
 | f + 1,n=>if n < 128 then [UInt8.ofNat n] else UInt8.ofNat (128 + n % 128) :: Ep f (n / 128)
def oU (n:Nat):List UInt8:=Ep 4 n
theorem ofNat_toNat {n:Nat} (h:n < 256):(UInt8.ofNat n).toNat = n:=by rw [UInt8.toNat_ofNat'];omega
theorem vC {n:Nat} (h:n < 268435456):1 <= (oU n).length /\ (oU n).length <= 4:=by
 unfold oU
 simp only [Ep]
 repeat' split
 all_goals first | (simp;done) | (exfalso;omega)
end Go.Proofs.YtadlnaljicikfaaDoor.aB
namespace Go.Proofs.YtadlnaljicikfaaDoor.aB
open Go Go.Lib
theorem Gs {n n' b0 b1 b2 b3 c1 c2 c3:Nat} (h1:1 < n -> 1 < n' /\ c1 = b1) (h2:2 < n -> 2 < n' /\ c2 = b2) (h3:3 < n -> 3 < n' /\ c3 = b3) (h:decodeN n b0 b1 b2 b3 ≠ (65533,1)):decodeN n' b0 c1 c2 c3 = decodeN n b0 b1 b2 b3:=by
 unfold decodeN at h ⊢
 by_cases a0:b0 < 128
 · rw [if_pos a0,if_pos a0]
 rw [if_neg a0] at h ⊢
 rw [if_neg a0]
 by_cases a1:b0 / 32 = 6 /\ (1 < n /\ b1 / 64 = 2)
 · obtain ⟨x,rfl⟩:=h1 a1.2.1
   rw [if_pos a1,if_pos ⟨a1.1,x,a1.2.2⟩]
 rw [if_neg a1] at h ⊢
 by_cases a2:b0 / 16 = 14 /\ (1 < n /\ b1 / 64 = 2) /\ (2 < n /\ b2 / 64 = 2)
 · obtain ⟨x,rfl⟩:=h1 a2.2.1.1
   obtain ⟨y,rfl⟩:=h2 a2.2.2.1
   have a1':¬ (b0 / 32 = 6 /\ (1 < n' /\ c1 / 64 = 2)):=by omega
   rw [if_neg a1',if_pos a2,if_pos ⟨a2.1,⟨x,a2.2.1.2⟩,y,a2.2.2.2⟩]
 rw [if_neg a2] at h ⊢
 by_cases a3:b0 / 8 = 30 /\ (1 < n /\ b1 / 64 = 2) /\ (2 < n /\ b2 / 64 = 2) /\ (3 < n /\ b3 / 64 = 2)
 · obtain ⟨x,rfl⟩:=h1 a3.2.1.1
   obtain ⟨y,rfl⟩:=h2 a3.2.2.1.1
   obtain ⟨z,rfl⟩:=h3 a3.2.2.2.1
   have a1':¬ (b0 / 32 = 6 /\ (1 < n' /\ c1 / 64 = 2)):=by omega
   have a2':¬ (b0 / 16 = 14 /\ (1 < n' /\ c1 / 64 = 2) /\ (2 < n' /\ c2 / 64 = 2)):=by omega
   rw [if_neg a1',if_neg a2',if_pos a3,if_pos ⟨a3.1,⟨x,a3.2.1.2⟩,⟨y,a3.2.2.1.2⟩,z,a3.2.2.2.2⟩]
 rw [if_neg a3] at h
 exact absurd rfl h
theorem tV {a:List UInt8} (ha:a ≠ []) (h:decodeL a ≠ (65533,1)) (b:List UInt8):decodeL (a ++ b) = decodeL a:=by
 have hp:=List.length_pos_iff.2 ha
 rw [decodeL_N] at h ⊢
 rw [decodeL_N a]
 have g:∀ i,i < a.length -> ((a ++ b).getD i 0).toNat = (a.getD i 0).toNat:=fun i hi=>by
   simp only [List.getD_eq_getElem?_getD,List.getElem?_append_left hi]
 rw [g 0 hp]
 refine Gs (fun h1=>?_) (fun h1=>?_) (fun h1=>?_) h
 · exact ⟨by rw [List.length_append];omega,g 1 h1⟩
 · exact ⟨by rw [List.length_append];omega,g 2 h1⟩
 · exact ⟨by rw [List.length_append];omega,g 3 h1⟩
def nI:Nat -> List UInt8 -> List Nat
 | 0,_=>[]
 | n + 1,l=>if l = [] then [] else (decodeL l).1 :: nI n (l.drop (decodeL l).2)
def pts (l:List UInt8):List Nat:=nI l.length l
theorem Ac:∀ (n m:Nat) (l:List UInt8),l.length <= n -> l.length <= m -> nI n l = nI m l
 | 0,0,l,_,_=>rfl
 | 0,m + 1,l,h,_=>by
   have:l = []:=List.length_eq_zero_iff.1 (by omega)
   subst this;simp [nI]
 | n + 1,0,l,_,h=>by
   have:l = []:=List.length_eq_zero_iff.1 (by omega)
   subst this;simp [nI]
 | n + 1,m + 1,l,h1,h2=>by
   simp only [nI]
   by_cases he:l = []
   · rw [if_pos he,if_pos he]
   · rw [if_neg he,if_neg he]
     have:=decodeL_width l
     rw [Ac n m _ (by rw [List.length_drop];omega) (by rw [List.length_drop];omega)]
theorem Ky:pts [] = []:=rfl
theorem nJ {l:List UInt8} (h:l ≠ []):pts l = (decodeL l).1 :: pts (l.drop (decodeL l).2):=by
 unfold pts
 refine' adg
 rw [hn,nI,if_neg h]
 have:=decodeL_width l
 rw [Ac n _ _ (by rw [List.length_drop];omega) (Nat.le_refl _)]
theorem Ad {P:List UInt8 -> Prop} (h0:P []) (h1:∀ l,l ≠ [] -> validD l = true -> decodeL l ≠ (65533,1) -> validD (l.drop (decodeL l).2) = true -> P (l.drop (decodeL l).2) -> P l):∀ l,validD l = true -> P l:=by
 have key:∀ n (l:List UInt8),l.length <= n -> validD l = true -> P l:=by
   intro n
   induction n with
   | zero=>intro l hl _;have:l = []:=List.length_eq_zero_iff.1 (by omega);subst this;exact h0
   | succ n ih =>
     intro l hl hv
     by_cases he:l = []
     · subst he;exact h0
     · have hs:=hv
       rw [validD_step he] at hs
       by_cases hd:decodeL l = (65533,1)
       · rw [if_pos hd] at hs;cases hs
       · rw [if_neg hd] at hs
         have hw:=decodeL_width l
         have hp:=List.length_pos_iff.2 he
         exact h1 l he hv hd hs (ih _ (by rw [List.length_drop];omega) hs)
 intro l;exact key l.length l (Nat.le_refl _)
theorem Gt {l:List UInt8} (he:l ≠ []) (b:List UInt8):(l ++ b).drop (decodeL l).2 = l.drop (decodeL l).2 ++ b:=by
 rw [List.drop_append_of_le_length (decodeL_le l he)]
theorem CV:∀ a,validD a = true -> ∀ b,validD (a ++ b) = validD b:=by
 refine Ad (fun b=>rfl) (fun l he hv hd hs ih b=>?_)
 have hne:l ++ b ≠ []:=by simp [he]
 rw [validD_step hne,tV he hd,if_neg hd,Gt he,ih]
theorem Kz:∀ a,validD a = true -> ∀ b,pts (a ++ b) = pts a ++ pts b:=by
 refine Ad (fun b=>by simp [Ky]) (fun l he hv hd hs ih b=>?_)
 have hne:l ++ b ≠ []:=by simp [he]
 rw [nJ hne,tV he hd,Gt he,ih,nJ he,List.cons_append]
theorem Gu:∀ (l:List UInt8) (a:Int),(oP l a).length = (pts l).length:=by
 have key:∀ n (l:List UInt8) (a:Int),l.length <= n -> (oP l a).length = (pts l).length:=by
   intro n
   induction n with
   | zero=>intro l a hl;have:l = []:=List.length_eq_zero_iff.1 (by omega);subst this;rfl
   | succ n ih =>
     intro l a hl
     by_cases he:l = []
     · subst he;rfl
     · have hw:=decodeL_width l
       have hp:=List.length_pos_iff.2 he
       rw [qX he,nJ he,List.length_cons,List.length_cons,ih _ _ (by rw [List.length_drop];omega)]
 intro l a;exact key l.length l a (Nat.le_refl _)
theorem cu {l:List UInt8} (h:validD l = true):aI l = (pts l).length:=by
 unfold aI;rw [if_pos h,Gu]
theorem Ae {l:List UInt8} (h:validD l = false):aI l = -1:=by
 unfold aI;rw [h];rfl
theorem JG {a b:List UInt8} (ha:validD a = true) (hb:validD b = true):aI (a ++ b) = aI a + aI b:=by
 rw [cu ha,cu hb,cu (by rw [CV a ha,hb]),Kz a ha,List.length_append];rfl
theorem ru (l:List UInt8):(pts l).length <= l.length:=by rw [<- Gu l 0];exact F7 l 0
theorem ZT {l:List UInt8} (h:l ≠ []):pts l ≠ []:=by rw [nJ h];simp
theorem rC (a b:ByteArray):(a ++ b).data.toList = a.data.toList ++ b.data.toList:=RJ a b
theorem KA {t:ByteArray}:t = ⟨#[]⟩ ↔ t.data.toList = []:=by
 constructor
 · rintro rfl;rfl
 · intro h;cases t with | mk d=>simp at h;subst h;rfl
def emptyS (s:Sp):Bool:=decide (s.n = 0) && decide (s.t = ⟨#[]⟩)
def jT (p:Option Int):List Sp -> Bool
 | []=>true
 | s :: l=>!emptyS s && !decide (p = some s.k) && jT (some s.k) l
def Bd (l:List Sp):Bool:=jT none l
def mrg (a b:Sp):Sp:=⟨a.k,IntKind.i64.wrap (a.n + b.n),a.t ++ b.t⟩
def dH (cur:Sp):List Sp -> List Sp
 | []=>[cur]
 | s :: l=>if emptyS s then dH cur l else if s.k = cur.k then dH (mrg cur s) l else cur :: dH s l
def norm:List Sp -> List Sp
 | []=>[]
 | s :: l=>if emptyS s then norm l else dH s l
def aZ (s:Sp):Prop:=oQ s = 0
theorem aZ.cases {s:Sp} (h:aZ s):((s.k = 1 ∨ s.k = 3) /\ 0 <= s.n /\ s.n <= 1048576 /\ s.t = ⟨#[]⟩) ∨ (s.k = 2 /\ s.n = 0 /\ validD s.t.data.toList = true):=by
 unfold aZ oQ zY at h
 by_cases h1:s.k = 1 ∨ s.k = 3
 · rw [if_pos h1] at h
   by_cases h2:s.n < 0 ∨ 1048576 < s.n
   · rw [if_pos h2] at h;exact absurd h (by decide)
   · rw [if_neg h2] at h
     by_cases h3:s.t = ⟨#[]⟩
     · exact .inl ⟨h1,by omega,by omega,h3⟩
     · rw [if_neg h3] at h;exact absurd h (by decide)
 · rw [if_neg h1] at h
   by_cases h2:s.k = 2
   · rw [if_pos h2] at h
     by_cases h3:s.n ≠ 0
     · rw [if_pos h3] at h;exact absurd h (by decide)
     · rw [if_neg h3] at h
       cases hv:validD s.t.data.toList with
       | true=>exact .inr ⟨h2,by omega,rfl⟩
       | false=>rw [hv] at h;exact absurd h (by decide)
   · rw [if_neg h2] at h;exact absurd h (by decide)
theorem aZ.keep {s:Sp} (h1:s.k = 1 ∨ s.k = 3) (h2:0 <= s.n /\ s.n <= 1048576) (h3:s.t = ⟨#[]⟩):aZ s:=by
 unfold aZ oQ zY;rw [if_pos h1,if_neg (by omega),if_pos h3]
theorem aZ.put {s:Sp} (h1:s.k = 2) (h2:s.n = 0) (h3:validD s.t.data.toList = true):aZ s:=by
 unfold aZ oQ zY;rw [if_neg (by omega),if_pos h1,if_neg (by omega),if_pos h3]
theorem eP (l:List Sp):aF l = 0 ↔ (∀ s ∈ l,aZ s) /\ jK l <= 1048576:=by
 have h:eH oQ l = 0 ↔ ∀ s ∈ l,aZ s:=by
   induction l with
   | nil=>simp [eH]
   | cons s l ih =>
     simp only [eH,List.mem_cons,forall_eq_or_imp]
     by_cases h:oQ s = 0
     · rw [if_pos h,ih];exact ⟨fun a=>⟨h,a⟩,fun a=>a.2⟩
     · rw [if_neg h];exact ⟨fun a=>absurd a h,fun a=>absurd a.1 h⟩
 unfold aF
 by_cases h0:eH oQ l = 0
 · rw [if_pos h0]
   by_cases h1:1048576 < jK l
   · rw [if_pos h1];exact ⟨fun a=>absurd a (by decide),fun a=>by omega⟩
   · rw [if_neg h1];exact ⟨fun _=>⟨h.1 h0,by omega⟩,fun _=>rfl⟩
 · rw [if_neg h0];exact ⟨fun a=>absurd a h0,fun a=>absurd (h.2 a.1) h0⟩
theorem aZ.dh {s:Sp} (h:aZ s):0 <= dh s /\ dh s <= 1048576:=by
 unfold aB.dh sQ
 rcases h.cases with ⟨a,b,c,_⟩ | ⟨a,b,_⟩
 · rw [if_pos a];exact ⟨b,c⟩
 · rw [if_neg (by omega)];omega
theorem jf {l:List Sp} (h:∀ s ∈ l,aZ s) (hl:l.length <= 1000000000):jK l = aS dh l:=by
 rw [JF]
 have:=jr dh 1048576 l (fun s hs=>(h s hs).dh)
 exact aY (by omega)
theorem jW {s:Sp}:emptyS s = true ↔ s.n = 0 /\ s.t = ⟨#[]⟩:=by simp [emptyS]
theorem qG {s:Sp} (h:emptyS s = true):dh s = 0 /\ bZ s = 0:=by
 obtain ⟨h1,h2⟩:=jW.1 h
 unfold dh bZ sQ jk
 rw [h1,h2]
 refine ⟨by split <;> rfl,?_⟩
 split
 · rfl
 · split
   · rfl
   · rfl
def bU (l:List Sp):Nat:=(l.map fun s=>s.t.size).sum
theorem aG (s:Sp) (l:List Sp):bU (s :: l) = s.t.size + bU l:=by simp [bU]
theorem CW {s:Sp} (h:emptyS s = true):s.t.size = 0:=by rw [(jW.1 h).2];rfl
theorem Gv (a b:ByteArray):(a ++ b).size = a.size + b.size:=by rw [<- bn,<- bn,<- bn,rC,List.length_append]
theorem Es {a b:Sp} (ha:aZ a) (hb:aZ b) (hk:b.k = a.k) (hs:dh a + dh b <= 1048576):aZ (mrg a b) /\ dh (mrg a b) = dh a + dh b /\ bZ (mrg a b) = bZ a + bZ b /\ (mrg a b).t.size = a.t.size + b.t.size /\ (mrg a b).n = a.n + b.n:=by
 rcases ha.cases with ⟨a1,a2,a3,a4⟩ | ⟨a1,a2,a3⟩
 · rcases hb.cases with ⟨b1,b2,b3,b4⟩ | ⟨b1,b2,b3⟩
   · have e1:dh a = a.n:=by unfold dh sQ;rw [if_pos a1]
     have e2:dh b = b.n:=by unfold dh sQ;rw [if_pos b1]
     rw [e1,e2] at hs ⊢
     have ew:IntKind.i64.wrap (a.n + b.n) = a.n + b.n:=aY (by omega)
     have hm:mrg a b = ⟨a.k,a.n + b.n,⟨#[]⟩⟩:=by
       unfold mrg;rw [ew,a4,b4];rfl
     rw [hm]
     refine ⟨aZ.keep a1 (by simp only;omega) rfl,?_,?_,?_,rfl⟩
     · unfold dh sQ;simp only;rw [if_pos a1]
     · unfold bZ jk;simp only;rw [hk]
       by_cases h1:a.k = 1
       · rw [if_pos h1,if_pos h1,if_pos h1]
       · rw [if_neg h1,if_neg h1,if_neg h1,if_neg (by omega),if_neg (by omega),if_neg (by omega)];rfl
     · rw [a4,b4];rfl
   · omega
 · rcases hb.cases with ⟨b1,b2,b3,b4⟩ | ⟨b1,b2,b3⟩
   · omega
   · have ew:IntKind.i64.wrap (a.n + b.n) = 0:=by rw [a2,b2];rfl
     have hm:mrg a b = ⟨a.k,0,a.t ++ b.t⟩:=by unfold mrg;rw [ew]
     rw [hm]
     have hv:validD (a.t ++ b.t).data.toList = true:=by rw [rC,CV _ a3,b3]
     refine ⟨aZ.put a1 rfl hv,?_,?_,Gv _ _,by simp only;omega⟩
     · unfold dh sQ;simp only;rw [hk,a1];rfl
     · unfold bZ jk;simp only;rw [hk,a1]
       simp only [show ¬ ((2:Int) = 1) by decide,if_false,if_true]
       rw [rC,JG a3 b3]
       have:=cu a3;have:=cu b3
       omega
theorem rD:∀ (l:List Sp) (cur:Sp),aZ cur -> (∀ s ∈ l,aZ s) -> dh cur + aS dh l <= 1048576 ->
   (∀ s ∈ dH cur l,aZ s) /\ aS dh (dH cur l) = dh cur + aS dh l /\ aS bZ (dH cur l) = bZ cur + aS bZ l /\ bU (dH cur l) = cur.t.size + bU l /\ (dH cur l).length <= l.length + 1
 | [],cur,hc,hl,hs=>by
   refine ⟨fun s h=>?_,by simp [dH,aS],by simp [dH,aS],by simp [dH,bU],by simp [dH]⟩
   simp [dH] at h;subst h;exact hc
 | s :: l,cur,hc,hl,hs=>by
   have h1:=hl s (by simp)
   have h2:∀ x ∈ l,aZ x:=fun x hx=>hl x (by simp [hx])
   have h3:0 <= aS dh l:=(jr dh 1048576 l (fun x hx=>(h2 x hx).dh)).1
   have h4:=h1.dh;have h5:=hc.dh
   rw [aV] at hs
   simp only [dH,aV,aG,List.length_cons]
   by_cases he:emptyS s = true
   · rw [if_pos he]
     obtain ⟨e1,e2⟩:=qG he
     have e3:=CW he
     obtain ⟨a,b,c,d,f⟩:=rD l cur hc h2 (by omega)
     exact ⟨a,by omega,by omega,by omega,by omega⟩
   · rw [if_neg he]
     by_cases hk:s.k = cur.k
     · rw [if_pos hk]
       obtain ⟨m1,m2,m3,m4,_⟩:=Es hc h1 hk (by omega)
       obtain ⟨a,b,c,d,f⟩:=rD l (mrg cur s) m1 h2 (by omega)
       exact ⟨a,by omega,by omega,by omega,by omega⟩
     · rw [if_neg hk]
       obtain ⟨a,b,c,d,f⟩:=rD l s h1 h2 (by omega)
       refine ⟨fun x hx=>?_,by rw [aV];omega,by rw [aV];omega,by rw [aG];omega,by rw [List.length_cons];omega⟩
       rcases List.mem_cons.1 hx with rfl | hx
       · exact hc
       · exact a x hx
theorem jg:∀ (l:List Sp),(∀ s ∈ l,aZ s) -> aS dh l <= 1048576 ->
   (∀ s ∈ norm l,aZ s) /\ aS dh (norm l) = aS dh l /\ aS bZ (norm l) = aS bZ l /\ bU (norm l) = bU l /\ (norm l).length <= l.length
 | [],hl,hs=>by simp [norm]
 | s :: l,hl,hs=>by
   have h1:=hl s (by simp)
   have h2:∀ x ∈ l,aZ x:=fun x hx=>hl x (by simp [hx])
   rw [aV] at hs
   simp only [norm,aV,aG,List.length_cons]
   by_cases he:emptyS s = true
   · rw [if_pos he]
     obtain ⟨e1,e2⟩:=qG he
     have e3:=CW he
     obtain ⟨a,b,c,d,f⟩:=jg l h2 (by omega)
     exact ⟨a,by omega,by omega,by omega,by omega⟩
   · rw [if_neg he]
     exact rD l s h1 h2 hs
theorem rE:∀ (l:List Sp) (cur:Sp) (p:Option Int),emptyS cur = false -> aZ cur -> (∀ s ∈ l,aZ s) -> dh cur + aS dh l <= 1048576 -> p ≠ some cur.k -> jT p (dH cur l) = true
 | [],cur,p,hc,_,_,_,hp=>by simp [dH,jT,hc,hp]
 | s :: l,cur,p,hc,ho,hl,hs,hp=>by
   have h1:=hl s (by simp)
   have h2:∀ x ∈ l,aZ x:=fun x hx=>hl x (by simp [hx])
   have h3:0 <= aS dh l:=(jr dh 1048576 l (fun x hx=>(h2 x hx).dh)).1
   have h4:=h1.dh;have h5:=ho.dh
   rw [aV] at hs
   simp only [dH]
   by_cases he:emptyS s = true
   · rw [if_pos he]
     exact rE l cur p hc ho h2 (by have:=(qG he).1;omega) hp
   · rw [if_neg he]
     by_cases hk:s.k = cur.k
     · rw [if_pos hk]
       obtain ⟨m1,m2,m3,m4,m5⟩:=Es ho h1 hk (by omega)
       refine rE l (mrg cur s) p ?_ m1 h2 (by omega) hp
       rw [Bool.eq_false_iff]
       intro hb
       obtain ⟨b1,b2⟩:=jW.1 hb
       rw [b2] at m4
       have:cur.t.size = 0:=by have:(⟨#[]⟩:ByteArray).size = 0:=rfl;omega
       have hct:cur.t = ⟨#[]⟩:=KA.2 (List.length_eq_zero_iff.1 (by rw [bn];exact this))
       have hn:cur.n ≠ 0:=fun hn=>by rw [<- Bool.not_eq_true] at hc;exact hc (jW.2 ⟨hn,hct⟩)
       rcases ho.cases with ⟨_,x,_⟩ | ⟨_,x,_⟩ <;> rcases h1.cases with ⟨_,y,_⟩ | ⟨_,y,_⟩ <;> omega
     · rw [if_neg hk]
       simp only [jT,hc,Bool.not_false,Bool.true_and,Bool.and_eq_true]
       refine ⟨by simp [hp],?_⟩
       exact rE l s (some cur.k) (by simpa using he) h1 h2 (by omega) (by intro e;exact hk (Option.some.inj e).symm)
theorem nK:∀ (l:List Sp),(∀ s ∈ l,aZ s) -> aS dh l <= 1048576 -> Bd (norm l) = true
 | [],_,_=>rfl
 | s :: l,hl,hs=>by
   have h1:=hl s (by simp)
   have h2:∀ x ∈ l,aZ x:=fun x hx=>hl x (by simp [hx])
   rw [aV] at hs
   simp only [norm]
   by_cases he:emptyS s = true
   · rw [if_pos he];exact nK l h2 (by have:=(qG he).1;omega)
   · rw [if_neg he];exact rE l s none (by simpa using he) h1 h2 hs (by simp)
theorem Af:∀ (l:List Sp) (cur:Sp),jT (some cur.k) l = true -> dH cur l = cur :: l
 | [],cur,_=>rfl
 | s :: l,cur,h=>by
   simp only [jT,Bool.and_eq_true,Bool.not_eq_true',decide_eq_false_iff_not,Option.some.injEq] at h
   obtain ⟨⟨h1,h2⟩,h3⟩:=h
   simp only [dH,h1,Bool.false_eq_true,if_false]
   rw [if_neg (fun e=>h2 e.symm),Af l s h3]
theorem RX:∀ {l:List Sp},Bd l = true -> norm l = l
 | [],_=>rfl
 | s :: l,h=>by
   simp only [Bd,jT,Bool.and_eq_true,Bool.not_eq_true'] at h
   obtain ⟨⟨h1,_⟩,h3⟩:=h
   simp only [norm,h1,Bool.false_eq_true,if_false]
   exact Af l s h3
theorem Gw {l:List Sp} (h:aF l = 0) (hl:l.length <= 1000000000):aF (norm l) = 0:=by
 obtain ⟨h1,h2⟩:=(eP l).1 h
 rw [jf h1 hl] at h2
 obtain ⟨a,b,c,d,f⟩:=jg l h1 h2
 refine (eP _).2 ⟨a,?_⟩
 rw [jf a (by omega)];omega
theorem Wj {l:List Sp} (h:aF l = 0) (hl:l.length <= 1000000000):jK (norm l) = jK l:=by
 obtain ⟨h1,h2⟩:=(eP l).1 h
 rw [jf h1 hl] at h2 ⊢
 obtain ⟨a,b,c,d,f⟩:=jg l h1 h2
 rw [jf a (by omega)];omega
theorem Gx {l:List Sp} (h:aF l = 0) (hl:l.length <= 1000000000):outW (norm l) = outW l:=by
 obtain ⟨h1,h2⟩:=(eP l).1 h
 rw [jf h1 hl] at h2
 obtain ⟨a,b,c,d,f⟩:=jg l h1 h2
 rw [iF,iF,c]
def bigT (l:List Sp):Bool:=l.any fun s=>decide (65536 < s.t.size)
def KC (l:List Sp):Int:=if aF l = 0 then (if Bd l then (if 65536 < l.length then 2 else if bigT l then 2 else 0) else 8) else aF l
theorem RY {l:List Sp} (h1:aF l = 0) (h2:Bd l = true) (h3:l.length <= 65536) (h4:∀ s ∈ l,s.t.size <= 65536):KC l = 0:=by
 have h5:bigT l = false:=by
   simp only [bigT,List.any_eq_false,decide_eq_true_eq]
   intro s hs;have:=h4 s hs;omega
 unfold KC;rw [if_pos h1,h2,if_pos rfl,if_neg (by omega),h5];rfl
def fA (was:Int):List Int -> Bool
 | []=>true
 | n :: l=>decide (was < n) && decide (n <= 268435455) && fA n l
def rises (l:List Int):Bool:=!l.isEmpty && decide (l.length <= 65536) && fA (-1) l
def rowB (was:Int):List Int -> List UInt8
 | []=>[]
 | n :: l=>oU (n - was - 1).toNat ++ rowB n l
def encR (l:List Int):List UInt8:=oU l.length ++ rowB (-1) l
def qH (l:List Int):Int:=if rises l then 0 else 2
def Xy (l:List Int):List UInt8:=if rises l then encR l else []
end Go.Proofs.YtadlnaljicikfaaDoor.aB
namespace Go.Proofs.YtadlnaljicikfaaDoor.aB
open Go
set_option maxRecDepth 100000
attribute [local irreducible] Ev.gV Ev.iy Ev.bC Ev.runK Ev.bD Ev.fD Ev.Side Ev.Wp Ev.Again Ev.To Ev.Fin
open Go.Lib Go.RowKit
theorem Wn (a b:Nat) (ha:a < 9223372036854775808) (hb:b < 9223372036854775808):bitsOf .or .i64 a b = ((a ||| b:Nat):Int):=by
 have h1:(a ||| b) < 2 ^ 63:=Nat.or_lt_two_pow (by simpa using ha) (by simpa using hb)
 show IntKind.i64.wrap (((BitVec.ofInt 64 a ||| BitVec.ofInt 64 b:BitVec 64).toNat:Nat):Int) = _
 rw [BitVec.toNat_or,BitVec.ofInt_natCast,BitVec.ofInt_natCast,BitVec.toNat_ofNat,BitVec.toNat_ofNat]
 rw [Nat.mod_eq_of_lt (by omega),Nat.mod_eq_of_lt (by omega)]
 rw [Ev.wrap64];omega
theorem or_fin:∀ c:Fin 256,(c.val ||| 128) = 128 + c.val % 128:=by decide
theorem u8_or (m:Nat) (h:m < 268435456):IntKind.u8.wrap (bitsOf .or .i64 m 128) = ((UInt8.ofNat (128 + m % 128)).toNat:Int):=by
 have e:=Wn m 128 (by omega) (by omega)
 rw [show ((128:Nat):Int) = 128 from rfl] at e
 rw [e,Ev.BH]
 have h1:(m ||| 128) % 2 ^ 8 = m % 2 ^ 8 ||| 128 % 2 ^ 8:=Nat.or_mod_two_pow ..
 have h2:=or_fin ⟨m % 256,Nat.mod_lt _ (by decide)⟩
 simp only at h2
 rw [ofNat_toNat (by omega)]
 simp only [show (2:Nat) ^ 8 = 256 from rfl,show 128 % 256 = 128 from rfl] at h1
 omega
theorem CX {f m:Nat} (h:128 <= m):Ep (f + 1) m = UInt8.ofNat (128 + m % 128) :: Ep f (m / 128):=by simp only [Ep];rw [if_neg (by omega)]
theorem Gy (f:Nat) {m:Nat} (h:m < 128):Ep f m = [UInt8.ofNat m]:=by cases f <;> simp only [Ep];rw [if_pos h]
theorem ZU:∀ c,Tryd.f98.body = some c -> comp c = (.seq (.reg 0 [I.n 0 2 I.sn,I.n 1 3 (I.si 0)]) (.scope (.seq (.seq (.reg 1 [I.n 0 5 (I.mv 0),I.n 1 6 (I.bc .lss 3 5 0 3),I.n 2 7 (I.mv 6),I.w 3 8 (I.mv 0) 7 false,I.w 4 9 (I.bc .gtr 3 8 268435455 3) 7 false,I.n 5 10 (I.pb 7 true 9)]) (.cond (.tmp 10) (.seq (.reg 2 [I.n 0 2 I.sn,I.n 1 3 (I.si 2)]) .ret) .skip)) (.seq (.reg 3 [I.n 0 4 I.sn]) (.seq (.label 0) (.seq (.seq (.reg 4 [I.n 0 11 (I.mv 0),I.n 1 12 (I.bc .geq 3 11 128 3)]) (.cond (.tmp 12) (.seq (.reg 5 [I.n 0 13 (I.mv 4),I.n 1 14 (I.mv 0),I.n 2 15 (I.bc .or 3 14 128 3),I.n 3 16 (I.cv 3 5 15),I.n 4 17 (I.b1 56 16),I.n 5 18 (I.ap 13 17 56 56),I.n 6 4 (I.sa 18)]) (.seq (.reg 6 [I.n 0 19 (I.mv 0),I.n 1 20 (.binOp .shr 3 (.tmp 19) (.const (Value.int .u64 7)) 158),I.n 2 0 (I.sa 20)]) (.goto 0))) .skip)) (.seq (.reg 7 [I.n 0 21 (I.mv 4),I.n 1 22 (I.mv 0),I.n 2 23 (I.cv 3 5 22),I.n 3 24 (I.b1 56 23),I.n 4 25 (I.ap 21 24 56 56),I.n 5 2 (I.sa 25),I.n 6 3 (I.si 0)]) .ret))))))):=by
 intro c h
 have:c = Tryd.f98.body.get rfl:=by rw [<- Option.some_inj,<- h];rfl
 rw [this];rfl
def ZV (n:Int):AV:=if n < 0 ∨ 268435455 < n then .dD [nilA,.v (.int .i64 2)] else .dD [.lst 1 (qP (oU n.toNat)),.v (.int .i64 0)]
theorem Gz {n:Int} (h:n < 0 ∨ 268435455 < n):ZV n = .dD [nilA,.v (.int .i64 2)]:=if_pos h
theorem Et {n:Int} (h:¬ n < 0) (h':¬ 268435455 < n):ZV n = .dD [.lst 1 (qP (oU n.toNat)),.v (.int .i64 0)]:=if_neg (by omega)
theorem KD (m:Nat):(m:Int).fdiv (2 ^ min (Int.toNat 7) IntKind.i64.bits) = ((m / 128:Nat):Int):=by
 show (m:Int).fdiv 128 = _
 rw [Int.fdiv_eq_ediv_of_nonneg _ (by decide)];omega
theorem RZ {m:Nat} (h:m < 268435456):List.take 1 (List.drop 0 [[AV.v (.int .u8 (IntKind.u8.wrap (bitsOf .or .i64 m 128)))]]) = qP [UInt8.ofNat (128 + m % 128)]:=by rw [u8_or m h];rfl
theorem KE {m:Nat} (h:m < 128):List.take 1 (List.drop 0 [[AV.v (.int .u8 (IntKind.u8.wrap m))]]) = qP [UInt8.ofNat m]:=by
 have:IntKind.u8.wrap m = ((UInt8.ofNat m).toNat:Int):=by rw [ofNat_toNat (by omega),Ev.BH];omega
 rw [this];rfl
theorem Wq {f m:Nat} (hf:f <= 3) (h:m < 128 ^ (f + 1)):m < 268435456:=by
 have:128 ^ (f + 1) <= 128 ^ 4:=Nat.pow_le_pow_right (by decide) (by omega)
 omega
theorem OA (n:Int):aH env 98 [.v (.int .i64 n)] (fun r hs=>r = ZV n /\ hs = []):=by
 refine Ev.fn [0,2,3,4,10,12] 0 [.tmp 2,.tmp 3] Tryd.func98 (ZU _ rfl) ?_
 refine' Ev.zW
 refine Ev.jumps (r:=?_) 0 (fun k s=>∃ (f c m v:Nat) (acc:List UInt8),s = ⟨[(0,.v (.int .i64 m)),(2,nilA),(3,.v (.int .i64 0)),(4,.own 2600 v 0 acc.length)],[(2600,⟨1,5,v,0,false,qP acc⟩)],c⟩ /\ k = f /\ m < 128 ^ (f + 1) /\ acc.length + f = 4 /\ 1 <= acc.length /\ 0 <= n /\ n <= 268435455 /\ oU n.toNat = acc ++ Ep f m) (by rfl) ?_ ?_
 · refine' Ev.zW
   · exact ⟨(Gz (.inl (by assumption))).symm,rfl⟩
   · exact ⟨(Gz (.inr (by assumption))).symm,rfl⟩
   · rename_i h1 h2 h3
     obtain ⟨m,rfl⟩:=Int.eq_ofNat_of_zero_le (show 0 <= n by omega)
     have hr:=RZ (m:=m) (by omega)
     refine Ev.zB ⟨3,3,16,m / 128,8,[UInt8.ofNat (128 + m % 128)],rfl,?_⟩ (by refine' Ev.zp <;> first | (first | exact KD m | exact hr | rfl) | rfl | (refine' Ev.ze;(first | exact KD m | exact hr | rfl)) | fail)
     exact ⟨rfl,by simp;omega,rfl,by simp,by omega,by omega,by rw [Int.toNat_natCast];unfold oU;rw [CX (by omega)];rfl⟩
   · rename_i h1 h2 h3
     obtain ⟨m,rfl⟩:=Int.eq_ofNat_of_zero_le (show 0 <= n by omega)
     refine ⟨?_,rfl⟩
     rw [Et h1 h2]
     unfold oU
     rw [Gy 4 (by omega)]
     exact Ev.yG (Ev.oN (Ev.kV rfl (KE (by omega)))) rfl
 · rintro k s1 ⟨f,c,m,v,acc,rfl,hk,hm,hl,hl1,h0,h1,hp⟩
   have hm4:=Wq (by omega) hm
   refine' Ev.zW
   · rename_i h3
     have hr:=RZ (m:=m) (by omega)
     cases f with
     | zero=>omega
     | succ f =>
       refine Ev.zA (k - 1) ⟨f,c + 16,m / 128,c + 8,acc ++ [UInt8.ofNat (128 + m % 128)],rfl,?_⟩ (by refine' Ev.zp <;> first | (first | exact KD m | (rw [yF,hr];done) | (simp;done) | rfl) | rfl | (refine' Ev.ze;(first | exact KD m | (rw [yF,hr];done) | (simp;done) | rfl)) | fail)
       refine ⟨by omega,?_,by simp;omega,by simp,h0,h1,by rw [hp,CX (by omega)];simp⟩
       rw [Nat.pow_succ] at hm
       exact (Nat.div_lt_iff_lt_mul (by decide)).2 hm
   · rename_i h3
     refine ⟨?_,rfl⟩
     rw [Et (by omega) (by omega),hp,Gy f (by omega)]
     exact Ev.yG (Ev.oN (Ev.kV (by simp) (by rw [yF,KE (by omega)]))) rfl
theorem wrap_succ {i:Nat} (h:i <= 1000000000):IntKind.i64.wrap ((i:Int) + 1) = ((i + 1:Nat):Int):=by rw [aY (by omega)];omega
theorem ZW:∀ c,Tryd.f80.body = some c -> comp c = (.seq (.reg 0 [I.n 0 1 (.box 35 (.tmp 0)),I.n 1 2 (I.sb false)]) (.seq (.reg 1 [I.n 0 3 (I.fa 35 1 1),I.n 1 4 (I.ld 3 3),I.n 2 5 (I.bc .eql 3 4 0 3),I.n 3 6 (I.mv 5),I.w 4 7 (I.fa 35 1 2) 6 true,I.w 5 8 (I.ld 9 7) 6 true,I.w 6 9 (.binOp .eql 9 (.tmp 8) (.const (Value.string { data:=#[] })) 9) 6 true,I.n 7 10 (I.pc 6 9 false),I.n 8 2 (I.sa 10)]) .ret)):=by
 intro c h
 have:c = Tryd.f80.body.get rfl:=by rw [<- Option.some_inj,<- h];rfl
 rw [this];rfl
theorem ZX:∀ c,Tryd.f65.body = some c -> comp c = (.seq (.reg 0 [I.n 0 2 (I.sb false)]) (.seq (.seq (.reg 1 [I.n 0 5 (I.mv 0),I.n 1 6 (I.ln 5 23),I.n 2 7 (.move (.const (Value.int .i64 0)))]) (.block 0 (.loop (.seq (.reg 2 [I.n 0 8 (I.bo .lss 3 7 6 3)]) (.seq (.cond (.tmp 8) .skip (.exit 0)) (.seq (.block 1 (.seq (.reg 3 [I.n 0 9 (I.mv 7),I.n 1 10 (I.ia 23 5 7),I.n 2 11 (I.ld 35 10),I.n 3 4 (.alloc 35),I.n 4 3 (I.sa 9),I.u 5 (I.st 35 4 11)]) (.seq (.draw 4 [I.n 0 12 (I.ld 35 4),I.n 1 13 (I.c1 80 12 35),I.n 2 14 (I.mv 13),I.w 3 15 (I.mv 3) 14 false,I.w 4 16 (I.bc .gtr 3 15 0 3) 14 false,I.w 5 17 (I.mv 16) 14 false,I.w 6 18 (I.fa 35 4 0) 17 true,I.w 7 19 (I.ld 3 18) 17 true,I.w 8 20 (I.mv 0) 17 true,I.w 9 21 (I.mv 3) 17 true,I.w 10 22 (I.bc .sub 3 21 1 3) 17 true,I.w 11 23 (I.ia 23 20 22) 17 true,I.w 12 24 (I.fa 35 23 0) 17 true,I.w 13 25 (I.ld 3 24) 17 true,I.w 14 26 (I.bo .eql 3 19 25 3) 17 true,I.w 15 27 (I.pc 17 26 false) 14 false,I.n 16 28 (I.pb 14 true 27)] [[],[0],[1,1],[2],[3,2],[4,2,2],[5],[6,5],[5],[5],[9,5],[8,10,5],[11,5],[12,5],[7,13,5],[5,14,2],[2,15]]) (.cond (.tmp 28) (.seq (.reg 5 [I.n 0 2 (I.sb false)]) .ret) .skip)))) (.reg 6 [I.n 0 29 (I.bc .add 3 7 1 3),I.n 1 7 (I.mv 29)]))))))) (.seq (.reg 7 [I.n 0 2 (I.sb true)]) .ret))):=by
 intro c h
 have:c = Tryd.f65.body.get rfl:=by rw [<- Option.some_inj,<- h];rfl
 rw [this];rfl
theorem jv (s:Sp):aH env 80 [sO s.k s.n s.t] (fun r hs=>r = .v (.bool (emptyS s)) /\ hs = []):=by
 refine Ev.fn [0,1,2] 0 [.tmp 2] Tryd.func80 (ZW _ rfl) ?_
 refine' Ev.zW
 · rename_i h
   exact ⟨Ev.jS (by simp [emptyS,h]),rfl⟩
 · rename_i h
   exact ⟨Ev.jS (by simp [emptyS,h]),rfl⟩
def prevK (l:List Sp):Nat -> Option Int
 | 0=>none
 | i + 1=>(l[i]?).map Sp.k
theorem Si {l:List Sp} {i:Nat} (hi:i < l.length):jT (prevK l i) (l.drop i) = (!emptyS l[i] && !decide (prevK l i = some l[i].k) && jT (prevK l (i + 1)) (l.drop (i + 1))):=by
 rw [List.drop_eq_getElem_cons hi]
 simp only [jT,prevK,List.getElem?_eq_getElem hi,Option.map_some]
theorem Ws {l:List Sp} {i:Nat} (h0:0 < i) (hi:i - 1 < l.length):prevK l i = some (l[i - 1]).k:=by
 cases i with
 | zero=>omega
 | succ i=>simp only [Nat.add_sub_cancel] at hi ⊢;simp only [prevK,List.getElem?_eq_getElem hi,Option.map_some]
theorem GH {i:Nat} (h0:(0:Int) < i) (hi:i <= 1000000000):(IntKind.i64.wrap ((i:Int) - 1)).toNat = i - 1:=by rw [aY (by omega)];omega
theorem OB {l:List Sp} {i:Nat} (h0:(0:Int) < i) (hi:i <= 1000000000) (hl:i < l.length):Ev.Side ((IntKind.i64.wrap ((i:Int) - 1)).toNat < l.length):=by
 refine Ev.Side.of ?_;rw [GH h0 hi];omega
theorem KF {l:List Sp} {i:Nat} (h0:(0:Int) < i) (hi:i <= 1000000000) (h':(IntKind.i64.wrap ((i:Int) - 1)).toNat < l.length):prevK l i = some (l[(IntKind.i64.wrap ((i:Int) - 1)).toNat]'h').k:=by
 have e:=GH h0 hi
 rw [e] at h'
 simp only [e]
 exact Ws (by omega) h'
theorem CY {l:List Sp} {i:Nat} (hi:i < l.length) (ht:Bd l = jT (prevK l i) (l.drop i)) (h:emptyS l[i] = true ∨ prevK l i = some l[i].k):AV.v (Value.bool false) = AV.v (Value.bool (Bd l)):=by
 refine Ev.jS ?_
 rw [ht,Si hi]
 rcases h with h | h <;> rw [h] <;> simp
theorem GI {l:List Sp} {i:Nat} (hi:i < l.length) (ht:Bd l = jT (prevK l i) (l.drop i)) (h:emptyS l[i] = false) (h2:¬ prevK l i = some l[i].k):Bd l = jT (prevK l (i + 1)) (l.drop (i + 1)):=by
 rw [ht,Si hi,h,decide_eq_false h2];simp
theorem Wu {l:List Sp} {i:Nat} (h:¬ (0:Int) < i) (hi:i < l.length):¬ prevK l i = some l[i].k:=by
 have:i = 0:=by omega
 subst this;simp [prevK]
theorem KG (l:List Sp) (hl:l.length <= 1000000000):aH env 65 [.lst 3 (bM l)] (fun r hs=>r = .v (.bool (Bd l)) /\ hs = []):=by
 have hsl:=dw l
 refine Ev.fn [0,2,3,4,5,6,7,8,28] 0 [.tmp 2] Tryd.func65 (ZX _ rfl) ?_
 repeat' (first | refine' Ev.zS | refine' Ev.zK | ((with_reducible refine Ev.jO ?_);(first | refine Ev.dr 4 [] [0,1,2,3,4,5,6,7,8,9,10,11,12,13,14,15,16] ?_);intro Q hQ;(simp only [Ev.aK,Ev.aT]);conv=>whnf) | refine' Ev.zT | fail)
 refine Ev.loop (fun k s=>∃ i c:Nat,s = ⟨[(0,.lst 3 (bM l)),(2,.v (.bool false)),(5,.lst 3 (bM l)),(6,.v (.int .i64 l.length)),(7,.v (.int .i64 i))],[],c⟩ /\ k + i = l.length /\ Bd l = jT (prevK l i) (l.drop i)) ?_ ?_
 · refine Ev.zB ⟨l.length,0,0,rfl,?_⟩
   exact ⟨by omega,rfl⟩
 rintro k s1 ⟨i,c,rfl,hk,ht⟩
 repeat' (first | refine' Ev.zS | refine' Ev.zK | ((with_reducible refine Ev.ca0 ?_);(first | refine Ev.aO (jv _) rfl rfl ?_ | refine Ev.ca (jv _) ?_);conv=>whnf) | ((with_reducible refine Ev.jO ?_);(first | refine Ev.dr 4 [] [0,1,2,3,4,5,6,7,8,9,10,11,12,13,14,15,16] ?_);intro Q hQ;(simp only [Ev.aK,Ev.aT]);conv=>whnf) | refine' Ev.zT | fail)
 · rename_i h
   exact ⟨CY hi ht (.inl h),rfl⟩
 · rename_i hi' h h0 hq
   exact ⟨CY hi' ht (.inr ((KF h0 (by omega) hi).trans (congrArg some hq.symm))),rfl⟩
 · rename_i hi' h h0 hq
   refine Ev.zA (k - 1) ⟨i + 1,c + 8,rfl,?_⟩
   exact ⟨by omega,GI hi' ht h (fun e=>hq (Option.some.inj (e.symm.trans (KF h0 (by omega) hi))))⟩
 · exact OB (by assumption) (by omega) (by omega)
 · rename_i h h0
   refine Ev.zA (k - 1) ⟨i + 1,c + 8,rfl,?_⟩
   exact ⟨by omega,GI hi ht h (Wu h0 hi)⟩
 · rw [List.drop_of_length_le (by omega)] at ht
   exact ⟨Ev.jS ht.symm,rfl⟩
theorem Eu {n:Int} (h:0 <= n /\ n <= 268435455):aH env 98 [.v (.int .i64 n)] (fun r hs=>r = .dD [.lst 1 (qP (oU n.toNat)),.v (.int .i64 0)] /\ hs = []):=by
 rw [<- Et (by omega) (by omega)];exact OA n
theorem Ag (l:List Sp) {i:Nat} (hi:i < l.length):bU (l.take (i + 1)) = bU (l.take i) + l[i].t.size:=by
 unfold bU;rw [List.take_succ_eq_append_getElem hi,List.map_append,List.sum_append];simp
theorem Sj (l:List Sp) (i:Nat):bU (l.take i) <= bU l:=by
 have:bU l = bU (l.take i) + bU (l.drop i):=by
   conv=>lhs;rw [<- List.take_append_drop i l]
   unfold bU;rw [List.map_append,List.sum_append]
 omega
theorem F5 (a b:List Sp):bM (a ++ b) = bM a ++ bM b:=by simp [bM]
theorem Sl:∀ c,Tryd.f35.body = some c -> comp c = (.seq (.reg 0 [I.n 0 2 I.sn]) (.seq (.reg 1 [I.n 0 7 (I.mv 0),I.n 1 8 (I.ln 7 23),I.n 2 9 (.makeSlice 23 (.tmp 8) (.tmp 8)),I.n 3 3 (I.sa 9)]) (.seq (.reg 2 [I.n 0 10 (I.mv 3),I.n 1 11 (I.mv 0),I.n 2 12 (.call { callee:=.builtin .copy,args:=#[.tmp 10,.tmp 11],argTypes:=#[23,23] })]) (.seq (.reg 3 [I.n 0 13 (I.mv 3),I.n 1 14 (.call { callee:=.value (.func 79),args:=#[.tmp 13,.func 80],argTypes:=#[23,112] }),I.n 2 3 (I.sa 14)]) (.seq (.reg 4 [I.n 0 4 (I.si 0)]) (.seq (.seq (.reg 5 [I.n 0 15 (I.mv 3),I.n 1 16 (I.ln 15 23),I.n 2 17 (.move (.const (Value.int .i64 0)))]) (.block 0 (.loop (.seq (.reg 6 [I.n 0 18 (I.bo .lss 3 17 16 3)]) (.seq (.cond (.tmp 18) .skip (.exit 0)) (.seq (.block 1 (.seq (.reg 7 [I.n 0 19 (I.mv 17),I.n 1 20 (I.ia 23 15 17),I.n 2 21 (I.ld 35 20),I.n 3 6 (.alloc 35),I.n 4 5 (I.sa 19),I.u 5 (I.st 35 6 21)]) (.block 2 (.seq (.reg 10 [I.n 0 29 (I.mv 5),I.n 1 30 (I.bc .eql 3 29 0 3),I.n 2 28 (I.sa 30)]) (.cond (.tmp 28) .skip (.seq (.draw 11 [I.n 0 32 (I.fa 35 6 0),I.n 1 33 (I.ld 3 32),I.n 2 34 (I.mv 3),I.n 3 35 (I.mv 4),I.n 4 36 (I.ia 23 34 35),I.n 5 37 (I.fa 35 36 0),I.n 6 38 (I.ld 3 37),I.n 7 39 (I.bo .eql 3 33 38 3),I.n 8 31 (I.sa 39)] [[],[0],[],[],[2,3],[4],[5],[1,6],[7]]) (.cond (.tmp 31) (.seq (.draw 12 [I.n 0 40 (I.mv 3),I.n 1 41 (I.mv 4),I.n 2 42 (I.ia 23 40 41),I.n 3 43 (I.fa 35 42 1),I.n 4 44 (I.ld 3 43),I.n 5 45 (I.fa 35 6 1),I.n 6 46 (I.ld 3 45),I.n 7 47 (I.bo .add 3 44 46 3),I.n 8 48 (I.ia 23 40 41),I.n 9 49 (I.fa 35 48 1),I.u 10 (I.st 3 49 47)] [[],[],[0,1],[2],[3],[],[5],[4,6],[0,1,0,1,2,3,4,5,6,7],[8,0,1,2,3,4,5,6,7],[9,7,0,1,2,3,4,5,6,7]]) (.draw 13 [I.n 0 50 (I.mv 3),I.n 1 51 (I.mv 4),I.n 2 52 (I.ia 23 50 51),I.n 3 53 (I.fa 35 52 2),I.n 4 54 (I.ld 9 53),I.n 5 55 (I.fa 35 6 2),I.n 6 56 (I.ld 9 55),I.n 7 57 (I.bo .add 9 54 56 9),I.n 8 58 (I.ia 23 50 51),I.n 9 59 (I.fa 35 58 2),I.u 10 (I.st 9 59 57)] [[],[],[0,1],[2],[3],[],[5],[4,6],[0,1,0,1,2,3,4,5,6,7],[8,0,1,2,3,4,5,6,7],[9,7,0,1,2,3,4,5,6,7]])) (.seq (.reg 8 [I.n 0 22 (I.mv 4),I.n 1 23 (I.bc .add 3 22 1 3),I.n 2 4 (I.sa 23)]) (.reg 9 [I.n 0 24 (I.mv 3),I.n 1 25 (I.mv 4),I.n 2 26 (I.ld 35 6),I.n 3 27 (I.ia 23 24 25),I.u 4 (I.st 35 27 26)]))))))))) (.reg 14 [I.n 0 60 (I.bc .add 3 17 1 3),I.n 1 17 (I.mv 60)]))))))) (.seq (.reg 15 [I.n 0 61 (I.mv 3),I.n 1 62 (I.mv 4),I.n 2 63 (I.bc .add 3 62 1 3),I.n 3 64 (I.mv 3),I.n 4 65 (I.ln 64 23),I.n 5 66 (.call { callee:=.builtin .min,args:=#[.tmp 63,.tmp 65],argTypes:=#[3,3] }),I.n 6 67 (.slice 23 (.tmp 61) none (some (.tmp 66)) none),I.n 7 2 (I.sa 67)]) .ret))))))):=by
 intro c h
 have:c = Tryd.f35.body.get rfl:=by rw [<- Option.some_inj,<- h];rfl
 rw [this];rfl
theorem Sm:∀ c,Tryd.f79.body = some c -> comp c = (.seq (.reg 0 [I.n 0 4 I.sn]) (.seq (.reg 1 [I.n 0 8 (I.mv 0),I.n 1 9 (I.mv 1),I.n 2 10 (I.c2 122 8 9 23 112),I.n 3 5 (I.sa 10)]) (.seq (.seq (.reg 2 [I.n 0 11 (I.mv 5),I.n 1 12 (.binOp .eql 3 (.tmp 11) (.const (Value.int .i64 (-1))) 3)]) (.cond (.tmp 12) (.seq (.reg 3 [I.n 0 13 (I.mv 0),I.n 1 4 (I.sa 13)]) .ret) .skip)) (.seq (.seq (.reg 4 [I.n 0 14 (I.mv 5),I.n 1 15 (I.bc .add 3 14 1 3),I.n 2 6 (I.sa 15)]) (.block 0 (.loop (.seq (.seq (.reg 5 [I.n 0 16 (I.mv 6),I.n 1 17 (I.mv 0),I.n 2 18 (I.ln 17 23),I.n 3 19 (I.bo .lss 3 16 18 3)]) (.cond (.tmp 19) .skip (.exit 0))) (.seq (.block 1 (.seq (.reg 7 [I.n 0 22 (I.mv 0),I.n 1 23 (I.mv 6),I.n 2 24 (I.ia 23 22 23),I.n 3 25 (I.ld 35 24),I.n 4 7 (.alloc 35),I.u 5 (I.st 35 7 25)]) (.seq (.reg 8 [I.n 0 26 (I.mv 1),I.n 1 27 (I.ld 35 7),I.n 2 28 (.call { callee:=.value (.tmp 26),args:=#[.tmp 27],argTypes:=#[35] }),I.n 3 29 (.unOp .not 4 (.tmp 28))]) (.cond (.tmp 29) (.seq (.reg 9 [I.n 0 30 (I.mv 0),I.n 1 31 (I.mv 5),I.n 2 32 (I.ld 35 7),I.n 3 33 (I.ia 23 30 31),I.u 4 (I.st 35 33 32)]) (.reg 10 [I.n 0 34 (I.mv 5),I.n 1 35 (I.bc .add 3 34 1 3),I.n 2 5 (I.sa 35)])) .skip)))) (.reg 6 [I.n 0 20 (I.mv 6),I.n 1 21 (I.bc .add 3 20 1 3),I.n 2 6 (I.sa 21)])))))) (.seq (.reg 11 [I.n 0 36 (I.mv 0),I.n 1 37 (I.mv 5),I.n 2 38 (.slice 23 (.tmp 36) (some (.tmp 37)) none none),I.u 3 (.call { callee:=.builtin .clear,args:=#[.tmp 38],argTypes:=#[23] })]) (.seq (.reg 12 [I.n 0 39 (I.mv 0),I.n 1 40 (I.mv 5),I.n 2 41 (.slice 23 (.tmp 39) none (some (.tmp 40)) none),I.n 3 4 (I.sa 41)]) .ret)))))):=by
 intro c h
 have:c = Tryd.f79.body.get rfl:=by rw [<- Option.some_inj,<- h];rfl
 rw [this];rfl
theorem KH:∀ c,Tryd.f122.body = some c -> comp c = (.seq (.reg 0 [I.n 0 4 (I.si 0)]) (.seq (.seq (.reg 1 [I.n 0 6 (I.mv 0),I.n 1 7 (I.ln 6 23),I.n 2 8 (.move (.const (Value.int .i64 0)))]) (.block 0 (.loop (.seq (.reg 2 [I.n 0 9 (I.bo .lss 3 8 7 3)]) (.seq (.cond (.tmp 9) .skip (.exit 0)) (.seq (.block 1 (.seq (.reg 3 [I.n 0 10 (I.mv 8),I.n 1 5 (I.sa 10)]) (.seq (.reg 4 [I.n 0 11 (I.mv 1),I.n 1 12 (I.mv 0),I.n 2 13 (I.mv 5),I.n 3 14 (I.ia 23 12 13),I.n 4 15 (I.ld 35 14),I.n 5 16 (.call { callee:=.value (.tmp 11),args:=#[.tmp 15],argTypes:=#[35] })]) (.cond (.tmp 16) (.seq (.reg 5 [I.n 0 17 (I.mv 5),I.n 1 4 (I.sa 17)]) .ret) .skip)))) (.reg 6 [I.n 0 18 (I.bc .add 3 8 1 3),I.n 1 8 (I.mv 18)]))))))) (.seq (.reg 7 [I.n 0 4 (.assign (.const (Value.int .i64 (-1))))]) .ret))):=by
 intro c h
 have:c = Tryd.f122.body.get rfl:=by rw [<- Option.some_inj,<- h];rfl
 rw [this];rfl
theorem ZY:∀ c,Tryd.f71.body = some c -> comp c = (.seq (.reg 0 [I.n 0 2 I.sn]) (.seq (.reg 1 [I.n 0 7 (.buildSlice 23 0 #[]),I.n 1 3 (I.sa 7)]) (.seq (.seq (.reg 2 [I.n 0 4 (I.si 0)]) (.block 0 (.loop (.seq (.seq (.reg 3 [I.n 0 8 (I.mv 4),I.n 1 9 (I.mv 0),I.n 2 10 (I.ln 9 23),I.n 3 11 (I.bo .lss 3 8 10 3)]) (.cond (.tmp 11) .skip (.exit 0))) (.seq (.block 1 (.seq (.reg 5 [I.n 0 14 (I.mv 0),I.n 1 15 (I.mv 4),I.n 2 16 (I.ia 23 14 15),I.n 3 17 (I.ld 35 16),I.n 4 5 (.alloc 35),I.u 5 (I.st 35 5 17)]) (.seq (.seq (.reg 6 [I.n 0 18 (I.fa 35 5 1),I.n 1 19 (I.ld 3 18),I.n 2 20 (I.bc .eql 3 19 0 3),I.n 3 21 (I.mv 20),I.w 4 22 (I.fa 35 5 2) 21 true,I.w 5 23 (I.ld 9 22) 21 true,I.w 6 24 (.binOp .eql 9 (.tmp 23) (.const (Value.string { data:=#[] })) 9) 21 true,I.n 7 25 (I.pc 21 24 false)]) (.cond (.tmp 25) (.exit 1) .skip)) (.seq (.reg 7 [I.n 0 26 (I.mv 3),I.n 1 27 (I.ln 26 23),I.n 2 6 (I.sa 27)]) (.seq (.draw 8 [I.n 0 28 (I.mv 6),I.n 1 29 (I.bc .gtr 3 28 0 3),I.n 2 30 (I.mv 29),I.w 3 31 (I.mv 3) 30 true,I.w 4 32 (I.mv 6) 30 true,I.w 5 33 (I.bc .sub 3 32 1 3) 30 true,I.w 6 34 (I.ia 23 31 33) 30 true,I.w 7 35 (I.fa 35 34 0) 30 true,I.w 8 36 (I.ld 3 35) 30 true,I.w 9 37 (I.fa 35 5 0) 30 true,I.w 10 38 (I.ld 3 37) 30 true,I.w 11 39 (I.bo .eql 3 36 38 3) 30 true,I.n 12 40 (I.pc 30 39 false)] [[],[0],[1],[2],[2],[4,2],[3,5,2],[6,2],[7,2],[2],[9,2],[8,10,2],[2,11]]) (.cond (.tmp 40) (.seq (.draw 9 [I.n 0 41 (I.mv 3),I.n 1 42 (I.mv 6),I.n 2 43 (I.bc .sub 3 42 1 3),I.n 3 44 (I.mv 3),I.n 4 45 (I.mv 6),I.n 5 46 (I.bc .sub 3 45 1 3),I.n 6 47 (I.ia 23 44 46),I.n 7 48 (I.fa 35 47 1),I.n 8 49 (I.ld 3 48),I.n 9 50 (I.fa 35 5 1),I.n 10 51 (I.ld 3 50),I.n 11 52 (I.bo .add 3 49 51 3),I.n 12 53 (I.ia 23 41 43),I.n 13 54 (I.fa 35 53 1),I.u 14 (I.st 3 54 52)] [[],[],[1],[],[],[4],[3,5],[6],[7],[],[9],[8,10],[0,2,0,1,2,3,4,5,6,7,8,9,10,11],[12,0,1,2,3,4,5,6,7,8,9,10,11],[13,11,0,1,2,3,4,5,6,7,8,9,10,11]]) (.draw 10 [I.n 0 55 (I.mv 3),I.n 1 56 (I.mv 6),I.n 2 57 (I.bc .sub 3 56 1 3),I.n 3 58 (I.mv 3),I.n 4 59 (I.mv 6),I.n 5 60 (I.bc .sub 3 59 1 3),I.n 6 61 (I.ia 23 58 60),I.n 7 62 (I.fa 35 61 2),I.n 8 63 (I.ld 9 62),I.n 9 64 (I.fa 35 5 2),I.n 10 65 (I.ld 9 64),I.n 11 66 (I.bo .add 9 63 65 9),I.n 12 67 (I.ia 23 55 57),I.n 13 68 (I.fa 35 67 2),I.u 14 (I.st 9 68 66)] [[],[],[1],[],[],[4],[3,5],[6],[7],[],[9],[8,10],[0,2,0,1,2,3,4,5,6,7,8,9,10,11],[12,0,1,2,3,4,5,6,7,8,9,10,11],[13,11,0,1,2,3,4,5,6,7,8,9,10,11]])) (.reg 11 [I.n 0 69 (I.mv 3),I.n 1 70 (I.ld 35 5),I.n 2 71 (I.b1 23 70),I.n 3 72 (I.ap 69 71 23 23),I.n 4 3 (I.sa 72)]))))))) (.reg 4 [I.n 0 12 (I.mv 4),I.n 1 13 (I.bc .add 3 12 1 3),I.n 2 4 (I.sa 13)])))))) (.seq (.reg 12 [I.n 0 73 (I.mv 3),I.n 1 2 (I.sa 73)]) .ret)))):=by
 intro c h
 have:c = Tryd.f71.body.get rfl:=by rw [<- Option.some_inj,<- h];rfl
 rw [this];rfl
def full (l:List Sp):List Sp:=l.filter fun s=>!emptyS s
theorem wS:∀ l,norm (full l) = norm l
 | []=>rfl
 | s :: l=>by
   have c:∀ (l:List Sp) (cur:Sp),dH cur (full l) = dH cur l:=by
     intro l
     induction l with
     | nil=>intro cur;rfl
     | cons s l ih =>
       intro cur
       cases h:emptyS s with
       | true=>simp only [full,List.filter_cons,h,dH];simpa [full] using ih cur
       | false =>
         have:full (s :: l) = s :: full l:=by simp [full,List.filter_cons,h]
         rw [this]
         simp only [dH,h]
         split
         · exact absurd ‹_› (by decide)
         · split
           · exact ih _
           · rw [ih]
   cases h:emptyS s with
   | true=>simp only [full,List.filter_cons,h,norm];simpa [full] using wS l
   | false =>
     have:full (s :: l) = s :: full l:=by simp [full,List.filter_cons,h]
     rw [this]
     simp only [norm,h]
     split
     · exact absurd ‹_› (by decide)
     · exact c l s
theorem OC {l:List Sp} {i:Nat} (h:∀ j (hj:j < l.length),j < i -> emptyS l[j] = false) (hi:l.length <= i):full l = l:=by
 unfold full
 refine List.filter_eq_self.2 (fun s hs=>?_)
 obtain ⟨j,hj,rfl⟩:=List.getElem_of_mem hs
 rw [h j hj (by omega)];rfl
theorem uY (l:List Sp):∀ y ∈ bM l,y.length = 3:=by
 intro y hy
 refine' aff
theorem OD {l:List Sp} {i:Nat} (h:∀ j (hj:j < l.length),j < i -> emptyS l[j] = false):full (l.take i) = l.take i:=by
 unfold full
 refine List.filter_eq_self.2 (fun s hs=>?_)
 obtain ⟨j,hj,rfl⟩:=List.getElem_of_mem hs
 rw [List.length_take] at hj
 rw [List.getElem_take,h j (by omega) (by omega)];rfl
theorem afi{G:Prop}(h:G:=by unfold full;rw [List.take_succ_eq_append_getElem hj,List.filter_append];simp [h]):G:=h
theorem KI {l:List Sp} {j:Nat} (hj:j < l.length) (h:emptyS l[j] = true):full (l.take (j + 1)) = full (l.take j):=by
 refine' afi
theorem Sr {l:List Sp} {j:Nat} (hj:j < l.length) (h:emptyS l[j] = false):full (l.take (j + 1)) = full (l.take j) ++ [l[j]]:=by
 refine' afi
theorem vF (l:List Sp):(full l).length <= l.length:=List.length_filter_le ..
theorem l7 (l:List Sp) (i:Nat) (s:Sp):(bM l).set i (qZ s) = bM (l.set i s):=by simp [bM,List.map_set]
theorem Sv {es:List (List AV)} {i:Nat} {x:List AV} {F:List AV -> Prop} (h:i < es.length) (k:F x):Ev.Bo (es.set i x) i F:=by
 unfold Ev.Bo;rw [List.getElem?_set_self h];exact k
theorem Sz (l:List Sp):bU (full l) <= bU l:=by
 induction l with
 | nil=>exact Nat.le_refl _
 | cons s l ih =>
   cases h:emptyS s with
   | true=>rw [show full (s :: l) = full l by simp [full,List.filter_cons,h],aG];omega
   | false=>rw [show full (s :: l) = s :: full l by simp [full,List.filter_cons,h],aG,aG];omega
theorem nM {l:List Sp} {i:Nat} (hi:i < l.length):bU (l.drop i) = l[i].t.size + bU (l.drop (i + 1)):=by rw [List.drop_eq_getElem_cons hi,aG]
theorem Ew {l:List Sp} {i:Nat} (hi:i < (full l).length):emptyS (full l)[i] = false:=by
 have:=(List.mem_filter.1 (List.getElem_mem hi:(full l)[i] ∈ full l)).2
 simpa using this
theorem GK {F:List Sp} {i:Nat} (hi:i < F.length) (h:emptyS F[i] = false) (cur:Sp):dH cur (F.drop i) = if F[i].k = cur.k then dH (mrg cur F[i]) (F.drop (i + 1)) else cur :: dH F[i] (F.drop (i + 1)):=by
 rw [List.drop_eq_getElem_cons hi];simp only [dH,h];rfl
theorem Wv {l:List Sp} (h0:0 < (full l).length):norm l = dH (full l)[0] ((full l).drop 1):=by
 rw [<- wS]
 have:=Ew (l:=l) h0
 generalize full l = F at *
 cases F with
 | nil=>simp at h0
 | cons s F=>simp only [List.getElem_cons_zero] at this;simp only [norm,this];rfl
def mV (l:List Sp) (i last:Nat) (E:List Sp):Prop :=
 E.length = l.length /\ (E.take (full l).length).drop i = (full l).drop i /\ ((i = 0 /\ last = 0) ∨ (∃ pre cur,E.take (last + 1) = pre ++ [cur] /\ pre.length = last /\ last < i /\ cur.t.size + bU ((full l).drop i) <= 1000000000 /\ norm l = pre ++ dH cur ((full l).drop i)))
theorem mV.at {l E:List Sp} {i last:Nat} (h:mV l i last E) (hi:i < (full l).length) (h':i < E.length):E[i] = (full l)[i]:=by
 have e:=congrArg (fun l=>l[0]?) h.2.1
 simp only [List.getElem?_drop,Nat.add_zero] at e
 rw [List.getElem?_take_of_lt hi,List.getElem?_eq_getElem hi,List.getElem?_eq_getElem h'] at e
 exact Option.some.inj e
theorem mV.first {l E:List Sp} {last:Nat} (h:mV l 0 last E) (hi:0 < (full l).length) (hb:bU l <= 1000000000):last = 0 /\ mV l 1 0 E:=by
 have hl:=vF l
 have hE0:0 < E.length:=by have:=h.1;omega
 have ha:=h.at hi hE0
 have h3:=h.2.2
 have h2:=h.2.1
 rw [List.drop_zero,List.drop_zero] at h2
 have hl0:last = 0:=by
   rcases h3 with h | ⟨_,_,_,_,h,_⟩
   · exact h.2
   · omega
 refine ⟨hl0,h.1,by rw [h2],.inr ⟨[],E[0],?_,rfl,by omega,?_,?_⟩⟩
 · rw [List.take_succ_eq_append_getElem hE0];simp
 · rw [ha]
   have a:=nM hi
   have b:=Sz l
   rw [List.drop_zero,Nat.zero_add] at a
   omega
 · rw [ha,List.nil_append];exact Wv hi
theorem mV.last {l E:List Sp} {i last:Nat} (h:mV l i last E) (h0:0 < i):last < i /\ ∃ pre,∃ hl:last < E.length,E.take last = pre /\ pre.length = last /\ E[last].t.size + bU ((full l).drop i) <= 1000000000 /\ norm l = pre ++ dH E[last] ((full l).drop i):=by
 rcases h.2.2 with h3 | ⟨pre,cur,h3,h4,h5,h6,h7⟩
 · omega
 · have hl:last < E.length:=by
     have:=congrArg List.length h3
     rw [List.length_take,List.length_append,List.length_singleton] at this
     omega
   rw [List.take_succ_eq_append_getElem hl] at h3
   have e:=List.append_inj h3 (by rw [List.length_take,h4];omega)
   have e2:E[last] = cur:=by simpa using e.2
   exact ⟨h5,pre,hl,e.1,h4,by rw [e2];exact h6,by rw [e2];exact h7⟩
theorem mV.size {l E:List Sp} {i last:Nat} (h:mV l i last E) (h0:0 < i) (hi:i < (full l).length) (hl:last < E.length) (h':i < E.length):E[last].t.size + E[i].t.size <= 1000000000:=by
 obtain ⟨_,_,_,_,_,a,_⟩:=h.last h0
 rw [nM hi,<- h.at hi h'] at a
 omega
theorem mV.rest {l E:List Sp} {i j:Nat} {x:Sp} (hj:j <= i) (h:(E.take (full l).length).drop i = (full l).drop i):((E.set j x).take (full l).length).drop (i + 1) = (full l).drop (i + 1):=by
 rw [<- List.drop_drop,<- List.drop_drop,<- h,List.take_set,List.drop_drop,List.drop_drop,List.drop_set_of_lt (by omega)]
theorem mV.same {l E:List Sp} {i last:Nat} (h:mV l i last E) (h0:0 < i) (hi:i < (full l).length) (hl:last < E.length) (h':i < E.length) (hk:E[i].k = E[last].k):mV l (i + 1) last (E.set last (mrg E[last] E[i])):=by
 have ha:=h.at hi h'
 obtain ⟨a1,pre,_,a2,a3,a4,a5⟩:=h.last h0
 refine ⟨by simp [h.1],mV.rest (by omega) h.2.1,.inr ⟨pre,mrg E[last] E[i],?_,a3,by omega,?_,?_⟩⟩
 · rw [List.take_succ_eq_append_getElem (by simp;omega),List.take_set_of_le (Nat.le_refl _),a2,List.getElem_set_self]
 · rw [nM hi,<- ha] at a4
   show (E[last].t ++ E[i].t).size + _ <= _
   rw [ByteArray.size_append];omega
 · rw [a5,GK hi (Ew hi),<- ha,if_pos hk]
theorem mV.new {l E:List Sp} {i last:Nat} (h:mV l i last E) (h0:0 < i) (hi:i < (full l).length) (hl:last < E.length) (h':i < E.length) (hk:E[i].k ≠ E[last].k):mV l (i + 1) (last + 1) (E.set (last + 1) E[i]):=by
 have ha:=h.at hi h'
 obtain ⟨a1,pre,_,a2,a3,a4,a5⟩:=h.last h0
 refine ⟨by simp [h.1],mV.rest (by omega) h.2.1,.inr ⟨pre ++ [E[last]],E[i],?_,by simp [a3],by omega,?_,?_⟩⟩
 · rw [List.take_succ_eq_append_getElem (by simp;omega),List.take_set_of_le (Nat.le_refl _),List.take_succ_eq_append_getElem hl,a2,List.getElem_set_self]
 · rw [nM hi,<- ha] at a4
   omega
 · rw [a5,GK hi (Ew hi),<- ha,if_neg hk];simp
theorem mV.end {l E:List Sp} {last:Nat} (h:mV l (full l).length last E):E.take (min (last + 1) (full l).length) = norm l:=by
 have hfl:=vF l
 by_cases h0:(full l).length = 0
 · rw [h0,Nat.min_zero,List.take_zero,<- wS,List.eq_nil_of_length_eq_zero h0];rfl
 · obtain ⟨a1,pre,a6,a2,a3,a4,a5⟩:=h.last (by omega)
   rw [Nat.min_eq_left (by omega),List.take_succ_eq_append_getElem a6,a2,a5,List.drop_of_length_le (Nat.le_refl _)]
   rfl
theorem aae{G:Prop}(h:G:=by (repeat' (first | refine' Ev.zS | ((with_reducible refine Ev.kr (hs:=[79,122]) (fun Q hQ=>?_));refine' Ev.zR) | ((with_reducible refine Ev.jJ 79 ?_);refine Ev.il 79 [0,1,4,5,6,7,12,19,29] [.tmp 4] Tryd.func79 (Sm _ rfl) (fun aN=>?_)) | ((with_reducible refine Ev.jJ 122 ?_);refine Ev.il 122 [0,1,4,5,7,8,9,16] [.tmp 4] Tryd.func122 (KH _ rfl) (fun aN=>?_)) | ((with_reducible refine Ev.ca0 ?_);(first | refine Ev.aO (jv _) rfl rfl ?_ | refine Ev.ca (jv _) ?_);conv=>whnf) | ((with_reducible refine Ev.jO ?_);(first | refine Ev.dr 11 [79,122] [0,1,2,3,4,5,6,7,8] ?_ | refine Ev.dr 12 [79,122] [0,1,2,3,4,5,6,7,8,9,10] ?_ | refine Ev.dr 13 [79,122] [0,1,2,3,4,5,6,7,8,9,10] ?_);intro Q hQ;(simp only [Ev.aK,Ev.aT]);conv=>whnf) | refine' Ev.zT | fail));all_goals(rcases(⟨_⟩:PLift _)with⟨h⟩;exact h)):G:=h
theorem aag{G:Prop}(h:G:=by
 have hjl:j = l.length:=by omega
 subst hjl
 rw [List.take_length] at hj hE1 ⊢
 have hr:List.take (0 + ((full l).length:Int).toNat) (bM E) ++ List.replicate (l.length - ((full l).length:Int).toNat) (List.map AV.v [Value.int .i64 0,Value.int .i64 0,Value.string ⟨#[]⟩]) ++ List.drop (0 + ((full l).length:Int).toNat + (l.length - ((full l).length:Int).toNat)) (bM E) = bM (full l ++ List.replicate (l.length - (full l).length) ⟨0,0,⟨#[]⟩⟩):=by
   rw [Int.toNat_natCast,Nat.zero_add,List.drop_of_length_le (by rw [dw];omega),List.append_nil,F5]
   congr 1
   · show List.take _ (E.map qZ) = _
     rw [<- List.map_take,hE1];rfl
   · simp [bM,qZ]
 refine Ev.zB ⟨c',0,full l ++ List.replicate (l.length - (full l).length) ⟨0,0,⟨#[]⟩⟩,rfl,?_⟩ (by refine' Ev.zp <;> first | (first | (exact congrArg (fun n=>au.mk 3 35 _ 0 false n) hr) | (simp;done) | rfl) | rfl | (refine' Ev.ze;(first | (exact congrArg (fun n=>au.mk 3 35 _ 0 false n) hr) | (simp;done) | rfl)) | fail)
 exact ⟨List.take_left ..,by simp,by simp;omega⟩):G:=h
theorem aaq{G:Prop}(h:G:=by (repeat' (first | (with_reducible refine Ev.join (a:=.reg 3 _) (fun s=>∃ (c v:Nat) (E:List Sp),s = ⟨[(0,.lst 3 (bM l)),(2,nilA),(3,.own 528 v 0 (full l).length)],[(528,⟨3,35,v,0,false,bM E⟩)],c⟩ /\ E.take (full l).length = full l /\ (full l).length <= E.length /\ E.length = l.length) ?_ ?_) | refine' Ev.zS | ((with_reducible refine Ev.kr (hs:=[79,122]) (fun Q hQ=>?_));refine' Ev.zR) | ((with_reducible refine Ev.jJ 79 ?_);refine Ev.il 79 [0,1,4,5,6,7,12,19,29] [.tmp 4] Tryd.func79 (Sm _ rfl) (fun aN=>?_)) | ((with_reducible refine Ev.jJ 122 ?_);refine Ev.il 122 [0,1,4,5,7,8,9,16] [.tmp 4] Tryd.func122 (KH _ rfl) (fun aN=>?_)) | ((with_reducible refine Ev.ca0 ?_);(first | refine Ev.aO (jv _) rfl rfl ?_ | refine Ev.ca (jv _) ?_);conv=>whnf) | ((with_reducible refine Ev.jO ?_);(first | refine Ev.dr 11 [79,122] [0,1,2,3,4,5,6,7,8] ?_ | refine Ev.dr 12 [79,122] [0,1,2,3,4,5,6,7,8,9,10] ?_ | refine Ev.dr 13 [79,122] [0,1,2,3,4,5,6,7,8,9,10] ?_);intro Q hQ;(simp only [Ev.aK,Ev.aT]);conv=>whnf) | refine' Ev.zT | fail));all_goals(rcases(⟨_⟩:PLift _)with⟨h⟩;exact h)):G:=h
theorem aa2{G:Prop}(h:G:=by
 have Z4:last < E.length:=by assumption
 have hi1:i < E.length:=by assumption
 have hkk:E[i].k = E[last].k:=by assumption
 refine Ev.zA (k - 1) ⟨i + 1,last,c + 8,E.set last (mrg E[last] E[i]),rfl,?_⟩ (by refine' Ev.zp <;> first | (first | exact wrap_succ (by omega) | (refine congrArg (fun n=>au.mk 3 35 _ 0 false n) ?_;show ((bM E).set (0 + (last:Int).toNat) _).set (0 + (last:Int).toNat) (qZ (mrg E[last] E[i])) = _;rw [Nat.zero_add,Int.toNat_natCast,List.set_set,l7]) | rfl) | rfl | (refine' Ev.ze;(first | exact wrap_succ (by omega) | (refine congrArg (fun n=>au.mk 3 35 _ 0 false n) ?_;show ((bM E).set (0 + (last:Int).toNat) _).set (0 + (last:Int).toNat) (qZ (mrg E[last] E[i])) = _;rw [Nat.zero_add,Int.toNat_natCast,List.set_set,l7]) | rfl)) | fail)
 exact ⟨by omega,hI.same (by omega) (by omega) Z4 hi1 hkk⟩):G:=h
theorem abf{G:Prop}(h:G:=by
 rename_i hi2 h
 have hjl:j < l.length:=by omega
 have aeH:=hEj hjl hi2
 rw [aeH] at h
 have f3:=Sr hjl h
 have f4:=vF (l.take j)
 have hw:IntKind.i64.wrap ((full (l.take j)).length + 1:Int) = ((full (l.take (j + 1))).length:Int):=by rw [f3,aY (by omega)];simp
 refine Ev.zA (k - 1) ⟨j + 1,c + 8,E.set (full (l.take j)).length E[j],rfl,?_⟩ (by refine' Ev.zp <;> first | (first | exact wrap_succ (by omega) | exact hw | (rw [Nat.zero_add,Int.toNat_natCast];exact congrArg (fun n=>au.mk 3 35 _ 0 false n) (l7 _ _ _)) | rfl) | rfl | (refine' Ev.ze;(first | exact wrap_succ (by omega) | exact hw | (rw [Nat.zero_add,Int.toNat_natCast];exact congrArg (fun n=>au.mk 3 35 _ 0 false n) (l7 _ _ _)) | rfl)) | fail)
 refine ⟨by omega,by simp [hE],by rw [f3];simp;omega,?_,?_⟩
 all_goals(rcases(⟨_⟩:PLift _)with⟨h⟩;exact h)):G:=h
theorem abo{G:Prop}(h:G:=by
 have Z4:last < E.length:=by omega
 have hi1:i < E.length:=by omega
 have hkk:¬ E[i].k = E[last].k:=by assumption
 refine Ev.zA (k - 1) ⟨i + 1,last + 1,c + 8,E.set (last + 1) E[i],rfl,?_⟩ (by refine' Ev.zp <;> first | (first | exact wrap_succ (by omega) | exact hw | (refine congrArg (fun n=>au.mk 3 35 _ 0 false n) ?_;show (bM E).set (0 + (IntKind.i64.wrap ((last:Int) + 1)).toNat) (qZ E[i]) = _;rw [hw,Nat.zero_add,Int.toNat_natCast,l7]) | rfl) | rfl | (refine' Ev.ze;(first | exact wrap_succ (by omega) | exact hw | (refine congrArg (fun n=>au.mk 3 35 _ 0 false n) ?_;show (bM E).set (0 + (IntKind.i64.wrap ((last:Int) + 1)).toNat) (qZ E[i]) = _;rw [hw,Nat.zero_add,Int.toNat_natCast,l7]) | rfl)) | fail)
 exact ⟨by omega,hI.new (by omega) (by omega) Z4 hi1 hkk⟩):G:=h
theorem abr{G:Prop}(h:G:=by
 have hln:(bM E).length = E.length:=dw E
 have hE:E.length = l.length:=hI.1
 have hll:last = 0 ∨ last < i:=by
   rcases hI.2.2 with h | ⟨_,_,_,_,h,_⟩
   · exact .inl h.2
   · exact .inr h
 have hw:IntKind.i64.wrap ((last:Int) + 1) = ((last + 1:Nat):Int):=by rw [aY (by omega)];simp
 repeat' (first | refine' Ev.zP | refine' Ev.zS | refine' Ev.zK | ((refine Sv (by rw [dw,Nat.zero_add,Int.toNat_natCast];omega) ?_);conv=>whnf) | ((with_reducible refine Ev.jO ?_);(first | refine Ev.dr 11 [] [0,1,2,3,4,5,6,7,8] ?_ | refine Ev.dr 12 [] [0,1,2,3,4,5,6,7,8,9,10] ?_ | refine Ev.dr 13 [] [0,1,2,3,4,5,6,7,8,9,10] ?_);intro Q hQ;(simp only [Ev.aK,Ev.aT]);conv=>whnf) | refine' Ev.zT | fail)
 all_goals(rcases(⟨_⟩:PLift _)with⟨h⟩;exact h)):G:=h
theorem abz{G:Prop}(h:G:=by
 have hFl:=vF l
 repeat' (first | refine' Ev.zP | refine' Ev.zS | refine' Ev.zK | ((with_reducible refine Ev.jO ?_);(first | refine Ev.dr 11 [] [0,1,2,3,4,5,6,7,8] ?_ | refine Ev.dr 12 [] [0,1,2,3,4,5,6,7,8,9,10] ?_ | refine Ev.dr 13 [] [0,1,2,3,4,5,6,7,8,9,10] ?_);intro Q hQ;(simp only [Ev.aK,Ev.aT]);conv=>whnf) | refine' Ev.zT | fail)
 refine Ev.loop (fun k s=>∃ (i last c:Nat) (E:List Sp),s = ⟨[(0,.lst 3 (bM l)),(2,nilA),(3,.own 528 v 0 (full l).length),(4,.v (.int .i64 last)),(15,.own 528 v 0 (full l).length),(16,.v (.int .i64 (full l).length)),(17,.v (.int .i64 i))],[(528,⟨3,35,v,0,false,bM E⟩)],c⟩ /\ k + i = (full l).length /\ mV l i last E) ?_ ?_
 all_goals(rcases(⟨_⟩:PLift _)with⟨h⟩;exact h)):G:=h
theorem ab3{G:Prop}(h:G:=by
 rename_i h
 have hjl:j < l.length:=by omega
 rw [hEj hjl hi] at h
 have f3:=KI hjl h
 refine Ev.zA (k - 1) ⟨j + 1,c + 8,E,rfl,?_⟩ (by refine' Ev.zp <;> first | (first | exact wrap_succ (by omega) | (rw [f3];done) | rfl) | rfl | (refine' Ev.ze;(first | exact wrap_succ (by omega) | (rw [f3];done) | rfl)) | fail)
 exact ⟨by omega,hE,by rw [f3];omega,by rw [f3];exact hE1,by rw [<- List.drop_drop,hE2,List.drop_drop]⟩):G:=h
theorem acj{G:Prop}(h:G:=by
 rename_i hemp _
 have f1:=OD he
 have f2:=KI hi hemp
 refine Ev.loop (fun k s=>∃ (j c:Nat) (E:List Sp),s = ⟨[(0,.own 528 0 0 l.length),(1,.clo (.func 80) [] []),(4,nilA),(5,.v (.int .i64 (full (l.take j)).length)),(6,.v (.int .i64 j))],[(528,⟨3,35,0,0,false,bM E⟩)],c⟩ /\ k + j = l.length /\ E.length = l.length /\ (full (l.take j)).length < j /\ E.take (full (l.take j)).length = full (l.take j) /\ E.drop j = l.drop j) ?_ ?_
 all_goals(rcases(⟨_⟩:PLift _)with⟨h⟩;exact h)):G:=h
theorem ac0{G:Prop}(h:G:=by
 have f3:(full (l.take (i + 1))).length = i:=by rw [f2,f1,List.length_take];omega
 refine Ev.zB ⟨l.length - (i + 1),i + 1,c',l,rfl,?_⟩ (by refine' Ev.zp <;> first | (first | (rw [f3];done) | exact wrap_succ (by omega) | (simp;done) | rfl) | rfl | (refine' Ev.ze;(first | (rw [f3];done) | exact wrap_succ (by omega) | (simp;done) | rfl)) | fail)
 exact ⟨by omega,rfl,by omega,by rw [f3,f2,f1],rfl⟩):G:=h
theorem ac2{G:Prop}(h:G:=by
 have hEj:∀ (h:j < l.length) (h':j < E.length),E[j] = l[j]:=fun h h'=>by
   have e1:E[j]? = l[j]?:=by
     have a:=congrArg (fun l=>l[0]?) hE2
     simpa using a
   rw [List.getElem?_eq_getElem h,List.getElem?_eq_getElem h'] at e1
   exact Option.some.inj e1
 refine' aae
 all_goals(rcases(⟨_⟩:PLift _)with⟨h⟩;exact h)):G:=h
theorem ads{G:Prop}(h:G:=by
 have e:=OC he (by omega)
 refine Ev.zB ⟨c',0,l,rfl,?_⟩ (by refine' Ev.zp <;> first | (first | (rw [e];simp;done) | rfl) | rfl | (refine' Ev.ze;(first | (rw [e];simp;done) | rfl)) | fail)
 exact ⟨by rw [e];simp,by rw [e];exact Nat.le_refl _,rfl⟩):G:=h
theorem adz{G:Prop}(h:G:=by (refine Ev.loop (fun k s=>∃ i c:Nat,s = ⟨[(0,.own 528 0 0 l.length),(1,.clo (.func 80) [] []),(4,.v (.int .i64 0)),(7,.v (.int .i64 l.length)),(8,.v (.int .i64 i))],[(528,⟨3,35,0,0,false,bM l⟩)],c⟩ /\ k + i = l.length /\ ∀ j (hj:j < l.length),j < i -> emptyS l[j] = false) ?_ ?_);all_goals(rcases(⟨_⟩:PLift _)with⟨h⟩;exact h)):G:=h
theorem aec{G:Prop}(h:G:=by
 rename_i hi0
 have:i = 0:=by omega
 subst this
 obtain ⟨rfl,h2⟩:=hI.first (by omega) hb
 refine Ev.zA (k - 1) ⟨1,0,c + 8,E,rfl,?_⟩
 exact ⟨by omega,h2⟩):G:=h
theorem aen{G:Prop}(h:G:=by rw [f3,List.length_append,List.length_singleton,List.take_succ_eq_append_getElem (by simp;omega),List.take_set_of_le (Nat.le_refl _),hE1,List.getElem_set_self,aeH]):G:=h
theorem ae2{G:Prop}(h:G:=by
 refine Ev.zB ⟨(full l).length,0,0,c,E,rfl,?_⟩
 exact ⟨by omega,hF2,by rw [hF],.inl ⟨rfl,rfl⟩⟩):G:=h
theorem afk{G:Prop}(h:G:=by
 have:=hI.size (by omega) (by omega) ‹last < E.length› ‹i < E.length›
 refine Ev.Side.of ?_;omega):G:=h
theorem afn{G:Prop}(h:G:=by
 refine Ev.zB ⟨l.length,0,aN,rfl,?_⟩
 exact ⟨by omega,fun j hj h=>by omega⟩):G:=h
theorem afo{G:Prop}(h:G:=by rw [List.drop_set_of_lt (by omega),<- List.drop_drop,hE2,List.drop_drop]):G:=h
theorem Ah (l:List Sp) (hl:l.length <= 100000000) (hb:bU l <= 1000000000):aH env 35 [.lst 3 (bM l)] (fun r hs=>r = .lst 3 (bM (norm l)) /\ hs = []):=by
 have hsl:=dw l
 have hmx:2000000003 <= maxLen:=by decide
 refine Ev.fn [0,2,3,4,5,6,15,16,17,18,28,31] 0 [.tmp 2] Tryd.func35 (Sl _ rfl) ?_
 refine' aaq
 · refine' adz
   · refine' afn
   rintro k s1 ⟨i,c,rfl,hk,he⟩
   refine' aae
   · rename_i h;exact absurd h (by omega)
   · refine' acj
     · refine' ac0
     rintro k s1 ⟨j,c,E,rfl,hk,hE,hj,hE1,hE2⟩
     refine' ac2
     · refine' ab3
     · refine' abf
       · refine' aen
       · refine' afo
     · refine' aag
   · refine Ev.zA (k - 1) ⟨i + 1,c,rfl,?_⟩
     refine ⟨by omega,fun j hj hji=>?_⟩
     by_cases e:j = i
     · subst e;assumption
     · exact he j hj (by omega)
   · refine' ads
   · rename_i h;exact absurd rfl h
 · rintro s1 ⟨c,v,E,rfl,hF,hF1,hF2⟩
   refine' abz
   · refine' ae2
   rintro k s1 ⟨i,last,c,E,rfl,hk,hI⟩
   refine' abr
   · refine' aec
   · refine' aa2
   · refine' afk
   · refine' abo
   · refine Ev.Side.of ?_;rw [hw];show last + 1 < E.length;omega
   · have hc:=hI
     rw [show i = (full l).length by omega] at hc
     have he:=hc.end
     refine ⟨Ev.oN ?_,rfl⟩
     have e1:(min (IntKind.i64.wrap ((last:Int) + 1)) ((full l).length:Int)).toNat - 0 = min (last + 1) (full l).length:=by rw [hw];omega
     rw [e1,List.drop_zero,<- he]
     show List.take _ (E.map qZ) = (E.take _).map qZ
     rw [List.map_take]
 · refine Ev.Side.of ⟨by omega,?_,?_,uY l⟩ <;> simp
def jP (acc:List Sp) (s:Sp):List Sp :=
 if emptyS s then acc
 else match acc.getLast? with
   | none=>[s]
   | some c=>if s.k = c.k then acc.set (acc.length - 1) (mrg c s) else acc ++ [s]
theorem qI {acc:List Sp} {s:Sp} (h:emptyS s = true):jP acc s = acc:=by unfold jP;rw [if_pos h]
theorem CZ {s:Sp} (h:emptyS s = false):jP [] s = [s]:=by unfold jP;rw [h];rfl
theorem Ai {acc:List Sp} {s:Sp} {n:Nat} (h:emptyS s = false) (hn:acc.length = n + 1) (h':n < acc.length) (hk:acc[n].k = s.k):jP acc s = acc.set n (mrg acc[n] s):=by
 unfold jP
 rw [h,List.getLast?_eq_getElem?,show acc.length - 1 = n by omega,List.getElem?_eq_getElem h']
 simp [hk]
theorem C9 {acc:List Sp} {s:Sp} {n:Nat} (h:emptyS s = false) (hn:acc.length = n + 1) (h':n < acc.length) (hk:acc[n].k ≠ s.k):jP acc s = acc ++ [s]:=by
 unfold jP
 rw [h,List.getLast?_eq_getElem?,show acc.length - 1 = n by omega,List.getElem?_eq_getElem h']
 simp [Ne.symm hk]
theorem oV:∀ (l:List Sp) (pre:List Sp) (cur:Sp),l.foldl jP (pre ++ [cur]) = pre ++ dH cur l
 | [],pre,cur=>rfl
 | s :: l,pre,cur=>by
   rw [List.foldl_cons]
   simp only [dH]
   cases h:emptyS s with
   | true=>rw [qI h,if_pos rfl,oV l]
   | false =>
     have hn:(pre ++ [cur]).length = pre.length + 1:=by simp
     have h':pre.length < (pre ++ [cur]).length:=by omega
     have hg:(pre ++ [cur])[pre.length] = cur:=by simp
     rw [if_neg (by decide)]
     by_cases hk:s.k = cur.k
     · rw [Ai h hn h' (by rw [hg,hk]),if_pos hk,hg]
       have:(pre ++ [cur]).set pre.length (mrg cur s) = pre ++ [mrg cur s]:=by simp
       rw [this,oV l]
     · rw [C9 h hn h' (by rw [hg];exact fun e=>hk e.symm),if_neg hk,oV l,List.append_assoc];rfl
theorem Dc:∀ l:List Sp,l.foldl jP [] = norm l
 | []=>rfl
 | s :: l=>by
   rw [List.foldl_cons]
   simp only [norm]
   cases h:emptyS s with
   | true=>rw [qI h,if_pos rfl,Dc l]
   | false=>rw [CZ h,if_neg (by decide)];exact oV l [] s
theorem Ey (a b:List Sp):bU (a ++ b) = bU a + bU b:=by unfold bU;rw [List.map_append,List.sum_append]
theorem OE (acc:List Sp) (s:Sp):bU (jP acc s) <= bU acc + s.t.size:=by
 unfold jP
 split
 · omega
 · rcases List.eq_nil_or_concat acc with rfl | ⟨pre,c,rfl⟩
   · simp [bU]
   · have h:(pre ++ [c]).getLast? = some c:=by simp
     rw [List.concat_eq_append,h];simp only
     split
     · have e:(pre ++ [c]).set ((pre ++ [c]).length - 1) (mrg c s) = pre ++ [mrg c s]:=by simp
       rw [e,Ey,Ey];simp [bU,mrg,ByteArray.size_append];omega
     · rw [Ey _ [s]];simp [bU]
theorem OG (acc:List Sp) (s:Sp):(jP acc s).length <= acc.length + 1:=by
 unfold jP
 split
 · omega
 · split
   · simp
   · split <;> simp
def gG (l:List Sp) (i:Nat):List Sp:=(l.take i).foldl jP []
theorem iY {l:List Sp} {i:Nat} (hi:i < l.length):gG l (i + 1) = jP (gG l i) l[i]:=by
 unfold gG;rw [List.take_succ_eq_append_getElem hi,List.foldl_append];rfl
theorem tX {l:List Sp} {i:Nat} (hi:l.length <= i):gG l i = norm l:=by
 unfold gG;rw [List.take_of_length_le hi,Dc]
theorem oW (l:List Sp):∀ i,(gG l i).length <= i
 | 0=>by simp [gG]
 | i + 1=>by
   by_cases hi:i < l.length
   · rw [iY hi];have:=OG (gG l i) l[i];have:=oW l i;omega
   · have e:gG l (i + 1) = gG l i:=by unfold gG;rw [List.take_of_length_le (by omega),List.take_of_length_le (by omega)]
     rw [e];have:=oW l i;omega
theorem oZ (l:List Sp):∀ i,bU (gG l i) <= bU (l.take i)
 | 0=>by simp [gG]
 | i + 1=>by
   by_cases hi:i < l.length
   · rw [iY hi,Ag l hi];have:=OE (gG l i) l[i];have:=oZ l i;omega
   · have e:gG l (i + 1) = gG l i:=by unfold gG;rw [List.take_of_length_le (by omega),List.take_of_length_le (by omega)]
     have e2:l.take (i + 1) = l.take i:=by rw [List.take_of_length_le (by omega),List.take_of_length_le (by omega)]
     rw [e,e2];exact oZ l i
theorem KJ {l:List Sp} {s:Sp} (h:s ∈ l):s.t.size <= bU l:=by
 induction l with
 | nil=>cases h
 | cons x l ih =>
   rw [aG]
   rcases List.mem_cons.1 h with rfl | h'
   · omega
   · have:=ih h';omega
theorem SA {E:List Sp} {x:Sp} {w:Int} {n:Nat} (hw:w = (n:Int)) (A:List AV) (h:w.toNat < E.length) (h':n < E.length):((bM E).set (0 + w.toNat) A).set (0 + w.toNat) (qZ (mrg E[w.toNat] x)) = bM (E.set n (mrg E[n] x)):=by
 subst hw;rw [Nat.zero_add];simp only [Int.toNat_natCast];rw [List.set_set,l7]
theorem SB {E:List Sp} {w:Int} {n:Nat} (hw:w = (n:Int)) (h:w.toNat < E.length) (h':n < E.length):E[w.toNat] = E[n]:=by
 subst hw;rfl
theorem aaj{G:Prop}(h:G:=by
 have hi:i < l.length:=by omega
 have he:emptyS l[i] = false:=by simp [emptyS, *]
 have hn:E.length - 1 < E.length:=by omega
 have hm:(IntKind.i64.wrap ((E.length:Int) - 1)).toNat < E.length:=by assumption
 have hkk:E[(IntKind.i64.wrap ((E.length:Int) - 1)).toNat].k = l[i].k:=by assumption
 rw [SB (hw (by omega)) hm hn] at hkk
 have hr:=fun A=>SA (x:=l[i]) (hw (by omega)) A hm hn
 refine Ev.zA (k - 1) ⟨i + 1,v,c + 8,E.set (E.length - 1) (mrg E[E.length - 1] l[i]),rfl,?_⟩ (by refine' Ev.zp <;> first | (first | exact wrap_succ (by omega) | (exact congrArg (fun n=>au.mk 3 35 _ 0 false n) (hr _)) | (simp;done) | rfl) | rfl | (refine' Ev.ze;(first | exact wrap_succ (by omega) | (exact congrArg (fun n=>au.mk 3 35 _ 0 false n) (hr _)) | (simp;done) | rfl)) | fail)
 exact ⟨by omega,by rw [iY hi,<- hE,Ai he (n:=E.length - 1) (by omega) hn hkk]⟩):G:=h
theorem aar{G:Prop}(h:G:=by
 have hi:i < l.length:=by omega
 have he:emptyS l[i] = false:=by simp [emptyS, *]
 have hn:E.length - 1 < E.length:=by omega
 have hm:(IntKind.i64.wrap ((E.length:Int) - 1)).toNat < E.length:=by assumption
 have hkk:¬ E[(IntKind.i64.wrap ((E.length:Int) - 1)).toNat].k = l[i].k:=by assumption
 rw [SB (hw (by omega)) hm hn] at hkk
 refine Ev.zA (k - 1) ⟨i + 1,c + 8 + 8,c + 8 + 8 + 8,E ++ [l[i]],rfl,?_⟩ (by refine' Ev.zp <;> first | (first | exact wrap_succ (by omega) | (simp;done) | (simp [bM,qZ];done) | rfl) | rfl | (refine' Ev.ze;(first | exact wrap_succ (by omega) | (simp;done) | (simp [bM,qZ];done) | rfl)) | fail)
 exact ⟨by omega,by rw [iY hi,<- hE,C9 he (n:=E.length - 1) (by omega) hn hkk]⟩):G:=h
theorem aa5{G:Prop}(h:G:=by
 have hi:i < l.length:=by omega
 have he:emptyS l[i] = false:=by simp [emptyS, *]
 have hz:E = []:=List.eq_nil_of_length_eq_zero (by omega)
 subst hz
 refine Ev.zA (k - 1) ⟨i + 1,c + 8 + 8,c + 8 + 8 + 8,[l[i]],rfl,?_⟩ (by refine' Ev.zp <;> first | (first | exact wrap_succ (by omega) | (simp;done) | (simp [bM,qZ];done) | rfl) | rfl | (refine' Ev.ze;(first | exact wrap_succ (by omega) | (simp;done) | (simp [bM,qZ];done) | rfl)) | fail)
 exact ⟨by omega,by rw [iY hi,<- hE,CZ he]⟩):G:=h
theorem abg{G:Prop}(h:G:=by
 have hn:E.length - 1 < E.length:=by omega
 have hm:(IntKind.i64.wrap ((E.length:Int) - 1)).toNat < E.length:=by assumption
 have h1:=KJ (List.getElem_mem hm)
 have h2:=oZ l i
 have h3:=Ag l hi
 have h4:=Sj l (i + 1)
 rw [<- hE] at h2
 refine Ev.Side.of ?_
 show (E[(IntKind.i64.wrap ((E.length:Int) - 1)).toNat]).t.size + _ <= _
 omega):G:=h
theorem ad6{G:Prop}(h:G:=by
 refine Ev.Side.of ?_
 show (IntKind.i64.wrap ((E.length:Int) - 1)).toNat < E.length
 rw [hw (by omega)];omega):G:=h
theorem OH (l:List Sp) (hl:l.length <= 100000000) (hb:bU l <= 1000000000):aH env 71 [.lst 3 (bM l)] (fun r hs=>r = .lst 3 (bM (norm l)) /\ hs = []):=by
 have hsl:=dw l
 have hmx:2000000003 <= maxLen:=by decide
 refine Ev.fn [0,2,3,4,5,6,11,25,40] 0 [.tmp 2] Tryd.func71 (ZY _ rfl) ?_
 repeat' (first | refine' Ev.zS | refine' Ev.zK | ((with_reducible refine Ev.jO ?_);(first | refine Ev.dr 8 [] [0,1,2,3,4,9,10,5,6,7,8,11,12] ?_);intro Q hQ;(simp only [Ev.aK,Ev.aT]);conv=>whnf) | ((with_reducible refine Ev.jO ?_);(first | refine Ev.drv 9 [] [(0,false),(1,false),(2,true),(3,false),(4,false),(5,true),(6,false),(7,false),(8,false),(9,false),(10,false),(11,true),(12,false),(13,false),(14,false)] ?_ | refine Ev.drv 10 [] [(0,false),(1,false),(2,true),(3,false),(4,false),(5,true),(6,false),(7,false),(8,false),(9,false),(10,false),(11,false),(12,false),(13,false),(14,false)] ?_);intro Q hQ;(simp only [Ev.zM,Ev.zN,Ev.FX]);conv=>whnf) | refine' Ev.zT | fail)
 refine Ev.loop (fun k s=>∃ (i v c:Nat) (E:List Sp),s = ⟨[(0,.lst 3 (bM l)),(2,nilA),(3,.own 512 v 0 E.length),(4,.v (.int .i64 i))],[(512,⟨3,35,v,0,false,bM E⟩)],c⟩ /\ k + i = l.length /\ E = gG l i) ?_ ?_
 · refine Ev.zB ⟨l.length,0,0,?_,[],rfl,?_⟩
   exact ⟨rfl,rfl⟩
 rintro k s1 ⟨i,v,c,E,rfl,hk,hE⟩
 have hln:=dw E
 have Z4:=oW l i
 rw [<- hE] at Z4
 have hw:0 < E.length -> IntKind.i64.wrap ((E.length:Int) - 1) = ((E.length - 1:Nat):Int):=fun h=>by rw [aY (by omega)];omega
 repeat' (first | refine' Ev.zS | refine' Ev.zK | ((refine Sv (by rw [dw,Nat.zero_add,hw (by omega)];omega) ?_);conv=>whnf) | ((with_reducible refine Ev.jO ?_);(first | refine Ev.dr 8 [] [0,1,2,3,4,9,10,5,6,7,8,11,12] ?_);intro Q hQ;(simp only [Ev.aK,Ev.aT]);conv=>whnf) | ((with_reducible refine Ev.jO ?_);(first | refine Ev.drv 9 [] [(0,false),(1,false),(2,true),(3,false),(4,false),(5,true),(6,false),(7,false),(8,false),(9,false),(10,false),(11,true),(12,false),(13,false),(14,false)] ?_ | refine Ev.drv 10 [] [(0,false),(1,false),(2,true),(3,false),(4,false),(5,true),(6,false),(7,false),(8,false),(9,false),(10,false),(11,false),(12,false),(13,false),(14,false)] ?_);intro Q hQ;(simp only [Ev.zM,Ev.zN,Ev.FX]);conv=>whnf) | refine' Ev.zT | fail)
 · have hi:i < l.length:=by omega
   have he:emptyS l[i] = true:=by simp [emptyS, *]
   refine Ev.zA (k - 1) ⟨i + 1,v,c + 8,E,rfl,?_⟩
   exact ⟨by omega,by rw [iY hi,<- hE,qI he]⟩
 · refine' aaj
 · have hi:i < l.length:=by omega
   refine' abg
 · refine' aar
 · refine' ad6
 · refine' aa5
 · refine' aaj
 · have hi:i < l.length:=by omega
   refine' abg
 · refine' aar
 · refine' ad6
 · refine' aa5
 · refine ⟨Ev.oN ?_,rfl⟩
   rw [List.drop_zero,List.take_of_length_le (by omega),hE,tX (by omega)]
theorem jX {l:List Sp} (h:bU l <= 1000000000):Small l:=by
 intro s hs
 have:s.t.size <= bU l:=by
   clear h
   induction l with
   | nil=>cases hs
   | cons x l ih =>
     rw [aG]
     rcases List.mem_cons.1 hs with rfl | h'
     · omega
     · have:=ih h';omega
 omega
end Go.Proofs.YtadlnaljicikfaaDoor.aB
namespace Go.Proofs.YtadlnaljicikfaaDoor.aB
open Go Go.Lib
theorem GL (l:List Sp):bU (norm l) <= bU l:=by
 have:=oZ l l.length
 rwa [tX (Nat.le_refl _),List.take_length] at this
theorem SC (l:List Sp):(norm l).length <= l.length:=by
 have:=oW l l.length
 rwa [tX (Nat.le_refl _)] at this
theorem OJ {l:List Sp} {b:Nat} (h:∀ s ∈ l,s.t.size <= b):bU l <= b * l.length:=by
 induction l with
 | nil=>simp [bU]
 | cons s l ih =>
   have h1:=h s (by simp)
   have h2:=ih (fun x hx=>h x (by simp [hx]))
   rw [aG,List.length_cons,Nat.mul_succ];omega
theorem SE {l:List Sp} (h:aF l = 0) (hl:l.length <= 65536) (ht:bU l <= 65536):KC (norm l) = 0 /\ (norm l).length <= l.length /\ bU (norm l) <= 65536:=by
 have h1:=GL l
 have h2:=SC l
 obtain ⟨h3,h4⟩:=(eP l).1 h
 refine ⟨RY (Gw h (by omega)) (nK l h3 ?_) (by omega) (fun s hs=>by have:=KJ hs;omega),h2,by omega⟩
 rw [<- jf h3 (by omega)];exact h4
theorem vG (l:List Sp) {n:Int} (hn:0 <= n /\ n <= 1048576):(jq l n).length <= 13 /\ bU (jq l n) <= 312:=by
 obtain ⟨h1,h2,h3⟩:=qF l hn
 have:=OJ (b:=24) (fun s hs=>(h1 s hs).2.1)
 omega
theorem GN (l:List Sp) {n:Int} (hn:0 <= n /\ n <= 1048576):KC (norm (jq l n)) = 0 /\ (norm (jq l n)).length <= 13 /\ bU (norm (jq l n)) <= 312:=by
 obtain ⟨h1,h2⟩:=vG l hn
 obtain ⟨a,b,c⟩:=SE (Gq l hn) (by omega) (by omega)
 have:=GL (jq l n)
 exact ⟨a,by omega,by omega⟩
theorem Wx {s:Sp} (h:aZ s) (ht:s.t.size <= 24):bZ s <= dh s + 24 /\ 0 <= bZ s:=by
 rcases h.cases with ⟨a,b,c,_⟩ | ⟨a,b,c⟩
 · have hi:dh s = s.n:=by unfold aB.dh sQ;rw [if_pos a]
   rcases a with a | a
   · have ho:bZ s = s.n:=by unfold bZ jk;rw [if_pos a]
     omega
   · have ho:bZ s = 0:=by unfold bZ jk;rw [if_neg (by omega),if_neg (by omega)]
     omega
 · have ho:bZ s = max (aI s.t.data.toList) 0:=by unfold bZ jk;rw [if_neg (by omega),if_pos a]
   have hi:dh s = 0:=by unfold aB.dh sQ;rw [if_neg (by omega)]
   rw [cu c] at ho
   have:=ru s.t.data.toList
   rw [bn] at this;omega
theorem Wy {l:List Sp} (h:∀ s ∈ l,aZ s /\ s.t.size <= 24):aS bZ l <= aS dh l + 24 * l.length /\ 0 <= aS bZ l:=by
 induction l with
 | nil=>simp [aS]
 | cons s l ih =>
   have h1:=Wx (h s (by simp)).1 (h s (by simp)).2
   have h2:=ih (fun x hx=>h x (by simp [hx]))
   rw [aV,aV,List.length_cons];omega
theorem KL (l:List Sp) {n:Int} (hn:0 <= n /\ n <= 1048576):0 <= outW (jq l n) /\ outW (jq l n) <= n + 312:=by
 obtain ⟨h1,h2,h3⟩:=qF l hn
 have h4:=Wy (l:=jq l n) (fun s hs=>⟨(h1 s hs).1,(h1 s hs).2.1⟩)
 rw [iF,aY (by omega)];omega
def chS (p:List (List Sp) × Int) (x:List Sp):List (List Sp) × Int:=(p.1 ++ [jq x p.2],outW (jq x p.2))
def AU (l:List (List Sp)) (n:Int) (i:Nat):List (List Sp) × Int:=(l.take i).foldl chS ([],n)
theorem Aj {l:List (List Sp)} {n:Int} {i:Nat} (hi:i < l.length):AU l n (i + 1) = chS (AU l n i) l[i]:=by
 unfold AU;rw [List.take_succ_eq_append_getElem hi,List.foldl_append];rfl
theorem yK (l:List (List Sp)) {n:Int} (hn:0 <= n /\ n <= 1000):∀ i,i <= 20 -> 0 <= (AU l n i).2 /\ (AU l n i).2 <= n + 312 * i /\ (AU l n i).1.length <= i /\ (i <= l.length -> (AU l n i).1.length = i)
 | 0,_=>by simp [AU];omega
 | i + 1,h=>by
   obtain ⟨a,b,c,d⟩:=yK l hn i (by omega)
   by_cases hi:i < l.length
   · have e:=KL l[i] (n:=(AU l n i).2) (by omega)
     rw [Aj hi]
     simp only [chS,List.length_append,List.length_singleton]
     omega
   · have e:AU l n (i + 1) = AU l n i:=by unfold AU;rw [List.take_of_length_le (by omega),List.take_of_length_le (by omega)]
     rw [e];omega
def OL (l:List (List Sp)) (n:Int):List (List Sp):=(AU l n 20).1
theorem WA {l:List (List Sp)} {n:Int} {i:Nat} (h:l.length <= i ∨ i = 20) (h':i <= 20):(AU l n i).1 = OL l n:=by
 rcases h with h | rfl
 · unfold OL AU;rw [List.take_of_length_le h,List.take_of_length_le (by omega)]
 · rfl
def Z5:Int -> List (List Sp) -> Prop
 | _,[]=>True
 | n,x :: l=>(∃ y m,x = jq y m /\ 0 <= m /\ m <= 10000) /\ jK x = n /\ Z5 (outW x) l
def iT:Int -> List (List Sp) -> Int
 | n,[]=>n
 | _,x :: l=>iT (outW x) l
theorem KN:∀ (l:List (List Sp)) (n:Int) (x:List Sp),Z5 n l -> (∃ y m,x = jq y m /\ 0 <= m /\ m <= 10000) -> jK x = iT n l -> Z5 n (l ++ [x]) /\ iT n (l ++ [x]) = outW x
 | [],n,x,_,h,h'=>⟨⟨h,h',trivial⟩,rfl⟩
 | y :: l,n,x,⟨a,b,c⟩,h,h'=>by
   obtain ⟨e,f⟩:=KN l (outW y) x c h h'
   exact ⟨⟨a,b,e⟩,f⟩
theorem KO (l:List (List Sp)) {n:Int} (hn:0 <= n /\ n <= 1000):∀ i,i <= 20 -> Z5 n (AU l n i).1 /\ iT n (AU l n i).1 = (AU l n i).2
 | 0,_=>⟨trivial,rfl⟩
 | i + 1,h=>by
   obtain ⟨a,b⟩:=KO l hn i (by omega)
   obtain ⟨c,d,_⟩:=yK l hn i (by omega)
   by_cases hi:i < l.length
   · rw [Aj hi]
     exact KN _ _ _ a ⟨_,_,rfl,c,by omega⟩ (by rw [b];exact Kw _ (by omega))
   · have e:AU l n (i + 1) = AU l n i:=by unfold AU;rw [List.take_of_length_le (by omega),List.take_of_length_le (by omega)]
     rw [e];exact ⟨a,b⟩
theorem Ez (l:List (List Sp)) {n:Int} (hn:0 <= n /\ n <= 1000):Z5 n (OL l n) /\ (OL l n).length <= 20:=⟨(KO l hn 20 (by omega)).1,(yK l hn 20 (by omega)).2.2.1⟩
theorem yL:∀ {l:List (List Sp)} {n:Int},Z5 n l -> ∀ x ∈ l,∃ y m,x = jq y m /\ 0 <= m /\ m <= 10000
 | [],_,_,x,hx=>by cases hx
 | y :: l,n,⟨a,b,c⟩,x,hx=>by
   rcases List.mem_cons.1 hx with rfl | h
   · exact a
   · exact yL c x h
end Go.Proofs.YtadlnaljicikfaaDoor.aB
namespace Go.Proofs.YtadlnaljicikfaaDoor.aB
open Go
set_option maxRecDepth 100000
attribute [local irreducible] Ev.gV Ev.iy Ev.bC Ev.runK Ev.bD Ev.fD Ev.Side Ev.Wp Ev.Again Ev.To Ev.Fin
open Go.Lib Go.RowKit
theorem Z7:∀ c,Tryd.f69.body = some c -> comp c = (.seq (.reg 0 [I.n 0 4 I.sn]) (.seq (.reg 1 [I.n 0 8 (.buildSlice 22 0 #[]),I.n 1 5 (I.sa 8)]) (.seq (.seq (.reg 2 [I.n 0 6 (I.si 0)]) (.block 0 (.loop (.seq (.seq (.reg 3 [I.n 0 9 (I.mv 6),I.n 1 10 (I.mv 0),I.n 2 11 (I.ln 10 22),I.n 3 12 (I.bo .lss 3 9 11 3),I.n 4 13 (I.mv 12),I.w 5 14 (I.mv 6) 13 true,I.w 6 15 (I.bc .lss 3 14 20 3) 13 true,I.n 7 16 (I.pc 13 15 false)]) (.cond (.tmp 16) .skip (.exit 0))) (.seq (.block 1 (.seq (.reg 5 [I.n 0 19 (I.mv 0),I.n 1 20 (I.mv 6),I.n 2 21 (I.ia 22 19 20),I.n 3 22 (I.ld 23 21),I.n 4 23 (I.mv 1),I.n 5 24 (I.c2 31 22 23 23 3),I.n 6 7 (I.sa 24)]) (.seq (.reg 6 [I.n 0 25 (I.mv 5),I.n 1 26 (I.mv 7),I.n 2 27 (I.b1 22 26),I.n 3 28 (I.ap 25 27 22 22),I.n 4 5 (I.sa 28)]) (.reg 7 [I.n 0 29 (I.mv 7),I.n 1 30 (I.c1 102 29 23),I.n 2 1 (I.sa 30)])))) (.reg 4 [I.n 0 17 (I.mv 6),I.n 1 18 (I.bc .add 3 17 1 3),I.n 2 6 (I.sa 18)])))))) (.seq (.reg 8 [I.n 0 31 (I.mv 5),I.n 1 4 (I.sa 31)]) .ret)))):=by
 intro c h
 have:c = Tryd.f69.body.get rfl:=by rw [<- Option.some_inj,<- h];rfl
 rw [this];rfl
def aJ (l:List (List Sp)):List (List AV):=l.map fun x=>[.lst 3 (bM x)]
@[simp] theorem bK (l:List (List Sp)):(aJ l).length = l.length:=by simp [aJ]
theorem wU (a b:List (List Sp)):aJ (a ++ b) = aJ a ++ aJ b:=by simp [aJ]
theorem GR (l:List (List Sp)) (n:Int) (hn:0 <= n /\ n <= 1000):aH env 69 [.lst 1 (aJ l),.v (.int .i64 n)] (fun r hs=>r = .lst 1 (aJ (OL l n)) /\ hs = []):=by
 have hrl:=bK l
 refine Ev.fn [0,1,4,5,6,7,16] 0 [.tmp 4] Tryd.func69 (Z7 _ rfl) ?_
 refine' Ev.zW
 refine Ev.loop (fun k s=>∃ (i v c:Nat) (E:List (List Sp)) (m:Int),s = ⟨[(0,.lst 1 (aJ l)),(1,.v (.int .i64 m)),(4,nilA),(5,.own 512 v 0 E.length),(6,.v (.int .i64 i))],[(512,⟨1,23,v,0,false,aJ E⟩)],c⟩ /\ k + i = 20 /\ i <= l.length /\ (E,m) = AU l n i) ?_ ?_
 · refine Ev.zB ⟨20,0,?_,?_,[],n,rfl,?_⟩
   exact ⟨by omega,by omega,rfl⟩
 rintro k s1 ⟨i,v,c,E,m,rfl,hk,hi',hE⟩
 obtain ⟨c1,c2,c3,c4⟩:=yK l hn i (by omega)
 rw [<- hE] at c1 c2 c3 c4
 simp only at c1 c2 c3 c4
 have hel:=bK E
 have hlen:=c4 hi'
 repeat' (first | refine' Ev.zS | refine' Ev.zK | ((with_reducible refine Ev.ca0 ?_);(first | refine Ev.aO (CP _ m (by omega)) rfl rfl ?_ | refine Ev.aO (zZ (jq _ m) (by have:=(vG l[i] (n:=m) (by omega)).1;omega) (Aa _ (by omega))) rfl rfl ?_ | refine Ev.ca (CP _ m (by omega)) ?_ | refine Ev.ca (zZ (jq _ m) (by have:=(vG l[i] (n:=m) (by omega)).1;omega) (Aa _ (by omega))) ?_);conv=>whnf) | refine' Ev.zT | fail)
 · have hi:i < l.length:=by assumption
   refine Ev.zA (k - 1) ⟨i + 1,?_,?_,E ++ [jq l[i] m],outW (jq l[i] m),rfl,?_⟩ (by refine' Ev.zp <;> first | (first | exact wrap_succ (by omega) | (rw [wU];rfl) | (simp;done) | rfl) | rfl | (refine' Ev.ze;(first | exact wrap_succ (by omega) | (rw [wU];rfl) | (simp;done) | rfl)) | fail)
   exact ⟨by omega,by omega,by rw [Aj hi,<- hE];rfl⟩
 all_goals
   have he:=WA (l:=l) (n:=n) (i:=i) (by omega) (by omega)
   rw [<- hE] at he
   refine ⟨Ev.oN (Ev.kV (by omega) ?_),rfl⟩
   exact congrArg aJ he
theorem Z8:∀ c,Tryd.f48.body = some c -> comp c = (.seq (.reg 0 [I.n 0 2 I.sn,I.n 1 3 (I.si 0)]) (.seq (.seq (.reg 1 [I.n 0 9 (I.mv 0),I.n 1 10 (I.ln 9 25),I.n 2 11 (I.bc .eql 3 10 0 3),I.n 3 12 (I.mv 11),I.w 4 13 (I.mv 0) 12 false,I.w 5 14 (I.ln 13 25) 12 false,I.w 6 15 (I.bc .gtr 3 14 65536 3) 12 false,I.n 7 16 (I.pb 12 true 15)]) (.cond (.tmp 16) (.seq (.reg 2 [I.n 0 2 I.sn,I.n 1 3 (I.si 2)]) .ret) .skip)) (.seq (.reg 3 [I.n 0 4 (.alloc 124)]) (.seq (.reg 4 [I.n 0 17 (.makeFunc (.func 96) #[.tmp 4] #[]),I.n 1 5 (I.sa 17)]) (.seq (.reg 5 [I.n 0 18 (I.mv 5),I.n 1 19 (I.mv 0),I.n 2 20 (I.ln 19 25),I.n 3 21 (.call { callee:=.value (.tmp 18),args:=#[.tmp 20],argTypes:=#[3] })]) (.seq (.reg 6 [I.n 0 6 (.assign (.const (Value.int .i64 (-1))))]) (.seq (.seq (.reg 7 [I.n 0 22 (I.mv 0),I.n 1 23 (I.ln 22 25),I.n 2 24 (.move (.const (Value.int .i64 0)))]) (.block 0 (.loop (.seq (.reg 8 [I.n 0 25 (I.bo .lss 3 24 23 3)]) (.seq (.cond (.tmp 25) .skip (.exit 0)) (.seq (.block 1 (.seq (.reg 9 [I.n 0 26 (I.ia 25 22 24),I.n 1 27 (I.ld 3 26),I.n 2 8 (I.sa 27)]) (.seq (.seq (.reg 10 [I.n 0 28 (I.mv 8),I.n 1 29 (I.mv 6),I.n 2 30 (I.bo .leq 3 28 29 3),I.n 3 31 (I.mv 30),I.w 4 32 (I.mv 8) 31 false,I.w 5 33 (I.bc .gtr 3 32 268435455 3) 31 false,I.n 6 34 (I.pb 31 true 33)]) (.cond (.tmp 34) (.seq (.reg 11 [I.n 0 2 I.sn,I.n 1 3 (I.si 2)]) .ret) .skip)) (.seq (.reg 12 [I.n 0 35 (I.mv 5),I.n 1 36 (I.mv 8),I.n 2 37 (I.mv 6),I.n 3 38 (I.bo .sub 3 36 37 3),I.n 4 39 (I.bc .sub 3 38 1 3),I.n 5 40 (.call { callee:=.value (.tmp 35),args:=#[.tmp 39],argTypes:=#[3] })]) (.reg 13 [I.n 0 41 (I.mv 8),I.n 1 6 (I.sa 41)]))))) (.reg 14 [I.n 0 42 (I.bc .add 3 24 1 3),I.n 1 24 (I.mv 42)]))))))) (.seq (.reg 15 [I.n 0 43 (I.fa 124 4 0),I.n 1 44 (I.ld 56 43),I.n 2 2 (I.sa 44),I.n 3 3 (I.si 0)]) .ret)))))))):=by
 intro c h
 have:c = Tryd.f48.body.get rfl:=by rw [<- Option.some_inj,<- h];rfl
 rw [this];rfl
theorem SG:∀ c,Tryd.f96.body = some c -> comp c = (.seq (.reg 0 [I.n 0 7 (I.mv 1),I.n 1 8 (I.c1 98 7 3),I.n 2 6 (I.mv 8),I.n 3 9 (I.ex 6 0),I.n 4 10 (I.ex 6 1),I.n 5 4 (I.sa 9),I.n 6 5 (I.sa 10)]) (.reg 1 [I.n 0 11 (I.mv 0),I.n 1 12 (I.mv 0),I.n 2 13 (I.nc 12),I.n 3 14 (I.fa 124 13 0),I.n 4 15 (I.ld 56 14),I.n 5 16 (I.mv 4),I.n 6 17 (I.ap 15 16 56 56),I.n 7 18 (I.nc 11),I.n 8 19 (I.fa 124 18 0),I.u 9 (I.st 56 19 17)])):=by
 intro c h
 have:c = Tryd.f96.body.get rfl:=by rw [<- Option.some_inj,<- h];rfl
 rw [this];rfl
def Df (l:List Int):AV:=if qH l = 0 then .dD [.lst 1 (qP (encR l)),.v (.int .i64 0)] else .dD [nilA,.v (.int .i64 2)]
@[simp] theorem ig (l:List Int):(ints l).length = l.length:=by simp [ints]
def iq (was:Int) (l:List Int):Int:=l.getLast?.getD was
theorem Ak (was:Int) (l:List Int) (x:Int):iq was (l ++ [x]) = x:=by simp [iq]
theorem tY (was x:Int) (l:List Int):iq was (x :: l) = iq x l:=by
 cases l with
 | nil=>rfl
 | cons y l=>simp [iq,List.getLast?_cons]
theorem Dh:∀ (l:List Int) (was x:Int),rowB was (l ++ [x]) = rowB was l ++ oU (x - iq was l - 1).toNat
 | [],was,x=>by simp [rowB,iq]
 | y :: l,was,x=>by rw [List.cons_append];simp only [rowB];rw [Dh l,tY,List.append_assoc]
theorem l9:∀ (l:List Int) (was x:Int),fA was (l ++ [x]) = (fA was l && (decide (iq was l < x) && decide (x <= 268435455)))
 | [],was,x=>by simp only [List.nil_append,fA,iq,List.getLast?_nil,Option.getD_none,Bool.and_true,Bool.true_and];rfl
 | y :: l,was,x=>by rw [List.cons_append];simp only [fA];rw [l9 l,tY];simp only [Bool.and_assoc]
theorem Am:∀ (l:List Int) (was:Int),fA was l = true -> was <= iq was l /\ (iq was l <= was ∨ iq was l <= 268435455)
 | [],was,_=>by simp [iq]
 | y :: l,was,h=>by
   simp only [fA,Bool.and_eq_true,decide_eq_true_eq] at h
   have:=Am l y h.2
   rw [tY];omega
theorem xR:∀ (l:List Int) (was:Int) (i:Nat),fA was l = true -> fA was (l.take i) = true
 | l,was,0,_=>by simp [fA]
 | [],was,i + 1,_=>by simp [fA]
 | y :: l,was,i + 1,h=>by
   simp only [fA,Bool.and_eq_true] at h
   rw [List.take_succ_cons]
   simp only [fA,Bool.and_eq_true]
   exact ⟨h.1,xR l y i h.2⟩
theorem Di {x w:Int} (h1:w < x) (h2:x <= 268435455) (h3 : -1 <= w):aH env 98 [.v (.int .i64 (IntKind.i64.wrap (IntKind.i64.wrap (x - w) - 1)))] (fun r hs=>r = .dD [.lst 1 (qP (oU (x - w - 1).toNat)),.v (.int .i64 0)] /\ hs = []):=by
 rw [aY (a:=x - w) (by omega),aY (by omega)]
 exact Eu (by omega)
def jQ (l:List Int) (i:Nat):List UInt8:=oU l.length ++ rowB (-1) (l.take i)
theorem JH {l:List Int} {i:Nat} (hi:i < l.length):jQ l (i + 1) = jQ l i ++ oU (l[i] - iq (-1) (l.take i) - 1).toNat:=by
 unfold jQ;rw [List.take_succ_eq_append_getElem hi,Dh,List.append_assoc]
theorem OM {l:List Int} {i:Nat} (hi:l.length <= i):jQ l i = encR l:=by
 unfold jQ encR;rw [List.take_of_length_le hi]
theorem GU:∀ (l:List Int) (was:Int),-1 <= was -> fA was l = true -> (rowB was l).length <= 4 * l.length
 | [],was,_,_=>by simp [rowB]
 | y :: l,was,h1,h=>by
   simp only [fA,Bool.and_eq_true,decide_eq_true_eq] at h
   have:=GU l y (by omega) h.2
   have:=(vC (n:=(y - was - 1).toNat) (by omega)).2
   simp only [rowB,List.length_append,List.length_cons];omega
theorem OO {l:List Int} {i:Nat} (hl:l.length <= 65536) (h:fA (-1) (l.take i) = true):(jQ l i).length <= 300000:=by
 have h1:=GU _ (-1) (by omega) h
 have h2:=(vC (n:=l.length) (by omega)).2
 have h3:(l.take i).length <= l.length:=by rw [List.length_take];omega
 unfold jQ;rw [List.length_append];omega
theorem rF {l:List Int} (h:rises l = false):Df l = .dD [nilA,.v (.int .i64 2)]:=by
 unfold Df qH;rw [h];rfl
theorem SH {l:List Int} (h:rises l = true):Df l = .dD [.lst 1 (qP (encR l)),.v (.int .i64 0)]:=by
 unfold Df qH;rw [h];rfl
theorem Ap {l:List Int} (h:l.length = 0 ∨ 65536 < l.length):rises l = false:=by
 unfold rises
 rcases h with h | h
 · rw [List.eq_nil_of_length_eq_zero h];rfl
 · rw [decide_eq_false (by omega)];simp
theorem GV {l:List Int} {i:Nat} (hi:i < l.length) (h:l[i] <= iq (-1) (l.take i) ∨ 268435455 < l[i]):rises l = false:=by
 cases hr:rises l with
 | false=>rfl
 | true =>
   unfold rises at hr
   simp only [Bool.and_eq_true] at hr
   have:=xR l (-1) (i + 1) hr.2
   rw [List.take_succ_eq_append_getElem hi,l9] at this
   simp at this;omega
theorem OQ (l:List Int) (hl:l.length <= 100000000):aH env 48 [.lst 1 (ints l)] (fun r hs=>r = Df l /\ hs = []):=by
 have hil:=ig l
 have hmx:2000000003 <= maxLen:=by decide
 refine Ev.fn [0,2,3,4,5,6,8,16,22,23,24,25,34] 0 [.tmp 2,.tmp 3] Tryd.func48 (Z8 _ rfl) ?_
 repeat' (first | refine' Ev.zS | ((with_reducible refine Ev.kr (hs:=[96]) (fun Q hQ=>?_));refine' Ev.zR) | ((with_reducible refine Ev.jJ 96 ?_);refine Ev.il 96 [0,1,4] [] Tryd.func96 (SG _ rfl) (fun aN=>?_)) | ((with_reducible refine Ev.ca0 ?_);(first | refine Ev.aO (Eu (show 0 <= ((ints l).length:Int) /\ ((ints l).length:Int) <= 268435455 by omega)) rfl rfl ?_ | refine Ev.ca (Eu (show 0 <= ((ints l).length:Int) /\ ((ints l).length:Int) <= 268435455 by omega)) ?_);conv=>whnf) | refine' Ev.zT | fail)
 · exact ⟨(rF (Ap (by omega))).symm,rfl⟩
 · exact ⟨(rF (Ap (by omega))).symm,rfl⟩
 · have hl6:l.length <= 65536:=by omega
   have h0:0 < l.length:=by omega
   have e0:qP (oU (((ints l).length:Nat):Int).toNat) = qP (jQ l 0):=by rw [Int.toNat_natCast,hil];simp [jQ,rowB]
   refine Ev.loop (fun k s=>∃ i c v:Nat,s = ⟨[(0,.lst 1 (ints l)),(2,nilA),(3,.v (.int .i64 0)),(4,.ptr 1536 0 0 0),(5,.clo (.func 96) [.ptr 1536 0 0 0] []),(6,.v (.int .i64 (iq (-1) (l.take i)))),(22,.lst 1 (ints l)),(23,.v (.int .i64 (ints l).length)),(24,.v (.int .i64 i))],
     [(1536,⟨1,124,0,0,true,[[.own 169411120 v 0 (jQ l i).length]]⟩),(169411120,⟨1,5,v,0,false,qP (jQ l i)⟩)],c⟩ /\ k + i = l.length /\ fA (-1) (l.take i) = true) ?_ ?_
   · have e1:(qP (oU (((ints l).length:Nat):Int).toNat)).length = (jQ l 0).length:=by rw [e0,yD]
     refine Ev.zB ⟨l.length,0,?_,aN,rfl,?_⟩ (by refine' Ev.zp <;> first | (first | (exact congrArg (fun n=>au.mk 1 124 0 0 true [[AV.own 169411120 _ 0 n]]) e1) | (exact congrArg (fun n=>au.mk 1 5 _ 0 false n) e0) | (simp [iq];done) | rfl) | rfl | (refine' Ev.ze;(first | (exact congrArg (fun n=>au.mk 1 124 0 0 true [[AV.own 169411120 _ 0 n]]) e1) | (exact congrArg (fun n=>au.mk 1 5 _ 0 false n) e0) | (simp [iq];done) | rfl)) | fail)
     exact ⟨by omega,by simp [fA]⟩
   rintro k s1 ⟨i,c,v,rfl,hk,hr⟩
   have hrl:=Am _ _ hr
   have hle:=OO (l:=l) (i:=i) hl6 hr
   repeat' (first | refine' Ev.zS | ((with_reducible refine Ev.kr (hs:=[96]) (fun Q hQ=>?_));refine' Ev.zR) | ((with_reducible refine Ev.jJ 96 ?_);refine Ev.il 96 [0,1,4] [] Tryd.func96 (SG _ rfl) (fun aN=>?_)) | ((with_reducible refine Ev.ca0 ?_);(first | refine Ev.aO (Di (by omega) (by omega) hrl.1) rfl rfl ?_ | refine Ev.ca (Di (by omega) (by omega) hrl.1) ?_);conv=>whnf) | refine' Ev.zT | fail)
   · exact ⟨(rF (GV (by assumption) (by omega))).symm,rfl⟩
   · exact ⟨(rF (GV (by assumption) (by omega))).symm,rfl⟩
   · have hi:i < l.length:=by assumption
     have hsu:=JH hi
     have e1:(jQ l i).length + (qP (oU (l[i] - iq (-1) (l.take i) - 1).toNat)).length = (jQ l (i + 1)).length:=by rw [hsu];simp
     have e2:qP (jQ l i) ++ qP (oU (l[i] - iq (-1) (l.take i) - 1).toNat) = qP (jQ l (i + 1)):=by rw [hsu,yF]
     have e3:iq (-1) (l.take (i + 1)) = l[i]:=by rw [List.take_succ_eq_append_getElem hi,Ak]
     refine Ev.zA (k - 1) ⟨i + 1,?_,aN,rfl,?_⟩ (by refine' Ev.zp <;> first | (first | (exact congrArg (fun n=>au.mk 1 124 0 0 true [[AV.own 169411120 _ 0 n]]) e1) | (exact congrArg (fun n=>au.mk 1 5 _ 0 false n) e2) | exact wrap_succ (by omega) | exact e3.symm | (rw [e3];done) | rfl) | rfl | (refine' Ev.ze;(first | (exact congrArg (fun n=>au.mk 1 124 0 0 true [[AV.own 169411120 _ 0 n]]) e1) | (exact congrArg (fun n=>au.mk 1 5 _ 0 false n) e2) | exact wrap_succ (by omega) | exact e3.symm | (rw [e3];done) | rfl)) | fail)
     refine ⟨by omega,?_⟩
     rw [List.take_succ_eq_append_getElem hi,l9,hr]
     simp;omega
   · have:=(vC (n:=(l[i] - iq (-1) (l.take i) - 1).toNat) (by omega)).2
     refine Ev.wH (by simp) (yE _) ?_ (by decide)
     rw [yD];omega
   · have hR:rises l = true:=by
       rw [List.take_of_length_le (by omega)] at hr
       unfold rises
       rw [hr,decide_eq_true hl6]
       cases l with
       | nil=>simp at h0
       | cons x l=>rfl
     refine ⟨?_,rfl⟩
     rw [SH hR,OM (by omega)]
     exact Ev.yG (Ev.oN (Ev.kV (by simp) rfl)) rfl
 · have:=(vC (n:=l.length) (by omega)).2
   refine Ev.Side.of ⟨yE _,?_,?_⟩
   · rw [yD,Int.toNat_natCast,hil];omega
   · rw [yD,Int.toNat_natCast,hil];omega
theorem Z9:∀ c,Tryd.f95.body = some c -> comp c = (.seq (.reg 0 [I.n 0 1 (.box 27 (.tmp 0)),I.n 1 2 I.sn,I.n 2 3 (I.si 0)]) (.seq (.reg 1 [I.n 0 12 (I.fa 27 1 0),I.n 1 13 (I.ld 9 12),I.n 2 14 (I.c1 32 13 9),I.n 3 4 (.alloc 3),I.u 4 (I.st 3 4 14)]) (.seq (.reg 2 [I.n 0 16 (I.fa 27 1 1),I.n 1 17 (I.ld 25 16),I.n 2 18 (I.c1 48 17 25),I.n 3 15 (I.mv 18),I.n 4 19 (I.ex 15 0),I.n 5 20 (I.ex 15 1),I.n 6 6 (.alloc 30),I.n 7 5 (I.sa 19),I.u 8 (I.st 30 6 20)]) (.seq (.reg 3 [I.n 0 21 (.makeFunc (.func 135) #[] #[.tmp 4]),I.n 1 22 (.call { callee:=.value (.func 134),args:=#[.tmp 21,.const (Value.int .i64 3)],argTypes:=#[24,30] }),I.n 2 23 (.makeFunc (.func 136) #[] #[.tmp 4]),I.n 3 24 (.call { callee:=.value (.func 134),args:=#[.tmp 23,.const (Value.int .i64 4)],argTypes:=#[24,30] }),I.n 4 25 (.makeFunc (.func 137) #[] #[.tmp 6,.tmp 1]),I.n 5 26 (.call { callee:=.value (.func 134),args:=#[.tmp 25,.const (Value.int .i64 6)],argTypes:=#[24,30] }),I.n 6 27 (.buildSlice 177 3 #[(0,.tmp 22),(1,.tmp 24),(2,.tmp 26)]),I.n 7 28 (I.c1 133 27 177),I.n 8 7 (I.sa 28)]) (.seq (.seq (.reg 4 [I.n 0 29 (I.mv 7),I.n 1 30 (I.bc .neq 30 29 0 30)]) (.cond (.tmp 30) (.seq (.reg 5 [I.n 0 31 (I.mv 7),I.n 1 2 I.sn,I.n 2 3 (I.sa 31)]) .ret) .skip)) (.seq (.reg 6 [I.n 0 32 (I.ld 3 4),I.n 1 33 (I.b1 25 32),I.n 2 8 (I.sa 33)]) (.seq (.seq (.reg 7 [I.n 0 34 (I.fa 27 1 2),I.n 1 35 (I.ld 22 34),I.n 2 36 (I.ln 35 22),I.n 3 37 (.move (.const (Value.int .i64 0)))]) (.block 0 (.loop (.seq (.reg 8 [I.n 0 38 (I.bo .lss 3 37 36 3)]) (.seq (.cond (.tmp 38) .skip (.exit 0)) (.seq (.block 1 (.seq (.reg 9 [I.n 0 39 (I.ia 22 35 37),I.n 1 40 (I.ld 23 39),I.n 2 10 (.alloc 23),I.u 3 (I.st 23 10 40)]) (.seq (.reg 10 [I.n 0 41 (.makeFunc (.func 138) #[] #[.tmp 10]),I.n 1 42 (.makeFunc (.func 139) #[] #[.tmp 10,.tmp 4]),I.n 2 43 (.call { callee:=.value (.func 134),args:=#[.tmp 42,.const (Value.int .i64 5)],argTypes:=#[24,30] }),I.n 3 44 (.makeFunc (.func 140) #[] #[.tmp 10]),I.n 4 45 (.call { callee:=.value (.func 134),args:=#[.tmp 44,.const (Value.int .i64 4)],argTypes:=#[24,30] }),I.n 5 46 (.makeFunc (.func 141) #[] #[.tmp 10]),I.n 6 47 (.call { callee:=.value (.func 134),args:=#[.tmp 46,.const (Value.int .i64 8)],argTypes:=#[24,30] }),I.n 7 48 (.buildSlice 177 4 #[(0,.tmp 41),(1,.tmp 43),(2,.tmp 45),(3,.tmp 47)]),I.n 8 49 (I.c1 133 48 177),I.n 9 11 (I.sa 49)]) (.seq (.seq (.reg 11 [I.n 0 50 (I.mv 11),I.n 1 51 (I.bc .neq 30 50 0 30)]) (.cond (.tmp 51) (.seq (.reg 12 [I.n 0 52 (I.mv 11),I.n 1 2 I.sn,I.n 2 3 (I.sa 52)]) .ret) .skip)) (.seq (.reg 13 [I.n 0 53 (I.ld 23 10),I.n 1 54 (I.c1 73 53 23),I.u 2 (I.st 3 4 54)]) (.reg 14 [I.n 0 55 (I.mv 8),I.n 1 56 (I.ld 3 4),I.n 2 57 (I.b1 25 56),I.n 3 58 (I.ap 55 57 25 25),I.n 4 8 (I.sa 58)])))))) (.reg 15 [I.n 0 59 (I.bc .add 3 37 1 3),I.n 1 37 (I.mv 59)]))))))) (.seq (.reg 16 [I.n 0 60 (I.mv 8),I.n 1 2 (I.sa 60),I.n 2 3 (I.si 0)]) .ret)))))))):=by
 intro c h
 have:c = Tryd.f95.body.get rfl:=by rw [<- Option.some_inj,<- h];rfl
 rw [this];rfl
theorem KP:∀ c,Tryd.f133.body = some c -> comp c = (.seq (.reg 0 [I.n 0 2 (I.si 0)]) (.seq (.seq (.reg 1 [I.n 0 6 (I.mv 0),I.n 1 7 (I.ln 6 177),I.n 2 8 (.move (.const (Value.int .i64 0)))]) (.block 0 (.loop (.seq (.reg 2 [I.n 0 9 (I.bo .lss 3 8 7 3)]) (.seq (.cond (.tmp 9) .skip (.exit 0)) (.seq (.block 1 (.seq (.reg 3 [I.n 0 10 (I.ia 177 6 8),I.n 1 11 (I.ld 155 10),I.n 2 4 (I.sa 11)]) (.seq (.reg 4 [I.n 0 12 (I.mv 4),I.n 1 13 (.call { callee:=.value (.tmp 12),args:=#[],argTypes:=#[] }),I.n 2 5 (I.sa 13)]) (.seq (.reg 5 [I.n 0 14 (I.mv 5),I.n 1 15 (I.bc .neq 30 14 0 30)]) (.cond (.tmp 15) (.seq (.reg 6 [I.n 0 16 (I.mv 5),I.n 1 2 (I.sa 16)]) .ret) .skip))))) (.reg 7 [I.n 0 17 (I.bc .add 3 8 1 3),I.n 1 8 (I.mv 17)]))))))) (.seq (.reg 8 [I.n 0 2 (I.si 0)]) .ret))):=by
 intro c h
 have:c = Tryd.f133.body.get rfl:=by rw [<- Option.some_inj,<- h];rfl
 rw [this];rfl
theorem KQ:∀ c,Tryd.f134.body = some c -> comp c = (.seq (.reg 0 [I.n 0 2 (.box 24 (.tmp 0)),I.n 1 3 (.box 30 (.tmp 1)),I.n 2 4 (.assign (.const Value.nilFunc))]) (.seq (.reg 1 [I.n 0 5 (.makeFunc (.func 160) #[] #[.tmp 2,.tmp 3]),I.n 1 4 (I.sa 5)]) .ret)):=by
 intro c h
 have:c = Tryd.f134.body.get rfl:=by rw [<- Option.some_inj,<- h];rfl
 rw [this];rfl
theorem KR:∀ c,Tryd.f160.body = some c -> comp c = (.seq (.reg 0 [I.n 0 2 (I.si 0)]) (.seq (.seq (.reg 1 [I.n 0 3 (I.ld 24 0),I.n 1 4 (.call { callee:=.value (.tmp 3),args:=#[],argTypes:=#[] })]) (.cond (.tmp 4) (.seq (.reg 2 [I.n 0 5 (I.ld 30 1),I.n 1 2 (I.sa 5)]) .ret) .skip)) (.seq (.reg 3 [I.n 0 2 (I.si 0)]) .ret))):=by
 intro c h
 have:c = Tryd.f160.body.get rfl:=by rw [<- Option.some_inj,<- h];rfl
 rw [this];rfl
theorem WB:∀ c,Tryd.f135.body = some c -> comp c = (.seq (.reg 0 [I.n 0 1 (I.sb false)]) (.seq (.reg 1 [I.n 0 2 (I.ld 3 0),I.n 1 3 (I.bc .lss 3 2 0 3),I.n 2 1 (I.sa 3)]) .ret)):=by
 intro c h
 have:c = Tryd.f135.body.get rfl:=by rw [<- Option.some_inj,<- h];rfl
 rw [this];rfl
theorem WC:∀ c,Tryd.f136.body = some c -> comp c = (.seq (.reg 0 [I.n 0 1 (I.sb false)]) (.seq (.reg 1 [I.n 0 2 (I.ld 3 0),I.n 1 3 (I.bc .gtr 3 2 1048576 3),I.n 2 1 (I.sa 3)]) .ret)):=by
 intro c h
 have:c = Tryd.f136.body.get rfl:=by rw [<- Option.some_inj,<- h];rfl
 rw [this];rfl
theorem WE:∀ c,Tryd.f137.body = some c -> comp c = (.seq (.reg 0 [I.n 0 2 (I.sb false)]) (.seq (.reg 1 [I.n 0 3 (I.ld 30 0),I.n 1 4 (I.bc .neq 30 3 0 30),I.n 2 5 (I.mv 4),I.w 3 6 (I.fa 27 1 1) 5 false,I.w 4 7 (I.ld 25 6) 5 false,I.w 5 8 (I.ln 7 25) 5 false,I.w 6 9 (I.fa 27 1 2) 5 false,I.w 7 10 (I.ld 22 9) 5 false,I.w 8 11 (I.ln 10 22) 5 false,I.w 9 12 (I.bc .add 3 11 1 3) 5 false,I.w 10 13 (I.bo .neq 3 8 12 3) 5 false,I.n 11 14 (I.pb 5 true 13),I.n 12 2 (I.sa 14)]) .ret)):=by
 intro c h
 have:c = Tryd.f137.body.get rfl:=by rw [<- Option.some_inj,<- h];rfl
 rw [this];rfl
theorem WG:∀ c,Tryd.f138.body = some c -> comp c = (.seq (.reg 0 [I.n 0 1 (I.si 0)]) (.seq (.reg 1 [I.n 0 2 (I.ld 23 0),I.n 1 3 (I.c1 72 2 23),I.n 2 1 (I.sa 3)]) .ret)):=by
 intro c h
 have:c = Tryd.f138.body.get rfl:=by rw [<- Option.some_inj,<- h];rfl
 rw [this];rfl
theorem WH:∀ c,Tryd.f139.body = some c -> comp c = (.seq (.reg 0 [I.n 0 2 (I.sb false)]) (.seq (.draw 1 [I.n 0 3 (I.ld 23 0),I.n 1 4 (I.c1 74 3 23),I.n 2 5 (I.ld 3 1),I.n 3 6 (I.bo .neq 3 4 5 3),I.n 4 2 (I.sa 6)] [[],[0],[],[1,2],[3,1,0,1,2,3]]) .ret)):=by
 intro c h
 have:c = Tryd.f139.body.get rfl:=by rw [<- Option.some_inj,<- h];rfl
 rw [this];rfl
theorem WI:∀ c,Tryd.f140.body = some c -> comp c = (.seq (.reg 0 [I.n 0 1 (I.sb false)]) (.seq (.reg 1 [I.n 0 2 (I.ld 23 0),I.n 1 3 (I.c1 73 2 23),I.n 2 4 (I.bc .gtr 3 3 1048576 3),I.n 3 1 (I.sa 4)]) .ret)):=by
 intro c h
 have:c = Tryd.f140.body.get rfl:=by rw [<- Option.some_inj,<- h];rfl
 rw [this];rfl
theorem WJ:∀ c,Tryd.f141.body = some c -> comp c = (.seq (.reg 0 [I.n 0 1 (I.sb false)]) (.seq (.reg 1 [I.n 0 2 (I.ld 23 0),I.n 1 3 (I.c1 65 2 23),I.n 2 4 (.unOp .not 4 (.tmp 3)),I.n 3 1 (I.sa 4)]) .ret)):=by
 intro c h
 have:c = Tryd.f141.body.get rfl:=by rw [<- Option.some_inj,<- h];rfl
 rw [this];rfl
structure Lg where
 base:ByteArray
 revs:List Int
 aA:List (List Sp)
def Xz (c:Lg):AV:=.agg [.v (.string c.base),.lst 1 (ints c.revs),.lst 1 (aJ c.aA)]
def jd (n:Int) (l:List Sp):Int:=if aF l ≠ 0 then aF l else if jK l ≠ n then 5 else if 1048576 < outW l then 4 else if Bd l then 0 else 8
def dn:Int -> List (List Sp) -> Int
 | _,[]=>0
 | n,x :: l=>if jd n x = 0 then dn (outW x) l else jd n x
def nY:Int -> List (List Sp) -> List Int
 | n,[]=>[n]
 | n,x :: l=>n :: nY (outW x) l
def EU (c:Lg):Int:=if aI c.base.data.toList < 0 then 3 else if 1048576 < aI c.base.data.toList then 4 else if qH c.revs ≠ 0 ∨ c.revs.length ≠ c.aA.length + 1 then 6 else dn (aI c.base.data.toList) c.aA
def LgS (c:Lg):Prop:=c.base.size <= 1000000000 /\ c.revs.length <= 100000000 /\ c.aA.length <= 100000000 /\ ∀ x ∈ c.aA,x.length <= 100000000 /\ Small x
def szA (c:Lg):AV:=if EU c = 0 then .dD [.lst 1 (ints (nY (aI c.base.data.toList) c.aA)),.v (.int .i64 0)] else .dD [nilA,.v (.int .i64 (EU c))]
theorem mg {c:Lg} {e:Int} (h:EU c = e) (he:e ≠ 0):szA c = .dD [nilA,.v (.int .i64 e)]:=by subst h;exact if_neg he
theorem aaA {c:Lg} (h:EU c = 0):szA c = .dD [.lst 1 (ints (nY (aI c.base.data.toList) c.aA)),.v (.int .i64 0)]:=if_pos h
theorem rG:∀ (a b:List (List Sp)) (n:Int),dn n (a ++ b) = if dn n a = 0 then dn (iT n a) b else dn n a
 | [],b,n=>rfl
 | x :: a,b,n=>by
   rw [List.cons_append]
   by_cases h:jd n x = 0
   · have e1:dn n (x :: (a ++ b)) = dn (outW x) (a ++ b):=if_pos h
     have e2:dn n (x :: a) = dn (outW x) a:=if_pos h
     rw [e1,e2,rG a b];rfl
   · have e1:dn n (x :: (a ++ b)) = jd n x:=if_neg h
     have e2:dn n (x :: a) = jd n x:=if_neg h
     rw [e1,e2,if_neg h]
theorem Dj:∀ (a:List (List Sp)) (x:List Sp) (n:Int),iT n (a ++ [x]) = outW x
 | [],x,n=>rfl
 | y :: a,x,n=>Dj a x (outW y)
theorem GX:∀ (a:List (List Sp)) (x:List Sp) (n:Int),nY n (a ++ [x]) = nY n a ++ [outW x]
 | [],x,n=>rfl
 | y :: a,x,n=>by rw [List.cons_append];simp only [nY];rw [GX a];rfl
theorem mD:∀ (a:List (List Sp)) (n:Int),(nY n a).length = a.length + 1
 | [],n=>rfl
 | y :: a,n=>by simp only [nY,List.length_cons];rw [mD a]
theorem vH {l:List (List Sp)} {n:Int} {i:Nat} (hi:i < l.length) (h:dn n (l.take i) = 0) {e:Int} (he:jd (iT n (l.take i)) l[i] = e) (h0:e ≠ 0):dn n l = e:=by
 have:l = l.take i ++ l[i] :: l.drop (i + 1):=by rw [<- List.drop_eq_getElem_cons hi,List.take_append_drop]
 rw [this,rG,if_pos h]
 simp only [dn];rw [he,if_neg h0]
theorem JI {l:List (List Sp)} {n:Int} {i:Nat} (hi:i < l.length) (h:dn n (l.take i) = 0) (he:jd (iT n (l.take i)) l[i] = 0):dn n (l.take (i + 1)) = 0:=by
 rw [List.take_succ_eq_append_getElem hi,rG,if_pos h]
 simp only [dn];rw [if_pos he]
theorem aaB (l:List Int) (hl:l.length <= 100000000):aH env 48 [.lst 1 (ints l)] (fun r hs=>r = .dD [.lst 1 (qP (Xy l)),.v (.int .i64 (qH l))] /\ hs = []):=by
 refine (OQ l hl).Qd ?_
 unfold Df Xy qH
 cases h:rises l with
 | true=>exact nC.refl _
 | false=>exact nC.acJ (nC.nil 1) (nC.refl _)
theorem vI (a b:List Int):ints (a ++ b) = ints a ++ ints b:=by simp [ints]
set_option maxHeartbeats 8000000 in
theorem JJ (c:Lg) (hc:LgS c):aH env 95 [Xz c] (fun r hs=>r = szA c /\ hs = []):=by
  obtain ⟨h1,h2,h3,h4⟩:=hc
  have hrl:=bK c.aA
  have hil:=ig c.revs
  have hP:=aaB c.revs h2
  have hw:IntKind.i64.wrap (((aJ c.aA).length:Int) + 1) = (c.aA.length:Int) + 1:=by rw [hrl,aY (by omega)]
  generalize hn0:aI c.base.data.toList = n0
  have hch:EU c = (if n0 < 0 then 3 else if 1048576 < n0 then 4 else if qH c.revs ≠ 0 ∨ c.revs.length ≠ c.aA.length + 1 then 6 else dn n0 c.aA):=by subst hn0;rfl
  have hcnt:=lY c.base h1
  rw [hn0] at hcnt
  refine Ev.fn [0,1,2,3,4,6,7,8,10,11,30,35,36,37,38,51] 0 [.tmp 2,.tmp 3] Tryd.func95 (Z9 _ rfl) ?_
  repeat' (first | refine' Ev.zP | (with_reducible refine Ev.join (a:=.reg 7 (⟨0,some 34,_,_⟩ :: _)) (fun s=>∃ w k v,s = ⟨[(2,nilA),(3,.v (.int .i64 0)),(4,.ptr 536 w 0 0),(8,.own 3080 v 0 1),(35,.lst 1 (aJ c.aA)),(36,.v (.int .i64 (aJ c.aA).length)),(37,.v (.int .i64 0))],[(536,⟨1,3,w,0,true,[[.v (.int .i64 n0)]]⟩),(3080,⟨1,3,v,0,false,[[.v (.int .i64 n0)]]⟩)],k⟩ /\ 0 <= n0 /\ n0 <= 1048576 /\ qH c.revs = 0 /\ c.revs.length = c.aA.length + 1) ?_ ?_) | refine' Ev.zS | ((with_reducible refine Ev.kr (hs:=[133,134,160,135,136,137]) (fun Q hQ=>?_));refine' Ev.zR) | ((with_reducible refine Ev.jJ 133 ?_);refine Ev.il 133 [0,2,4,5,6,7,8,9,15] [.tmp 2] Tryd.func133 (KP _ rfl) (fun aN=>?_)) | ((with_reducible refine Ev.jJ 134 ?_);refine Ev.il 134 [0,1,2,3,4] [.tmp 4] Tryd.func134 (KQ _ rfl) (fun aN=>?_)) | ((with_reducible refine Ev.jJ 160 ?_);refine Ev.il 160 [0,1,2,4] [.tmp 2] Tryd.func160 (KR _ rfl) (fun aN=>?_)) | ((with_reducible refine Ev.jJ 135 ?_);refine Ev.il 135 [0,1] [.tmp 1] Tryd.func135 (WB _ rfl) (fun aN=>?_)) | ((with_reducible refine Ev.jJ 136 ?_);refine Ev.il 136 [0,1] [.tmp 1] Tryd.func136 (WC _ rfl) (fun aN=>?_)) | ((with_reducible refine Ev.jJ 137 ?_);refine Ev.il 137 [0,1,2] [.tmp 2] Tryd.func137 (WE _ rfl) (fun aN=>?_)) | ((with_reducible refine Ev.ca0 ?_);(first | refine Ev.ca (hcnt) ?_ | refine Ev.ca (hP) ?_);conv=>whnf) | (with_reducible refine Ev.wI 4 ?_) | refine' Ev.zT | fail)
  · have:EU c = 3:=by rw [hch,if_pos (by assumption)]
    exact ⟨(mg this (by decide)).symm,rfl⟩
  · have:EU c = 4:=by rw [hch,if_neg (by assumption),if_pos (by assumption)]
    exact ⟨(mg this (by decide)).symm,rfl⟩
  · refine Ev.zB ⟨?_,?_,?_,rfl,?_⟩
    exact ⟨by omega,by omega,by assumption,by omega⟩
  · rintro s1 ⟨w,k,v,rfl,g1,g2,g3,g4⟩
    have hc0:EU c = dn n0 c.aA:=by rw [hch,if_neg (by omega),if_neg (by omega),if_neg (by omega)]
    refine' Ev.zV
    refine Ev.loop (fun m s=>∃ i v k,s = ⟨[(2,nilA),(3,.v (.int .i64 0)),(4,.ptr 536 w 0 0),(8,.own 3080 v 0 (nY n0 (c.aA.take i)).length),(35,.lst 1 (aJ c.aA)),(36,.v (.int .i64 (aJ c.aA).length)),(37,.v (.int .i64 (i:Nat)))],[(536,⟨1,3,w,0,true,[[.v (.int .i64 (iT n0 (c.aA.take i)))]]⟩),(3080,⟨1,3,v,0,false,ints (nY n0 (c.aA.take i))⟩)],k⟩ /\ m + i = c.aA.length /\ dn n0 (c.aA.take i) = 0) ?_ ?_
    · refine Ev.zB ⟨c.aA.length,0,?_,?_,rfl,?_⟩
      exact ⟨by omega,rfl⟩
    rintro m s1 ⟨i,v,k,rfl,hm,hz⟩
    have hsl:=mD (c.aA.take i) n0
    have agm:=ig (nY n0 (c.aA.take i))
    have hti:(c.aA.take i).length <= c.aA.length:=by rw [List.length_take];omega
    have hX:∀ (hi:i < c.aA.length),c.aA[i].length <= 100000000 /\ Small c.aA[i]:=fun hi=>h4 _ (List.getElem_mem hi)
    repeat' (first | refine' Ev.zP | refine' Ev.zS | ((with_reducible refine Ev.kr (hs:=[133,134,160,138,139,140,141]) (fun Q hQ=>?_));refine' Ev.zR) | ((with_reducible refine Ev.jJ 133 ?_);refine Ev.il 133 [0,2,4,5,6,7,8,9,15] [.tmp 2] Tryd.func133 (KP _ rfl) (fun aN=>?_)) | ((with_reducible refine Ev.jJ 134 ?_);refine Ev.il 134 [0,1,2,3,4] [.tmp 4] Tryd.func134 (KQ _ rfl) (fun aN=>?_)) | ((with_reducible refine Ev.jJ 160 ?_);refine Ev.il 160 [0,1,2,4] [.tmp 2] Tryd.func160 (KR _ rfl) (fun aN=>?_)) | ((with_reducible refine Ev.jJ 138 ?_);refine Ev.il 138 [0,1] [.tmp 1] Tryd.func138 (WG _ rfl) (fun aN=>?_)) | ((with_reducible refine Ev.jJ 139 ?_);refine Ev.il 139 [0,1,2] [.tmp 2] Tryd.func139 (WH _ rfl) (fun aN=>?_)) | ((with_reducible refine Ev.jJ 140 ?_);refine Ev.il 140 [0,1] [.tmp 1] Tryd.func140 (WI _ rfl) (fun aN=>?_)) | ((with_reducible refine Ev.jJ 141 ?_);refine Ev.il 141 [0,1] [.tmp 1] Tryd.func141 (WJ _ rfl) (fun aN=>?_)) | ((with_reducible refine Ev.ca0 ?_);(first | refine Ev.aO (eY _ (by have:=(hX (by assumption)).1;omega) (hX (by assumption)).2) rfl rfl ?_ | refine Ev.aO (iE _ (by have:=(hX (by assumption)).1;omega)) rfl rfl ?_ | refine Ev.aO (jo _ (by have:=(hX (by assumption)).1;omega) (hX (by assumption)).2) rfl rfl ?_ | refine Ev.aO (KG _ (by have:=(hX (by assumption)).1;omega)) rfl rfl ?_ | refine Ev.ca (eY _ (by have:=(hX (by assumption)).1;omega) (hX (by assumption)).2) ?_ | refine Ev.ca (iE _ (by have:=(hX (by assumption)).1;omega)) ?_ | refine Ev.ca (jo _ (by have:=(hX (by assumption)).1;omega) (hX (by assumption)).2) ?_ | refine Ev.ca (KG _ (by have:=(hX (by assumption)).1;omega)) ?_);conv=>whnf) | (with_reducible refine Ev.wI 5 ?_) | ((with_reducible refine Ev.jO ?_);(first | refine Ev.dr 1 [133,134,160,138,139,140,141] [0,2,1,3,4] ?_);intro Q hQ;(simp only [Ev.aK,Ev.aT]);conv=>whnf) | refine' Ev.zT | fail)
    · have hi:i < c.aA.length:=by omega
      have hb:jd (iT n0 (c.aA.take i)) c.aA[i] = 4:=by
        unfold jd;rw [if_neg (by simp;assumption),if_neg (by simp;assumption),if_pos (by assumption)]
      exact ⟨(mg (hc0.trans (vH hi hz hb (by decide))) (by decide)).symm,rfl⟩
    · have hi:i < c.aA.length:=by omega
      have hb:jd (iT n0 (c.aA.take i)) c.aA[i] = 0:=by
        unfold jd;rw [if_neg (by simp;assumption),if_neg (by simp;assumption),if_neg (by assumption),if_pos (by assumption)]
      have e1:c.aA.take (i + 1) = c.aA.take i ++ [c.aA[i]]:=List.take_succ_eq_append_getElem hi
      have e2:iT n0 (c.aA.take (i + 1)) = sumW (fun s=>jk s.k s.n s.t) c.aA[i]:=by rw [e1,Dj];rfl
      have e3:nY n0 (c.aA.take (i + 1)) = nY n0 (c.aA.take i) ++ [sumW (fun s=>jk s.k s.n s.t) c.aA[i]]:=by rw [e1,GX];rfl
      refine Ev.zA (m - 1) ⟨i + 1,?_,?_,rfl,?_⟩ (by refine' Ev.zp <;> first | (first | exact wrap_succ (by omega) | (rw [e3,vI];rfl) | (rw [e3];simp;done) | (rw [e2];rfl) | rfl) | rfl | (refine' Ev.ze;(first | exact wrap_succ (by omega) | (rw [e3,vI];rfl) | (rw [e3];simp;done) | (rw [e2];rfl) | rfl)) | fail)
      exact ⟨by omega,JI hi hz hb⟩
    · have hi:i < c.aA.length:=by omega
      have hb:jd (iT n0 (c.aA.take i)) c.aA[i] = 8:=by
        unfold jd;rw [if_neg (by simp;assumption),if_neg (by simp;assumption),if_neg (by assumption),if_neg (by simp;assumption)]
      exact ⟨(mg (hc0.trans (vH hi hz hb (by decide))) (by decide)).symm,rfl⟩
    · have hi:i < c.aA.length:=by omega
      have hb:jd (iT n0 (c.aA.take i)) c.aA[i] = 5:=by
        unfold jd;rw [if_neg (by simp;assumption),if_pos (by assumption)]
      exact ⟨(mg (hc0.trans (vH hi hz hb (by decide))) (by decide)).symm,rfl⟩
    · exfalso
      rename_i a b
      exact a b
    · have hi:i < c.aA.length:=by omega
      have hm0:aF c.aA[i] ≠ 0:=by assumption
      have hb:jd (iT n0 (c.aA.take i)) c.aA[i] = aF c.aA[i]:=by
        unfold jd;rw [if_pos hm0]
      exact ⟨(mg (hc0.trans (vH hi hz hb hm0)) hm0).symm,rfl⟩
    · have hall:c.aA.take i = c.aA:=List.take_of_length_le (by omega)
      rw [hall] at hz hsl agm ⊢
      refine ⟨?_,rfl⟩
      rw [aaA (hc0.trans hz),hn0]
      exact Ev.yG (Ev.oN (Ev.kV (by omega) rfl)) rfl
  · have:EU c = 6:=by rw [hch,if_neg (by assumption),if_neg (by assumption),if_pos (.inr (by omega))]
    exact ⟨(mg this (by decide)).symm,rfl⟩
  · have:EU c = 6:=by rw [hch,if_neg (by assumption),if_neg (by assumption),if_pos (.inl (by assumption))]
    exact ⟨(mg this (by decide)).symm,rfl⟩
end Go.Proofs.YtadlnaljicikfaaDoor.aB
namespace Go.Proofs.YtadlnaljicikfaaDoor.aB
open Go Go.Lib
theorem GY {l:List UInt8} (hl:l ≠ []) (h:decodeL l ≠ (65533,1)):decodeL (l.take (decodeL l).2) = decodeL l:=by
 have hp:=List.length_pos_iff.2 hl
 have hle:=decodeL_le l hl
 have g:∀ w i,i < w -> ((l.take w).getD i 0) = l.getD i 0:=fun w i hi=>by
   simp only [List.getD_eq_getElem?_getD,List.getElem?_take,if_pos hi]
 rw [decodeL_N] at h hle ⊢
 rw [decodeL_N]
 rcases decodeN_shape l.length (l.getD 0 0).toNat (l.getD 1 0).toNat (l.getD 2 0).toNat (l.getD 3 0).toNat with ⟨c,e⟩ | ⟨c1,c2,c3,cv,e⟩ | ⟨c1,c2,c3,c4,cv,cs,e⟩ | ⟨c1,c2,c3,c4,c5,cv,cw,e⟩ | e
 · rw [e]
   simp only
   rw [g 1 0 (by omega)]
   unfold decodeN;rw [if_pos c]
 · rw [e]
   simp only
   rw [g 2 0 (by omega),g 2 1 (by omega),show (l.take 2).length = 2 by rw [List.length_take];omega]
   unfold decodeN;rw [if_neg (by omega),if_pos ⟨c1,by omega,c3⟩,if_pos cv]
 · rw [e]
   simp only
   rw [g 3 0 (by omega),g 3 1 (by omega),g 3 2 (by omega),show (l.take 3).length = 3 by rw [List.length_take];omega]
   unfold decodeN;rw [if_neg (by omega),if_neg (by omega),if_pos ⟨c1,⟨by omega,c3⟩,by omega,c4⟩,if_pos ⟨cv,by omega⟩]
 · rw [e]
   simp only
   rw [g 4 0 (by omega),g 4 1 (by omega),g 4 2 (by omega),g 4 3 (by omega),show (l.take 4).length = 4 by rw [List.length_take];omega]
   unfold decodeN;rw [if_neg (by omega),if_neg (by omega),if_neg (by omega),if_pos ⟨c1,⟨by omega,c3⟩,⟨by omega,c4⟩,by omega,c5⟩,if_pos ⟨cv,by omega⟩]
 · exact absurd e h
def Bf (p:Nat):Prop:=encodeRune (p:Int) ≠ [] /\ ∀ rest,decodeL (encodeRune (p:Int) ++ rest) = (p,(encodeRune (p:Int)).length) /\ (p,(encodeRune (p:Int)).length) ≠ (65533,1)
theorem GZ {l:List UInt8} (hl:l ≠ []) (h:decodeL l ≠ (65533,1)):Bf (decodeL l).1 /\ encodeRune ((decodeL l).1:Int) = l.take (decodeL l).2:=by
 have e:=encode_decode l hl (fun hh=>h (Prod.ext hh.1 hh.2))
 have hw:=decodeL_width l
 have hle:=decodeL_le l hl
 have hlen:(l.take (decodeL l).2).length = (decodeL l).2:=by rw [List.length_take];omega
 have hne:l.take (decodeL l).2 ≠ []:=by intro hh;rw [hh] at hlen;simp at hlen;omega
 have hc:=GY hl h
 refine ⟨⟨by rw [e];exact hne,fun rest=>?_⟩,e⟩
 rw [e,hlen]
 refine ⟨?_,h⟩
 rw [tV hne (by rw [hc];exact h),hc]
def jD (l:List Nat):List UInt8:=l.flatMap fun (p:Nat)=>encodeRune (p:Int)
theorem rH (p:Nat) (l:List Nat):jD (p :: l) = encodeRune (p:Int) ++ jD l:=rfl
theorem Aq (a b:List Nat):jD (a ++ b) = jD a ++ jD b:=by simp [jD]
theorem jE:∀ l,validD l = true -> jD (pts l) = l /\ ∀ p ∈ pts l,Bf p:=by
 refine Ad ⟨rfl,fun p hp=>by simp [Ky] at hp⟩ (fun l he hv hd hs ih=>?_)
 obtain ⟨s,e⟩:=GZ he hd
 rw [nJ he]
 refine ⟨?_,?_⟩
 · rw [rH,e,ih.1,List.take_append_drop]
 · intro p hp
   rcases List.mem_cons.1 hp with rfl | hp
   · exact s
   · exact ih.2 p hp
theorem jY:∀ (l:List Nat),(∀ p ∈ l,Bf p) -> validD (jD l) = true /\ pts (jD l) = l
 | [],_=>⟨rfl,rfl⟩
 | p :: l,h=>by
   obtain ⟨h1,h2⟩:=h p (by simp)
   obtain ⟨i1,i2⟩:=jY l (fun q hq=>h q (by simp [hq]))
   obtain ⟨d1,d2⟩:=h2 (jD l)
   have hne:encodeRune (p:Int) ++ jD l ≠ []:=by simp [h1]
   rw [rH]
   refine ⟨?_,?_⟩
   · rw [validD_step hne,d1,if_neg d2]
     simp only [List.drop_left];exact i1
   · rw [nJ hne,d1]
     simp only [List.drop_left];rw [i2]
theorem EC (p:Nat):(Utf8.encode (p:Int)).data.toList = encodeRune (p:Int):=by
 have h:=Extern.FmtText.encode_eq p
 unfold encodeRune
 rw [<- h]
 unfold Extern.FmtText.nums
 rw [List.map_map]
 conv=>lhs;rw [<- List.map_id (Utf8.encode (p:Int)).data.toList]
 refine List.map_congr_left (fun b _=>?_)
 simp
theorem G5 (l:List Nat):(runesBytes (l.map fun (p:Nat)=>(p:Int))).data.toList = jD l:=by
 have key:∀ (l:List Nat) (r:ByteArray),((l.map fun (p:Nat)=>(p:Int)).foldl (fun r n=>r ++ Utf8.encode n) r).data.toList = r.data.toList ++ jD l:=by
   intro l
   induction l with
   | nil=>intro r;simp [jD]
   | cons p l ih=>intro r;rw [List.map_cons,List.foldl_cons,ih,rC,EC,rH,List.append_assoc]
 exact key l _
def dK (l:List Nat):List Int:=l.map fun (p:Nat)=>(p:Int)
theorem runes_all (b:ByteArray):iC b = aW (dK (pts b.data.toList)):=by
 have key:∀ (n i:Nat) (acc:Array Value),(Conv.runesFrom b n i acc).toList = acc.toList ++ (nI n (b.data.toList.drop i)).map fun (p:Nat)=>Value.int .i32 (p:Int):=by
   intro n
   induction n with
   | zero=>intro i acc;simp [Conv.runesFrom,nI]
   | succ n ih =>
     intro i acc
     have hsz:b.data.toList.length = b.size:=bn b
     by_cases hi:i < b.size
     · have hne:b.data.toList.drop i ≠ []:=by intro hh;have:=congrArg List.length hh;rw [List.length_drop] at this;simp at this;omega
       simp only [Conv.runesFrom,nI,if_pos hi,if_neg hne]
       rw [ih,decodeL_drop,List.drop_drop]
       simp
     · have he:b.data.toList.drop i = []:=List.drop_of_length_le (by omega)
       simp only [Conv.runesFrom,nI,if_neg hi,he,if_pos]
       simp
 unfold iC
 rw [key]
 simp only [List.drop_zero,List.nil_append]
 have e:nI b.size b.data.toList = pts b.data.toList:=by unfold pts;rw [bn]
 rw [e]
 simp [aW,dK]
theorem SI {l:List Nat}:l.length <= (jD l).length ∨ ∃ p ∈ l,¬ Bf p:=by
 induction l with
 | nil=>exact .inl (Nat.le_refl _)
 | cons p l ih =>
   by_cases h:Bf p
   · have:=List.length_pos_iff.2 h.1
     rcases ih with ih | ⟨q,a,b⟩
     · refine .inl ?_
       rw [rH,List.length_append,List.length_cons];omega
     · exact .inr ⟨q,by simp [a],b⟩
   · exact .inr ⟨p,by simp,h⟩
end Go.Proofs.YtadlnaljicikfaaDoor.aB
namespace Go.Proofs.YtadlnaljicikfaaDoor.aB
open Go
set_option maxRecDepth 100000
attribute [local irreducible] Ev.gV Ev.iy Ev.bC Ev.runK Ev.bD Ev.fD Ev.Side Ev.Wp Ev.Again Ev.To Ev.Fin
open Go.Lib Go.RowKit
theorem aaC:∀ c,Tryd.f56.body = some c -> comp c = (.seq (.reg 0 [I.n 0 4 (.assign (.const (Value.string { data:=#[] }))),I.n 1 5 (I.si 0)]) (.seq (.seq (.reg 1 [I.n 0 12 (I.mv 0),I.n 1 13 (I.c1 72 12 23),I.n 2 6 (I.sa 13)]) (.seq (.reg 2 [I.n 0 14 (I.mv 6),I.n 1 15 (I.bc .neq 30 14 0 30)]) (.cond (.tmp 15) (.seq (.reg 3 [I.n 0 16 (I.mv 6),I.n 1 4 (.assign (.const (Value.string { data:=#[] }))),I.n 2 5 (I.sa 16)]) .ret) .skip))) (.seq (.seq (.reg 4 [I.n 0 17 (I.mv 1),I.n 1 18 (I.c1 32 17 9),I.n 2 7 (I.sa 18)]) (.block 0 (.seq (.reg 5 [I.n 0 20 (I.mv 7),I.n 1 21 (I.bc .lss 3 20 0 3),I.n 2 19 (I.sa 21)]) (.cond (.tmp 19) (.seq (.reg 6 [I.n 0 4 (.assign (.const (Value.string { data:=#[] }))),I.n 1 5 (I.si 3)]) .ret) (.seq (.reg 7 [I.n 0 23 (I.mv 7),I.n 1 24 (I.mv 0),I.n 2 25 (I.c1 74 24 23),I.n 3 26 (I.bo .neq 3 23 25 3),I.n 4 22 (I.sa 26)]) (.cond (.tmp 22) (.seq (.reg 8 [I.n 0 4 (.assign (.const (Value.string { data:=#[] }))),I.n 1 5 (I.si 5)]) .ret) .skip)))))) (.seq (.reg 9 [I.n 0 27 (I.mv 1),I.n 1 28 (I.cv 9 115 27),I.n 2 8 (I.sa 28)]) (.seq (.reg 10 [I.n 0 9 I.sn]) (.seq (.seq (.reg 11 [I.n 0 29 (I.mv 0),I.n 1 30 (I.ln 29 23),I.n 2 31 (.move (.const (Value.int .i64 0)))]) (.block 1 (.loop (.seq (.reg 12 [I.n 0 32 (I.bo .lss 3 31 30 3)]) (.seq (.cond (.tmp 32) .skip (.exit 1)) (.seq (.block 2 (.seq (.reg 13 [I.n 0 33 (I.ia 23 29 31),I.n 1 34 (I.ld 35 33),I.n 2 11 (.alloc 35),I.u 3 (I.st 35 11 34)]) (.seq (.seq (.reg 14 [I.n 0 35 (I.fa 35 11 0),I.n 1 36 (I.ld 3 35)]) (.block 3 (.seq (.reg 15 [I.n 0 38 (I.bc .eql 3 36 2 3),I.n 1 37 (I.sa 38)]) (.cond (.tmp 37) (.reg 16 [I.n 0 39 (I.mv 9),I.n 1 40 (I.fa 35 11 2),I.n 2 41 (I.ld 9 40),I.n 3 42 (I.cv 9 115 41),I.n 4 43 (I.ap 39 42 115 115),I.n 5 9 (I.sa 43)]) (.seq (.reg 17 [I.n 0 45 (I.bc .eql 3 36 1 3),I.n 1 44 (I.sa 45)]) (.cond (.tmp 44) (.reg 18 [I.n 0 46 (I.mv 9),I.n 1 47 (I.mv 8),I.n 2 48 (I.fa 35 11 1),I.n 3 49 (I.ld 3 48),I.n 4 50 (.slice 115 (.tmp 47) none (some (.tmp 49)) none),I.n 5 51 (I.ap 46 50 115 115),I.n 6 9 (I.sa 51)]) .skip)))))) (.reg 19 [I.n 0 52 (I.mv 8),I.n 1 53 (I.fa 35 11 1),I.n 2 54 (I.ld 3 53),I.n 3 55 (.slice 115 (.tmp 52) (some (.tmp 54)) none none),I.n 4 8 (I.sa 55)])))) (.reg 20 [I.n 0 56 (I.bc .add 3 31 1 3),I.n 1 31 (I.mv 56)]))))))) (.seq (.reg 21 [I.n 0 57 (I.mv 9),I.n 1 58 (I.cv 115 9 57),I.n 2 4 (I.sa 58),I.n 3 5 (I.si 0)]) .ret))))))):=by
 intro c h
 have:c = Tryd.f56.body.get rfl:=by rw [<- Option.some_inj,<- h];rfl
 rw [this];rfl
theorem aaD:∀ c,Tryd.f57.body = some c -> comp c = (.seq (.reg 0 [I.n 0 4 (.assign (.const (Value.string { data:=#[] }))),I.n 1 5 (I.si 0)]) (.seq (.seq (.reg 1 [I.n 0 10 (I.mv 1),I.n 1 11 (I.ln 10 22),I.n 2 12 (I.bc .eql 3 11 0 3),I.n 3 13 (I.mv 12),I.w 4 14 (I.mv 0) 13 true,I.w 5 15 (I.c1 78 14 9) 13 true,I.w 6 16 (.unOp .not 4 (.tmp 15)) 13 true,I.n 7 17 (I.pc 13 16 false)]) (.cond (.tmp 17) (.seq (.reg 2 [I.n 0 4 (.assign (.const (Value.string { data:=#[] }))),I.n 1 5 (I.si 3)]) .ret) .skip)) (.seq (.seq (.reg 3 [I.n 0 18 (I.mv 1),I.n 1 19 (I.ln 18 22),I.n 2 20 (.move (.const (Value.int .i64 0)))]) (.block 0 (.loop (.seq (.reg 4 [I.n 0 21 (I.bo .lss 3 20 19 3)]) (.seq (.cond (.tmp 21) .skip (.exit 0)) (.seq (.block 1 (.seq (.reg 5 [I.n 0 22 (I.ia 22 18 20),I.n 1 23 (I.ld 23 22),I.n 2 7 (I.sa 23)]) (.seq (.reg 6 [I.n 0 25 (I.mv 7),I.n 1 26 (I.mv 0),I.n 2 27 (I.c2 56 25 26 23 9),I.n 3 24 (I.mv 27),I.n 4 28 (I.ex 24 0),I.n 5 29 (I.ex 24 1),I.n 6 8 (I.sa 28),I.n 7 9 (I.sa 29)]) (.seq (.seq (.reg 7 [I.n 0 30 (I.mv 9),I.n 1 31 (I.bc .neq 30 30 0 30)]) (.cond (.tmp 31) (.seq (.reg 8 [I.n 0 32 (I.mv 9),I.n 1 4 (.assign (.const (Value.string { data:=#[] }))),I.n 2 5 (I.sa 32)]) .ret) .skip)) (.reg 9 [I.n 0 33 (I.mv 8),I.n 1 0 (I.sa 33)]))))) (.reg 10 [I.n 0 34 (I.bc .add 3 20 1 3),I.n 1 20 (I.mv 34)]))))))) (.seq (.reg 11 [I.n 0 35 (I.mv 0),I.n 1 4 (I.sa 35),I.n 2 5 (I.si 0)]) .ret)))):=by
 intro c h
 have:c = Tryd.f57.body.get rfl:=by rw [<- Option.some_inj,<- h];rfl
 rw [this];rfl
def eX:List Sp -> List Nat -> List Nat
 | [],_=>[]
 | s :: l,r=>(if s.k = 2 then pts s.t.data.toList else if s.k = 1 then r.take s.n.toNat else []) ++ eX l (r.drop s.n.toNat)
def pR (l:List Sp) (t:ByteArray):Int:=if aF l ≠ 0 then aF l else if aI t.data.toList < 0 then 3 else if aI t.data.toList ≠ jK l then 5 else 0
def txt (ns:List Nat):ByteArray:=⟨(jD ns).toArray⟩
def vJ (l:List Sp) (t:ByteArray):ByteArray:=if pR l t = 0 then txt (eX l (pts t.data.toList)) else ⟨#[]⟩
def toA (l:List Sp) (t:ByteArray):AV:=.dD [.v (.string (vJ l t)),.v (.int .i64 (pR l t))]
theorem yM {l:List Sp} {t:ByteArray} {e:Int} (h:pR l t = e) (he:e ≠ 0):toA l t = .dD [.v (.string ⟨#[]⟩),.v (.int .i64 e)]:=by
 unfold toA vJ;rw [h,if_neg he]
theorem aaE {l:List Sp} {t:ByteArray} (h:pR l t = 0):toA l t = .dD [.v (.string (txt (eX l (pts t.data.toList)))),.v (.int .i64 0)]:=by
 unfold toA vJ;rw [h,if_pos rfl]
theorem dY (ns:List Nat):(txt ns).data.toList = jD ns:=by simp [txt]
theorem JK {a b:ByteArray} (h:a.data.toList = b.data.toList):a = b:=by
 cases a;cases b;simp at h ⊢
 exact h
theorem jw (ns:List Nat):runesBytes (dK ns) = txt ns:=JK (by rw [dY];exact G5 ns)
theorem WL (a b:List Nat):txt a ++ txt b = txt (a ++ b):=JK (by rw [rC,dY,dY,dY,Aq])
theorem rJ {t:ByteArray} (h:validD t.data.toList = true):txt (pts t.data.toList) = t:=JK (by rw [dY,(jE _ h).1])
theorem nN {l:List Sp} {t:ByteArray} (h:pR l t = 0):aF l = 0 /\ validD t.data.toList = true /\ jK l = (pts t.data.toList).length:=by
 unfold pR at h
 by_cases h1:aF l = 0
 · rw [if_neg (by simp [h1])] at h
   by_cases h2:aI t.data.toList < 0
   · rw [if_pos h2] at h;cases h
   · rw [if_neg h2] at h
     by_cases h3:aI t.data.toList = jK l
     · cases hv:validD t.data.toList with
       | false=>rw [Ae hv] at h2;omega
       | true=>exact ⟨h1,rfl,by rw [<- h3,cu hv]⟩
     · rw [if_pos h3] at h;cases h
 · rw [if_pos h1] at h;exact absurd h h1
theorem ED {l:List Sp} {t:ByteArray} (h1:aF l = 0) (h2:validD t.data.toList = true) (h3:jK l = (pts t.data.toList).length):pR l t = 0:=by
 unfold pR;rw [if_neg (by simp [h1]),cu h2,if_neg (by omega),if_neg (by simp [h3])]
def xU (s:Sp) (r:List Nat):List Nat:=if s.k = 2 then pts s.t.data.toList else if s.k = 1 then r.take s.n.toNat else []
theorem nO (s:Sp) (l:List Sp) (r:List Nat):eX (s :: l) r = xU s r ++ eX l (r.drop s.n.toNat):=rfl
theorem WM {l:List Sp} {i:Nat} (hi:i < l.length) (r:List Nat):eX (l.drop i) r = xU l[i] r ++ eX (l.drop (i + 1)) (r.drop l[i].n.toNat):=by
 rw [List.drop_eq_getElem_cons hi,nO]
theorem aaF {l:List Sp} {i:Nat} (hi:i < l.length):aS dh (l.drop i) = dh l[i] + aS dh (l.drop (i + 1)):=by
 rw [List.drop_eq_getElem_cons hi,aV]
theorem EF {l:List Sp} (h:∀ s ∈ l,aZ s):0 <= aS dh l:=(jr dh 1048576 l (fun x hx=>(h x hx).dh)).1
theorem iP {s:Sp} (h:aZ s):(s.k = 2 /\ s.n = 0 /\ dh s = 0 /\ validD s.t.data.toList = true) ∨ ((s.k = 1 ∨ s.k = 3) /\ 0 <= s.n /\ dh s = s.n /\ s.t = ⟨#[]⟩):=by
 rcases h.cases with ⟨a,b,c,d⟩ | ⟨a,b,c⟩
 · exact .inr ⟨a,b,by unfold aB.dh sQ;rw [if_pos a],d⟩
 · exact .inl ⟨a,b,by unfold aB.dh sQ;rw [if_neg (by omega)],c⟩
theorem G6:∀ (l:List Sp) (r:List Nat),(∀ s ∈ l,aZ s) -> aS dh l = r.length -> ((eX l r).length:Int) = aS bZ l
 | [],r,_,_=>by simp [eX,aS]
 | s :: l,r,h,hr=>by
   have hs:=h s (by simp)
   have hp:=EF (fun x hx=>h x (by simp [hx]):∀ x ∈ l,aZ x)
   rw [aV] at hr
   have hn:s.n.toNat <= r.length /\ dh s = (s.n.toNat:Int):=by rcases iP hs with ⟨a,b,c,d⟩ | ⟨a,b,c,d⟩ <;> omega
   have ih:=G6 l (r.drop s.n.toNat) (fun x hx=>h x (by simp [hx])) (by rw [List.length_drop];omega)
   rw [nO,List.length_append,aV,Int.natCast_add,ih]
   congr 1
   unfold xU bZ jk
   rcases iP hs with ⟨a,b,c,d⟩ | ⟨a | a,b,c,d⟩
   · rw [if_pos a,if_neg (by omega),if_pos a,cu d];omega
   · rw [if_neg (by omega),if_pos a,if_pos a,List.length_take];omega
   · rw [if_neg (by omega),if_neg (by omega),if_neg (by omega),if_neg (by omega)];rfl
theorem wV:∀ (l:List Sp) (r:List Nat),(∀ s ∈ l,aZ s) -> (∀ p ∈ r,Bf p) -> ∀ p ∈ eX l r,Bf p
 | [],r,_,_,p,hp=>by simp [eX] at hp
 | s :: l,r,h,hr,p,hp=>by
   rw [nO,List.mem_append] at hp
   rcases hp with hp | hp
   · unfold xU at hp
     rcases iP (h s (by simp)) with ⟨a,b,c,d⟩ | ⟨a | a,b,c,d⟩
     · rw [if_pos a] at hp;exact (jE _ d).2 p hp
     · rw [if_neg (by omega),if_pos a] at hp;exact hr p (List.mem_of_mem_take hp)
     · rw [if_neg (by omega),if_neg (by omega)] at hp;cases hp
   · exact wV l _ (fun x hx=>h x (by simp [hx])) (fun q hq=>hr q (List.mem_of_mem_drop hq)) p hp
theorem wW:∀ (l:List Sp) (r:List Nat),(∀ s ∈ l,aZ s) -> (jD (eX l r)).length <= (jD r).length + bU l
 | [],r,_=>by simp [eX,jD]
 | s :: l,r,h=>by
   have ih:=wW l (r.drop s.n.toNat) (fun x hx=>h x (by simp [hx]))
   have hr:(jD r).length = (jD (r.take s.n.toNat)).length + (jD (r.drop s.n.toNat)).length:=by
     rw [<- List.length_append,<- Aq,List.take_append_drop]
   rw [nO,Aq,List.length_append,aG]
   have:(jD (xU s r)).length <= (jD (r.take s.n.toNat)).length + s.t.size:=by
     unfold xU
     rcases iP (h s (by simp)) with ⟨a,b,c,d⟩ | ⟨a | a,b,c,d⟩
     · rw [if_pos a,(jE _ d).1,bn];omega
     · rw [if_neg (by omega),if_pos a];omega
     · rw [if_neg (by omega),if_neg (by omega)];simp [jD]
   omega
theorem Dk {l:List Sp} {t:ByteArray} (h:pR l t = 0) (hl:l.length <= 1000000000) (hb:t.size + bU l <= 1000000000):validD (vJ l t).data.toList = true /\ pts (vJ l t).data.toList = eX l (pts t.data.toList) /\ ((pts (vJ l t).data.toList).length:Int) = outW l /\ (vJ l t).size <= t.size + bU l:=by
 obtain ⟨h1,h2,h3⟩:=nN h
 obtain ⟨h4,h5⟩:=(eP l).1 h1
 have hs:=jf h4 hl
 have hT:vJ l t = txt (eX l (pts t.data.toList)):=if_pos h
 obtain ⟨p1,p2⟩:=jE _ h2
 obtain ⟨q1,q2⟩:=jY _ (wV l _ h4 p2)
 have hlen:=G6 l (pts t.data.toList) h4 (by omega)
 have hsz:=wW l (pts t.data.toList) h4
 rw [p1,bn] at hsz
 rw [hT,dY]
 refine ⟨q1,q2,?_,?_⟩
 · rw [q2,iF,<- hlen,aY]
   rcases SI (l:=eX l (pts t.data.toList)) with hu | ⟨p,hp,hn⟩
   · omega
   · exact absurd (wV l _ h4 p2 p hp) hn
 · rw [<- bn,dY];exact hsz
theorem dO (l:List Int):(aW l).length = l.length:=by simp [aW]
theorem eF (l:List Nat):(dK l).length = l.length:=by simp [dK]
theorem nP (l:List Int):∀ y ∈ aW l,y.length = 1:=by
 intro y hy
 refine' aff
set_option maxHeartbeats 8000000 in
theorem KT (l:List Sp) (t:ByteArray) (hl:l.length <= 100000000) (hb:bU l + t.size <= 1000000000):aH env 56 [.lst 3 (bM l),.v (.string t)] (fun r hs=>r = toA l t /\ hs = []):=by
  have hsl:=dw l
  have hra:=runes_all t
  have hc:=lY t (by omega)
  have hsm:Small l:=jX (by omega)
  have hpl:=ru t.data.toList
  rw [bn] at hpl
  refine Ev.fn [0,1,4,5,6,7,8,9,11,15,19,22,29,30,31,32,36,37,44] 0 [.tmp 4,.tmp 5] Tryd.func56 (aaC _ rfl) ?_
  repeat' (first | refine' Ev.zS | refine' Ev.zK | ((with_reducible refine Ev.ca0 ?_);(first | refine Ev.aO (eY l (by omega) hsm) rfl rfl ?_ | refine Ev.aO (iE l (by omega)) rfl rfl ?_ | refine Ev.ca (eY l (by omega) hsm) ?_ | refine Ev.ca (hc) ?_ | refine Ev.ca (iE l (by omega)) ?_);conv=>whnf) | refine' Ev.zT | fail)
  · have:pR l t = 3:=by unfold pR;rw [if_neg (by simp;assumption),if_pos (by assumption)]
    exact ⟨(yM this (by decide)).symm,rfl⟩
  · have h1:aF l = 0:=by assumption
    have h2:¬ aI t.data.toList < 0:=by assumption
    have h3:aI t.data.toList = jK l:=by assumption
    have hz:pR l t = 0:=by unfold pR;rw [if_neg (by simp [h1]),if_neg h2,if_neg (by simp [h3])]
    obtain ⟨_,hv,hin⟩:=nN hz
    obtain ⟨h4,h5⟩:=(eP l).1 h1
    have hsum:=jf h4 (by omega)
    rw [aaE hz]
    generalize pts t.data.toList = r0 at *
    refine Ev.loop (fun k s=>∃ (i c:Nat) (O R:List Nat) (st:AV) (hx:List (Nat × au)),s = ⟨[(8,.lst 1 (aW (dK R))),(9,st),(29,.lst 3 (bM l)),(30,.v (.int .i64 (bM l).length)),(31,.v (.int .i64 i))],hx,c⟩ /\
      ((O = [] /\ st = nilA /\ hx = []) ∨ (∃ v,st = .own 8224 v 0 O.length /\ hx = [(8224,⟨1,21,v,0,false,aW (dK O)⟩)]) ∨ (∃ v,st = .own 9256 v 0 O.length /\ hx = [(9256,⟨1,21,v,0,false,aW (dK O)⟩)])) /\
      k + i = l.length /\ eX l r0 = O ++ eX (l.drop i) R /\ (R.length:Int) = aS dh (l.drop i) /\ O.length + R.length <= bU (l.take i) + r0.length) ?_ ?_
    · refine Ev.zB ⟨l.length,0,?_,[],r0,nilA,[],rfl,?_⟩ (by refine' Ev.zp <;> first | (first | (rw [hra];done) | rfl) | rfl | (refine' Ev.ze;(first | (rw [hra];done) | rfl)) | fail)
      exact ⟨.inl ⟨rfl,rfl,rfl⟩,by omega,rfl,by rw [List.drop_zero];omega,by simp⟩
    rintro k s1 ⟨i,c,O,R,st,hx,rfl,hst,hk,hap,hR,hsz⟩
    have hrl:=dO (dK R)
    rw [eF] at hrl
    have hol:=dO (dK O)
    rw [eF] at hol
    by_cases hil:i < l.length
    · have hs:=h4 _ (List.getElem_mem hil)
      have hsa:=aaF hil
      have hsp:=EF (fun x hx=>h4 x (List.mem_of_mem_drop hx):∀ x ∈ l.drop (i + 1),aZ x)
      have hpa:=WM hil R
      have htk:=Ag l hil
      have htl:=Sj l (i + 1)
      have hxa:=runes_all l[i].t
      have hpx:=ru l[i].t.data.toList
      rw [bn] at hpx
      have hdr:List.take ((aW (dK R)).length - (l[i].n).toNat) (List.drop (l[i].n).toNat (aW (dK R))) = aW (dK (R.drop l[i].n.toNat)):=by
        rw [zI,List.take_of_length_le (by rw [List.length_drop,eF,hrl];exact Nat.le_refl _)];simp [dK,List.map_drop]
      have EG:List.take ((l[i].n).toNat - 0) (List.drop 0 (aW (dK R))) = aW (dK (R.take l[i].n.toNat)):=by
        rw [zI,List.drop_zero,Nat.sub_zero];simp [dK,List.map_take]
      rcases hst with ⟨rfl,rfl,rfl⟩ | ⟨v,rfl,rfl⟩ | ⟨v,rfl,rfl⟩
      · rcases iP hs with ⟨a,b,c',d⟩ | ⟨a | a,b,c',d⟩
        · have hi2:(i:Int) < ((bM l).length:Int):=by omega
          have hn:l[i].n.toNat <= R.length:=by omega
          have hP:xU l[i] R = pts l[i].t.data.toList:=by unfold xU;rw [if_pos a]
          have hstep:eX l r0 = ([] ++ pts l[i].t.data.toList) ++ eX (l.drop (i + 1)) (R.drop l[i].n.toNat):=by rw [hap,hpa,hP,List.append_assoc]
          have hrow:iC l[i].t = aW (dK ([] ++ pts l[i].t.data.toList)):=by rw [hxa];simp [aW,dK]
          have hlr:(iC l[i].t).length = ([] ++ pts l[i].t.data.toList).length:=by rw [hxa,dO,eF];simp
          have hpl2:(pts l[i].t.data.toList).length <= l[i].t.size:=by exact hpx
          repeat' (first | refine' Ev.zP | (with_reducible refine Ev.bQ hi2 ?_) | (with_reducible refine Ev.bQ a ?_) | refine' Ev.zS | refine' Ev.zK | refine' Ev.zT | fail)
          · refine Ev.zA (k - 1) ⟨i + 1,c + 8 + 8,([] ++ pts l[i].t.data.toList),R.drop l[i].n.toNat,.own 8224 (c + 8) 0 ([] ++ pts l[i].t.data.toList).length,[(8224,⟨1,21,c + 8,0,false,aW (dK ([] ++ pts l[i].t.data.toList))⟩)],rfl,?_⟩ (by refine' Ev.zp <;> first | (first | exact wrap_succ (by omega) | exact congrArg (AV.lst 1) hdr | exact hlr | (exact congrArg (fun n=>au.mk 1 21 _ 0 false n) hrow) | rfl) | rfl | (refine' Ev.ze;(first | exact wrap_succ (by omega) | exact congrArg (AV.lst 1) hdr | exact hlr | (exact congrArg (fun n=>au.mk 1 21 _ 0 false n) hrow) | rfl)) | fail)
            refine ⟨.inr (.inl ⟨_,rfl,rfl⟩),by omega,hstep,by rw [List.length_drop];omega,?_⟩
            simp only [List.length_append,List.length_nil,List.length_drop,List.length_take] at hsz ⊢;omega
          · rw [hxa];exact Ev.yH (nP _) (by rw [dO,eF];omega) (by decide)
        · have hi2:(i:Int) < ((bM l).length:Int):=by omega
          have a2:¬ l[i].k = 2:=by omega
          have hn:l[i].n.toNat <= R.length:=by omega
          have hP:xU l[i] R = R.take l[i].n.toNat:=by unfold xU;rw [if_neg a2,if_pos a]
          have hstep:eX l r0 = ([] ++ R.take l[i].n.toNat) ++ eX (l.drop (i + 1)) (R.drop l[i].n.toNat):=by rw [hap,hpa,hP,List.append_assoc]
          have hrow:List.take (l[i].n.toNat - 0) (List.drop 0 (aW (dK R))) = aW (dK ([] ++ R.take l[i].n.toNat)):=by rw [EG];simp [aW,dK]
          have hlr:(List.take (l[i].n.toNat - 0) (List.drop 0 (aW (dK R)))).length = ([] ++ R.take l[i].n.toNat).length:=by rw [EG,dO,eF];simp
          have hpl2:(R.take l[i].n.toNat).length <= R.length:=by rw [List.length_take];omega
          repeat' (first | refine' Ev.zP | (with_reducible refine Ev.bQ hi2 ?_) | (with_reducible refine Ev.bT a2 ?_) | (with_reducible refine Ev.bQ a ?_) | refine' Ev.zS | refine' Ev.zK | refine' Ev.zT | fail)
          · refine Ev.zA (k - 1) ⟨i + 1,c + 8 + 8,([] ++ R.take l[i].n.toNat),R.drop l[i].n.toNat,.own 9256 (c + 8) 0 ([] ++ R.take l[i].n.toNat).length,[(9256,⟨1,21,c + 8,0,false,aW (dK ([] ++ R.take l[i].n.toNat))⟩)],rfl,?_⟩ (by refine' Ev.zp <;> first | (first | exact wrap_succ (by omega) | exact congrArg (AV.lst 1) hdr | exact hlr | (exact congrArg (fun n=>au.mk 1 21 _ 0 false n) hrow) | rfl) | rfl | (refine' Ev.ze;(first | exact wrap_succ (by omega) | exact congrArg (AV.lst 1) hdr | exact hlr | (exact congrArg (fun n=>au.mk 1 21 _ 0 false n) hrow) | rfl)) | fail)
            refine ⟨.inr (.inr ⟨_,rfl,rfl⟩),by omega,hstep,by rw [List.length_drop];omega,?_⟩
            simp only [List.length_append,List.length_nil,List.length_drop,List.length_take] at hsz ⊢;omega
          · rw [EG];exact Ev.yH (nP _) (by rw [dO,eF];omega) (by decide)
        · have hi2:(i:Int) < ((bM l).length:Int):=by omega
          have a2:¬ l[i].k = 2:=by omega
          have a1:¬ l[i].k = 1:=by omega
          have hn:l[i].n.toNat <= R.length:=by omega
          have hP:xU l[i] R = []:=by unfold xU;rw [if_neg a2,if_neg a1]
          have hstep:eX l r0 = [] ++ eX (l.drop (i + 1)) (R.drop l[i].n.toNat):=by rw [hap,hpa,hP];rfl
          repeat' (first | refine' Ev.zP | (with_reducible refine Ev.bQ hi2 ?_) | (with_reducible refine Ev.bT a2 ?_) | (with_reducible refine Ev.bT a1 ?_) | refine' Ev.zS | refine' Ev.zK | refine' Ev.zT | fail)
          · refine Ev.zA (k - 1) ⟨i + 1,c + 8,[],R.drop l[i].n.toNat,nilA,[],rfl,?_⟩ (by refine' Ev.zp <;> first | (first | exact wrap_succ (by omega) | exact congrArg (AV.lst 1) hdr | rfl) | rfl | (refine' Ev.ze;(first | exact wrap_succ (by omega) | exact congrArg (AV.lst 1) hdr | rfl)) | fail)
            refine ⟨.inl ⟨rfl,rfl,rfl⟩,by omega,hstep,by rw [List.length_drop];omega,?_⟩
            simp only [List.length_append,List.length_nil,List.length_drop,List.length_take] at hsz ⊢;omega
      · rcases iP hs with ⟨a,b,c',d⟩ | ⟨a | a,b,c',d⟩
        · have hi2:(i:Int) < ((bM l).length:Int):=by omega
          have hn:l[i].n.toNat <= R.length:=by omega
          have hP:xU l[i] R = pts l[i].t.data.toList:=by unfold xU;rw [if_pos a]
          have hstep:eX l r0 = (O ++ pts l[i].t.data.toList) ++ eX (l.drop (i + 1)) (R.drop l[i].n.toNat):=by rw [hap,hpa,hP,List.append_assoc]
          have hrow:aW (dK O) ++ iC l[i].t = aW (dK (O ++ pts l[i].t.data.toList)):=by rw [hxa];simp [aW,dK]
          have hlr:O.length + (iC l[i].t).length = (O ++ pts l[i].t.data.toList).length:=by rw [hxa,dO,eF];simp
          have hpl2:(pts l[i].t.data.toList).length <= l[i].t.size:=by exact hpx
          repeat' (first | refine' Ev.zP | (with_reducible refine Ev.bQ hi2 ?_) | (with_reducible refine Ev.bQ a ?_) | refine' Ev.zS | refine' Ev.zK | refine' Ev.zT | fail)
          · refine Ev.zA (k - 1) ⟨i + 1,c + 8 + 8,(O ++ pts l[i].t.data.toList),R.drop l[i].n.toNat,.own 8224 (c + 8) 0 (O ++ pts l[i].t.data.toList).length,[(8224,⟨1,21,c + 8,0,false,aW (dK (O ++ pts l[i].t.data.toList))⟩)],rfl,?_⟩ (by refine' Ev.zp <;> first | (first | exact wrap_succ (by omega) | exact congrArg (AV.lst 1) hdr | exact hlr | (exact congrArg (fun n=>au.mk 1 21 _ 0 false n) hrow) | rfl) | rfl | (refine' Ev.ze;(first | exact wrap_succ (by omega) | exact congrArg (AV.lst 1) hdr | exact hlr | (exact congrArg (fun n=>au.mk 1 21 _ 0 false n) hrow) | rfl)) | fail)
            refine ⟨.inr (.inl ⟨_,rfl,rfl⟩),by omega,hstep,by rw [List.length_drop];omega,?_⟩
            simp only [List.length_append,List.length_nil,List.length_drop,List.length_take] at hsz ⊢;omega
          · rw [hxa];exact Ev.wH (by rw [hol]) (nP _) (by rw [dO,eF];omega) (by decide)
        · have hi2:(i:Int) < ((bM l).length:Int):=by omega
          have a2:¬ l[i].k = 2:=by omega
          have hn:l[i].n.toNat <= R.length:=by omega
          have hP:xU l[i] R = R.take l[i].n.toNat:=by unfold xU;rw [if_neg a2,if_pos a]
          have hstep:eX l r0 = (O ++ R.take l[i].n.toNat) ++ eX (l.drop (i + 1)) (R.drop l[i].n.toNat):=by rw [hap,hpa,hP,List.append_assoc]
          have hrow:aW (dK O) ++ List.take (l[i].n.toNat - 0) (List.drop 0 (aW (dK R))) = aW (dK (O ++ R.take l[i].n.toNat)):=by rw [EG];simp [aW,dK]
          have hlr:O.length + (List.take (l[i].n.toNat - 0) (List.drop 0 (aW (dK R)))).length = (O ++ R.take l[i].n.toNat).length:=by rw [EG,dO,eF];simp
          have hpl2:(R.take l[i].n.toNat).length <= R.length:=by rw [List.length_take];omega
          repeat' (first | refine' Ev.zP | (with_reducible refine Ev.bQ hi2 ?_) | (with_reducible refine Ev.bT a2 ?_) | (with_reducible refine Ev.bQ a ?_) | refine' Ev.zS | refine' Ev.zK | refine' Ev.zT | fail)
          · refine Ev.zA (k - 1) ⟨i + 1,c + 8 + 8,(O ++ R.take l[i].n.toNat),R.drop l[i].n.toNat,.own 8224 (c + 8) 0 (O ++ R.take l[i].n.toNat).length,[(8224,⟨1,21,c + 8,0,false,aW (dK (O ++ R.take l[i].n.toNat))⟩)],rfl,?_⟩ (by refine' Ev.zp <;> first | (first | exact wrap_succ (by omega) | exact congrArg (AV.lst 1) hdr | exact hlr | (exact congrArg (fun n=>au.mk 1 21 _ 0 false n) hrow) | rfl) | rfl | (refine' Ev.ze;(first | exact wrap_succ (by omega) | exact congrArg (AV.lst 1) hdr | exact hlr | (exact congrArg (fun n=>au.mk 1 21 _ 0 false n) hrow) | rfl)) | fail)
            refine ⟨.inr (.inl ⟨_,rfl,rfl⟩),by omega,hstep,by rw [List.length_drop];omega,?_⟩
            simp only [List.length_append,List.length_nil,List.length_drop,List.length_take] at hsz ⊢;omega
          · rw [EG];exact Ev.wH (by rw [hol]) (nP _) (by rw [dO,eF];omega) (by decide)
        · have hi2:(i:Int) < ((bM l).length:Int):=by omega
          have a2:¬ l[i].k = 2:=by omega
          have a1:¬ l[i].k = 1:=by omega
          have hn:l[i].n.toNat <= R.length:=by omega
          have hP:xU l[i] R = []:=by unfold xU;rw [if_neg a2,if_neg a1]
          have hstep:eX l r0 = O ++ eX (l.drop (i + 1)) (R.drop l[i].n.toNat):=by rw [hap,hpa,hP];rfl
          repeat' (first | refine' Ev.zP | (with_reducible refine Ev.bQ hi2 ?_) | (with_reducible refine Ev.bT a2 ?_) | (with_reducible refine Ev.bT a1 ?_) | refine' Ev.zS | refine' Ev.zK | refine' Ev.zT | fail)
          · refine Ev.zA (k - 1) ⟨i + 1,c + 8,O,R.drop l[i].n.toNat,.own 8224 v 0 O.length,[(8224,⟨1,21,v,0,false,aW (dK O)⟩)],rfl,?_⟩ (by refine' Ev.zp <;> first | (first | exact wrap_succ (by omega) | exact congrArg (AV.lst 1) hdr | rfl) | rfl | (refine' Ev.ze;(first | exact wrap_succ (by omega) | exact congrArg (AV.lst 1) hdr | rfl)) | fail)
            refine ⟨.inr (.inl ⟨_,rfl,rfl⟩),by omega,hstep,by rw [List.length_drop];omega,?_⟩
            simp only [List.length_drop] at hsz ⊢;omega
      · rcases iP hs with ⟨a,b,c',d⟩ | ⟨a | a,b,c',d⟩
        · have hi2:(i:Int) < ((bM l).length:Int):=by omega
          have hn:l[i].n.toNat <= R.length:=by omega
          have hP:xU l[i] R = pts l[i].t.data.toList:=by unfold xU;rw [if_pos a]
          have hstep:eX l r0 = (O ++ pts l[i].t.data.toList) ++ eX (l.drop (i + 1)) (R.drop l[i].n.toNat):=by rw [hap,hpa,hP,List.append_assoc]
          have hrow:aW (dK O) ++ iC l[i].t = aW (dK (O ++ pts l[i].t.data.toList)):=by rw [hxa];simp [aW,dK]
          have hlr:O.length + (iC l[i].t).length = (O ++ pts l[i].t.data.toList).length:=by rw [hxa,dO,eF];simp
          have hpl2:(pts l[i].t.data.toList).length <= l[i].t.size:=by exact hpx
          repeat' (first | refine' Ev.zP | (with_reducible refine Ev.bQ hi2 ?_) | (with_reducible refine Ev.bQ a ?_) | refine' Ev.zS | refine' Ev.zK | refine' Ev.zT | fail)
          · refine Ev.zA (k - 1) ⟨i + 1,c + 8 + 8,(O ++ pts l[i].t.data.toList),R.drop l[i].n.toNat,.own 9256 (c + 8) 0 (O ++ pts l[i].t.data.toList).length,[(9256,⟨1,21,c + 8,0,false,aW (dK (O ++ pts l[i].t.data.toList))⟩)],rfl,?_⟩ (by refine' Ev.zp <;> first | (first | exact wrap_succ (by omega) | exact congrArg (AV.lst 1) hdr | exact hlr | (exact congrArg (fun n=>au.mk 1 21 _ 0 false n) hrow) | rfl) | rfl | (refine' Ev.ze;(first | exact wrap_succ (by omega) | exact congrArg (AV.lst 1) hdr | exact hlr | (exact congrArg (fun n=>au.mk 1 21 _ 0 false n) hrow) | rfl)) | fail)
            refine ⟨.inr (.inr ⟨_,rfl,rfl⟩),by omega,hstep,by rw [List.length_drop];omega,?_⟩
            simp only [List.length_append,List.length_nil,List.length_drop,List.length_take] at hsz ⊢;omega
          · rw [hxa];exact Ev.wH (by rw [hol]) (nP _) (by rw [dO,eF];omega) (by decide)
        · have hi2:(i:Int) < ((bM l).length:Int):=by omega
          have a2:¬ l[i].k = 2:=by omega
          have hn:l[i].n.toNat <= R.length:=by omega
          have hP:xU l[i] R = R.take l[i].n.toNat:=by unfold xU;rw [if_neg a2,if_pos a]
          have hstep:eX l r0 = (O ++ R.take l[i].n.toNat) ++ eX (l.drop (i + 1)) (R.drop l[i].n.toNat):=by rw [hap,hpa,hP,List.append_assoc]
          have hrow:aW (dK O) ++ List.take (l[i].n.toNat - 0) (List.drop 0 (aW (dK R))) = aW (dK (O ++ R.take l[i].n.toNat)):=by rw [EG];simp [aW,dK]
          have hlr:O.length + (List.take (l[i].n.toNat - 0) (List.drop 0 (aW (dK R)))).length = (O ++ R.take l[i].n.toNat).length:=by rw [EG,dO,eF];simp
          have hpl2:(R.take l[i].n.toNat).length <= R.length:=by rw [List.length_take];omega
          repeat' (first | refine' Ev.zP | (with_reducible refine Ev.bQ hi2 ?_) | (with_reducible refine Ev.bT a2 ?_) | (with_reducible refine Ev.bQ a ?_) | refine' Ev.zS | refine' Ev.zK | refine' Ev.zT | fail)
          · refine Ev.zA (k - 1) ⟨i + 1,c + 8 + 8,(O ++ R.take l[i].n.toNat),R.drop l[i].n.toNat,.own 9256 (c + 8) 0 (O ++ R.take l[i].n.toNat).length,[(9256,⟨1,21,c + 8,0,false,aW (dK (O ++ R.take l[i].n.toNat))⟩)],rfl,?_⟩ (by refine' Ev.zp <;> first | (first | exact wrap_succ (by omega) | exact congrArg (AV.lst 1) hdr | exact hlr | (exact congrArg (fun n=>au.mk 1 21 _ 0 false n) hrow) | rfl) | rfl | (refine' Ev.ze;(first | exact wrap_succ (by omega) | exact congrArg (AV.lst 1) hdr | exact hlr | (exact congrArg (fun n=>au.mk 1 21 _ 0 false n) hrow) | rfl)) | fail)
            refine ⟨.inr (.inr ⟨_,rfl,rfl⟩),by omega,hstep,by rw [List.length_drop];omega,?_⟩
            simp only [List.length_append,List.length_nil,List.length_drop,List.length_take] at hsz ⊢;omega
          · rw [EG];exact Ev.wH (by rw [hol]) (nP _) (by rw [dO,eF];omega) (by decide)
        · have hi2:(i:Int) < ((bM l).length:Int):=by omega
          have a2:¬ l[i].k = 2:=by omega
          have a1:¬ l[i].k = 1:=by omega
          have hn:l[i].n.toNat <= R.length:=by omega
          have hP:xU l[i] R = []:=by unfold xU;rw [if_neg a2,if_neg a1]
          have hstep:eX l r0 = O ++ eX (l.drop (i + 1)) (R.drop l[i].n.toNat):=by rw [hap,hpa,hP];rfl
          repeat' (first | refine' Ev.zP | (with_reducible refine Ev.bQ hi2 ?_) | (with_reducible refine Ev.bT a2 ?_) | (with_reducible refine Ev.bT a1 ?_) | refine' Ev.zS | refine' Ev.zK | refine' Ev.zT | fail)
          · refine Ev.zA (k - 1) ⟨i + 1,c + 8,O,R.drop l[i].n.toNat,.own 9256 v 0 O.length,[(9256,⟨1,21,v,0,false,aW (dK O)⟩)],rfl,?_⟩ (by refine' Ev.zp <;> first | (first | exact wrap_succ (by omega) | exact congrArg (AV.lst 1) hdr | rfl) | rfl | (refine' Ev.ze;(first | exact wrap_succ (by omega) | exact congrArg (AV.lst 1) hdr | rfl)) | fail)
            refine ⟨.inr (.inr ⟨_,rfl,rfl⟩),by omega,hstep,by rw [List.length_drop];omega,?_⟩
            simp only [List.length_drop] at hsz ⊢;omega
    · have hi2:¬ (i:Int) < ((bM l).length:Int):=by omega
      have hdl:l.drop i = []:=List.drop_of_length_le (by omega)
      rw [hdl] at hap
      have hO:eX l r0 = O:=by rw [hap];simp [eX]
      rw [hO,<- jw]
      rcases hst with ⟨rfl,rfl,rfl⟩ | ⟨v,rfl,rfl⟩ | ⟨v,rfl,rfl⟩
      all_goals (repeat' (first | refine' Ev.zP | (with_reducible refine Ev.bT hi2 ?_) | refine' Ev.zS | refine' Ev.zK | ((refine Ev.Bv [] rfl ?_);conv=>whnf) | refine' Ev.zT | fail))
      · exact ⟨rfl,rfl⟩
      all_goals
        refine ⟨?_,rfl⟩
        have e:List.take O.length (List.drop 0 (dK O)) = dK O:=by rw [List.drop_zero,List.take_of_length_le (by rw [eF];exact Nat.le_refl _)]
        show AV.dD [.v (.string (runesBytes (List.take O.length (List.drop 0 (dK O))))),_] = _
        rw [e]
  · have:pR l t = 5:=by unfold pR;rw [if_neg (by simp;assumption),if_neg (by assumption),if_pos (by assumption)]
    exact ⟨(yM this (by decide)).symm,rfl⟩
  · have h1:aF l ≠ 0:=by assumption
    have:pR l t = aF l:=by unfold pR;rw [if_pos h1]
    exact ⟨(yM this h1).symm,rfl⟩
theorem aaG:∀ c,Tryd.f46.body = some c -> comp c = (.seq (.reg 0 [I.n 0 1 (.box 27 (.tmp 0)),I.n 1 2 (I.si 0)]) (.seq (.reg 1 [I.n 0 6 (I.ld 27 1),I.n 1 7 (I.c1 95 6 27),I.n 2 5 (I.mv 7),I.n 3 8 (I.ex 5 0),I.n 4 9 (I.ex 5 1),I.n 5 3 (I.sa 8),I.n 6 4 (I.sa 9)]) (.seq (.reg 2 [I.n 0 10 (I.mv 4),I.n 1 2 (I.sa 10)]) .ret))):=by
 intro c h
 have:c = Tryd.f46.body.get rfl:=by rw [<- Option.some_inj,<- h];rfl
 rw [this];rfl
theorem aaH:∀ c,Tryd.f23.body = some c -> comp c = (.seq (.reg 0 [I.n 0 4 (.alloc 27)]) (.seq (.reg 1 [I.n 0 8 (I.mv 0),I.n 1 9 (I.mv 0),I.n 2 10 (I.ln 9 9),I.n 3 11 (.call { callee:=.builtin .min,args:=#[.tmp 10,.const (Value.int .i64 20)],argTypes:=#[3,3] }),I.n 4 12 (.slice 9 (.tmp 8) none (some (.tmp 11)) none),I.n 5 13 (I.c1 37 12 9),I.n 6 14 (.buildSlice 25 1 #[(0,.const (Value.int .i64 0))]),I.n 7 15 (.build 27 #[(0,.tmp 13),(1,.tmp 14)]),I.n 8 5 (.alloc 27),I.u 9 (I.st 27 5 15)]) (.seq (.reg 2 [I.n 0 16 (I.mv 1),I.n 1 17 (I.fa 27 5 0),I.n 2 18 (I.ld 9 17),I.n 3 19 (I.c1 70 18 9),I.n 4 20 (I.c2 69 16 19 22 3),I.n 5 6 (I.sa 20)]) (.seq (.seq (.reg 3 [I.n 0 7 (I.si 0)]) (.block 0 (.loop (.seq (.seq (.reg 4 [I.n 0 21 (I.mv 7),I.n 1 22 (I.mv 6),I.n 2 23 (I.ln 22 22),I.n 3 24 (I.bo .lss 3 21 23 3)]) (.cond (.tmp 24) .skip (.exit 0))) (.seq (.block 1 (.seq (.reg 6 [I.n 0 27 (I.fa 27 5 1),I.n 1 28 (I.ld 25 27),I.n 2 29 (I.mv 7),I.n 3 30 (I.bc .add 3 29 1 3),I.n 4 31 (I.b1 25 30),I.n 5 32 (I.ap 28 31 25 25),I.n 6 33 (I.fa 27 5 1),I.u 7 (I.st 25 33 32)]) (.draw 7 [I.n 0 34 (I.fa 27 5 2),I.n 1 35 (I.ld 22 34),I.n 2 36 (I.mv 6),I.n 3 37 (I.mv 7),I.n 4 38 (I.ia 22 36 37),I.n 5 39 (I.ld 23 38),I.n 6 40 (I.c1 71 39 23),I.n 7 41 (I.b1 22 40),I.n 8 42 (I.ap 35 41 22 22),I.n 9 43 (I.fa 27 5 2),I.u 10 (I.st 22 43 42)] [[],[0],[],[],[2,3],[4],[5],[6],[1,7,6],[0,1,2,3,4,5,6,7,8],[9,8,8,0,1,2,3,4,5,6,7,8]]))) (.reg 5 [I.n 0 25 (I.mv 7),I.n 1 26 (I.bc .add 3 25 1 3),I.n 2 7 (I.sa 26)])))))) (.seq (.reg 8 [I.n 0 44 (I.ld 27 5),I.u 1 (I.st 27 4 44)]) .ret))))):=by
 intro c h
 have:c = Tryd.f23.body.get rfl:=by rw [<- Option.some_inj,<- h];rfl
 rw [this];rfl
def kY:List (List Sp) -> ByteArray -> Int × ByteArray
 | [],t=>(0,t)
 | x :: l,t=>if pR x t = 0 then kY l (vJ x t) else (pR x t,⟨#[]⟩)
def OT (t:ByteArray) (l:List (List Sp)):Int × ByteArray:=if l = [] /\ validD t.data.toList = false then (3,⟨#[]⟩) else kY l t
def allA (t:ByteArray) (l:List (List Sp)):AV:=.dD [.v (.string (OT t l).2),.v (.int .i64 (OT t l).1)]
def lH (l:List (List Sp)):Nat:=(l.map bU).sum
theorem rM (x:List Sp) (l:List (List Sp)):lH (x :: l) = bU x + lH l:=by simp [lH]
theorem Dl (l:List (List Sp)):∀ i,lH (l.take i) <= lH l:=fun i=>by
 have:lH l = lH (l.take i) + lH (l.drop i):=by
   conv=>lhs;rw [<- List.take_append_drop i l]
   unfold lH;rw [List.map_append,List.sum_append]
 omega
theorem SK {t:ByteArray} (h:validD t.data.toList = false):OT t [] = (3,⟨#[]⟩):=if_pos ⟨rfl,h⟩
theorem WO {t:ByteArray} {l:List (List Sp)} (h:¬ (l = [] /\ validD t.data.toList = false)):OT t l = kY l t:=if_neg h
theorem WQ {l:List Sp} {t:ByteArray} (h:pR l t = 0):(vJ l t).size <= t.size + bU l:=by
 obtain ⟨h1,h2,h3⟩:=nN h
 have hT:vJ l t = txt (eX l (pts t.data.toList)):=if_pos h
 have hsz:=wW l (pts t.data.toList) ((eP l).1 h1).1
 rw [(jE _ h2).1,bn] at hsz
 rw [hT,<- bn,dY];exact hsz
theorem aak{G:Prop}(h:G:=by
 have hne:¬ (l = [] /\ validD t.data.toList = false):=by
   rintro ⟨e1,e2⟩
   first
     | (rename_i hv;rw [e2] at hv;cases hv)
     | (subst e1;rename_i h0;exact h0 rfl)
 have hA:allA t l = .dD [.v (.string (kY l t).2),.v (.int .i64 (kY l t).1)]:=by unfold allA;rw [WO hne]
 rw [hA]
 refine Ev.loop (fun k s=>∃ (i c:Nat) (u:ByteArray),s = ⟨[(0,.v (.string u)),(4,.v (.string ⟨#[]⟩)),(5,.v (.int .i64 0)),(18,.lst 1 (aJ l)),(19,.v (.int .i64 (aJ l).length)),(20,.v (.int .i64 i))],[],c⟩ /\ k + i = l.length /\ kY l t = kY (l.drop i) u /\ u.size + lH (l.drop i) <= 1000000000) ?_ ?_
 all_goals(rcases(⟨_⟩:PLift _)with⟨h⟩;exact h)):G:=h
theorem aau{G:Prop}(h:G:=by
 have e1:toA l[i] u = .dD [.v (.string ⟨#[]⟩),.v (.int .i64 (pR l[i] u))]:=yM rfl h0
 rw [e1] at hT
 have e2:kY l t = (pR l[i] u,⟨#[]⟩):=by rw [hg];simp only [kY];rw [if_neg h0]
 rw [e2]
 repeat' (first | refine' Ev.zP | (with_reducible refine Ev.bQ hi2 ?_) | (with_reducible refine Ev.bT h0 ?_) | (((with_reducible refine Ev.bW h0 ?_);conv=>whnf)) | refine' Ev.zS | refine' Ev.zK | ((with_reducible refine Ev.ca0 ?_);(first | refine Ev.ca (hT) ?_);conv=>whnf) | refine' Ev.zT | fail)
 exact ⟨rfl,rfl⟩):G:=h
theorem aa4{G:Prop}(h:G:=by
 have hsz:=WQ h0
 have e1:toA l[i] u = .dD [.v (.string (vJ l[i] u)),.v (.int .i64 0)]:=by unfold toA;rw [h0]
 rw [e1] at hT
 repeat' (first | refine' Ev.zP | (with_reducible refine Ev.bQ hi2 ?_) | refine' Ev.zS | refine' Ev.zK | ((with_reducible refine Ev.ca0 ?_);(first | refine Ev.ca (hT) ?_);conv=>whnf) | refine' Ev.zT | fail)
 refine Ev.zA (k - 1) ⟨i + 1,?_,vJ l[i] u,rfl,?_⟩
 refine ⟨by omega,?_,by omega⟩
 rw [hg];simp only [kY];rw [if_pos h0]):G:=h
theorem abj{G:Prop}(h:G:=by
 have hi2:¬ (i:Int) < ((aJ l).length:Int):=by omega
 have hd:l.drop i = []:=List.drop_of_length_le (by omega)
 rw [hd] at hg
 have e2:kY l t = (0,u):=hg
 rw [e2]
 repeat' (first | refine' Ev.zP | (with_reducible refine Ev.bT hi2 ?_) | refine' Ev.zS | refine' Ev.zK | refine' Ev.zT | fail)
 exact ⟨rfl,rfl⟩):G:=h
theorem ab1{G:Prop}(h:G:=by
 have hi2:(i:Int) < ((aJ l).length:Int):=by omega
 have hd:l.drop i = l[i] :: l.drop (i + 1):=List.drop_eq_getElem_cons hi
 rw [hd] at hg hu
 rw [rM] at hu
 have hT:=KT l[i] u (hx _ (List.getElem_mem hi)) (by omega)
 by_cases h0:pR l[i] u = 0
 all_goals(rcases(⟨_⟩:PLift _)with⟨h⟩;exact h)):G:=h
theorem aee{G:Prop}(h:G:=by
 refine Ev.zB ⟨l.length,0,?_,t,rfl,?_⟩
 exact ⟨by omega,rfl,by rw [List.drop_zero];exact hb⟩):G:=h
theorem G7 (t:ByteArray) (l:List (List Sp)) (hl:l.length <= 100000000) (hx:∀ x ∈ l,x.length <= 100000000) (hb:t.size + lH l <= 1000000000):aH env 57 [.v (.string t),.lst 1 (aJ l)] (fun r hs=>r = allA t l /\ hs = []):=by
 have hrl:=bK l
 have hpv:=qC t (by omega)
 refine Ev.fn [0,1,4,5,7,8,9,17,18,19,20,21,31] 0 [.tmp 4,.tmp 5] Tryd.func57 (aaD _ rfl) ?_
 repeat' (first | refine' Ev.zS | refine' Ev.zK | ((with_reducible refine Ev.ca0 ?_);(first | refine Ev.ca (hpv) ?_);conv=>whnf) | refine' Ev.zT | fail)
 · refine' aak
   · refine' aee
   rintro k s1 ⟨i,c,u,rfl,hk,hg,hu⟩
   by_cases hi:i < l.length
   · refine' ab1
     · refine' aa4
     · refine' aau
   · refine' abj
 · rename_i h0 hv
   have:l = []:=List.eq_nil_of_length_eq_zero (by omega)
   subst this
   refine ⟨?_,rfl⟩
   unfold allA;rw [SK hv];rfl
 · refine' aak
   · refine' aee
   rintro k s1 ⟨i,c,u,rfl,hk,hg,hu⟩
   by_cases hi:i < l.length
   · refine' ab1
     · refine' aa4
     · refine' aau
   · refine' abj
theorem ac4{G:Prop}(h:G:=by
 refine Ev.fn [0,1,2,4] 0 [.tmp 2] Tryd.func46 (aaG _ rfl) ?_
 repeat' (first | refine' Ev.zS | refine' Ev.zK | ((with_reducible refine Ev.ca0 ?_);(first | refine Ev.ca (h) ?_);conv=>whnf) | refine' Ev.zT | fail)
 all_goals(rcases(⟨_⟩:PLift _)with⟨h⟩;exact h)):G:=h
theorem OU (c:Lg) (hc:LgS c):aH env 46 [Xz c] (fun r hs=>r = .v (.int .i64 (EU c)) /\ hs = []):=by
 have h:=JJ c hc
 unfold szA at h
 by_cases h0:EU c = 0
 · rw [if_pos h0] at h
   refine' ac4
   exact ⟨by rw [h0];rfl,rfl⟩
 · rw [if_neg h0] at h
   refine' ac4
   exact ⟨rfl,rfl⟩
def kZ (t:ByteArray) (l:List (List Sp)):Lg :=
 let b:=jm (t.extract 0 (min t.size 20))
 let w:=OL l (aI b.data.toList)
 ⟨b,(List.range (w.length + 1)).map fun (i:Nat)=>(i:Int),w.map norm⟩
theorem abb{G:Prop}(h:G:=by (repeat' (first | refine' Ev.zP | (with_reducible refine Ev.bQ hi2 ?_) | refine' Ev.zS | refine' Ev.zK | ((with_reducible refine Ev.ca0 ?_);(first | refine Ev.ca (hO hi) ?_);conv=>whnf) | ((with_reducible refine Ev.jO ?_);(first | refine Ev.dr 7 [] [0,1,2,3,4,5,6,7,8,9,10] ?_);intro Q hQ;(simp only [Ev.aK,Ev.aT]);conv=>whnf) | refine' Ev.zT | fail));all_goals(rcases(⟨_⟩:PLift _)with⟨h⟩;exact h)):G:=h
theorem ab7{G:Prop}(h:G:=by (repeat' (first | refine' Ev.zP | (with_reducible refine Ev.bT hi2 ?_) | refine' Ev.zS | refine' Ev.zK | ((with_reducible refine Ev.jO ?_);(first | refine Ev.dr 7 [] [0,1,2,3,4,5,6,7,8,9,10] ?_);intro Q hQ;(simp only [Ev.aK,Ev.aT]);conv=>whnf) | refine' Ev.zT | fail));all_goals(rcases(⟨_⟩:PLift _)with⟨h⟩;exact h)):G:=h
theorem aeb{G:Prop}(h:G:=by (have aiJ:(t.extract 0 (min t.size 20)).size <= 20:=by rw [ByteArray.size_extract];omega);all_goals(rcases(⟨_⟩:PLift _)with⟨h⟩;exact h)):G:=h
theorem JL (t:ByteArray) (l:List (List Sp)):aH env 23 [.v (.string t),.lst 1 (aJ l)] (fun r hs=>nC r (Xz (kZ t l)) /\ hs = []):=by
 have hrl:=bK l
 refine' aeb
 have hx:(min (t.size:Int) 20).toNat = min t.size 20:=by omega
 have hF:aH env 37 [.v (.string (t.extract 0 (min (t.size:Int) 20).toNat))] (fun r hs=>r = .v (.string (jm (t.extract 0 (min t.size 20)))) /\ hs = []):=by rw [hx];exact Gf _ (by omega)
 have hC:=xP (jm (t.extract 0 (min t.size 20))) (by have:=Gg (t.extract 0 (min t.size 20)) (by omega);omega)
 have hcc:=wR (t.extract 0 (min t.size 20))
 have hW:=GR l (aI (jm (t.extract 0 (min t.size 20))).data.toList) (by omega)
 have hL:Xz (kZ t l) = .agg [.v (.string (jm (t.extract 0 (min t.size 20)))),.lst 1 (ints ((List.range ((OL l (aI (jm (t.extract 0 (min t.size 20))).data.toList)).length + 1)).map fun (i:Nat)=>(i:Int))),.lst 1 (aJ ((OL l (aI (jm (t.extract 0 (min t.size 20))).data.toList)).map norm))]:=rfl
 rw [hL]
 have hcw:=Ez l (n:=aI (jm (t.extract 0 (min t.size 20))).data.toList) (by omega)
 have hN:∀ x ∈ OL l (aI (jm (t.extract 0 (min t.size 20))).data.toList),x.length <= 13 /\ bU x <= 312:=by
   intro x hx
   obtain ⟨y,m,rfl,m1,m2⟩:=yL hcw.1 x hx
   exact vG y (by omega)
 obtain ⟨_,h20⟩:=hcw
 generalize jm (t.extract 0 (min t.size 20)) = b at *
 generalize OL l (aI b.data.toList) = W at *
 have hwl:=bK W
 refine Ev.fn [0,1,4,5,6,7,24] 0 [.cell 4 27] Tryd.func23 (aaH _ rfl) ?_
 repeat' (first | refine' Ev.zP | refine' Ev.zS | refine' Ev.zK | ((with_reducible refine Ev.ca0 ?_);(first | refine Ev.ca (hF) ?_ | refine Ev.ca (hC) ?_ | refine Ev.ca (hW) ?_);conv=>whnf) | ((with_reducible refine Ev.jO ?_);(first | refine Ev.dr 7 [] [0,1,2,3,4,5,6,7,8,9,10] ?_);intro Q hQ;(simp only [Ev.aK,Ev.aT]);conv=>whnf) | refine' Ev.zT | fail)
 have hrg:∀ i:Nat,((List.range (i + 1)).map fun (i:Nat)=>(i:Int)) = ((List.range i).map fun (i:Nat)=>(i:Int)) ++ [(i:Int)]:=fun i=>by rw [List.range_succ,List.map_append];rfl
 refine Ev.loop (fun k s=>∃ (i c v w:Nat) (sg:AV) (hx:List (Nat × au)),s = ⟨[(4,.ptr 0 0 0 0),(5,.ptr 576 w 0 0),(6,.lst 1 (aJ W)),(7,.v (.int .i64 i))],
     (576,⟨3,27,w,0,true,[[.v (.string b),.own 560 v 0 (i + 1),sg]]⟩) :: (560,⟨1,3,v,0,false,ints ((List.range (i + 1)).map fun (i:Nat)=>(i:Int))⟩) :: (0,⟨3,27,0,0,true,[[.v (.string ⟨#[]⟩),nilA,nilA]]⟩) :: hx,c⟩ /\
     ((i = 0 /\ sg = nilA /\ hx = []) ∨ (0 < i /\ ∃ u,sg = .own 3648 u 0 i /\ hx = [(3648,⟨1,23,u,0,false,aJ ((W.take i).map norm)⟩)])) /\ k + i = W.length) ?_ ?_
 · refine Ev.zB ⟨W.length,0,?_,?_,?_,nilA,[],rfl,?_⟩
   exact ⟨.inl ⟨rfl,rfl,rfl⟩,by omega⟩
 rintro k s1 ⟨i,c,v,w,sg,hx,rfl,hsg,hk⟩
 have hlr:=ig ((List.range (i + 1)).map fun (i:Nat)=>(i:Int))
 rw [List.length_map,List.length_range] at hlr
 have hO:∀ (hi:i < W.length),aH env 71 [.lst 3 (bM W[i])] (fun r hs=>r = .lst 3 (bM (norm W[i])) /\ hs = []):=fun hi=>by
   have:=hN _ (List.getElem_mem hi);exact OH _ (by omega) (by omega)
 by_cases hi:i < W.length
 · have hi2:(i:Int) < ((aJ W).length:Int):=by omega
   rcases hsg with ⟨rfl,rfl,rfl⟩ | ⟨h0,u,rfl,rfl⟩
   · refine' abb
     have hw1:IntKind.i64.wrap (((0:Nat):Int) + 1) = ((0 + 1:Nat):Int):=by rw [aY (by omega)];rfl
     have hr1:ints ((List.range (0 + 1)).map fun (i:Nat)=>(i:Int)) ++ List.take 1 (List.drop 0 [[AV.v (.int .i64 (IntKind.i64.wrap (((0:Nat):Int) + 1)))]]) = ints ((List.range (0 + 1 + 1)).map fun (i:Nat)=>(i:Int)):=by rw [hrg (0 + 1),vI,hw1];rfl
     have hr2:List.take 1 (List.drop 0 [[AV.lst 3 (bM (norm W[0]))]]) = aJ ((W.take (0 + 1)).map norm):=by rw [List.take_succ_eq_append_getElem hi];rfl
     refine Ev.zA (k - 1) ⟨0 + 1,?_,c + 8,w,.own 3648 (c + 8 + 8 + 8) 0 (0 + 1),[(3648,⟨1,23,c + 8 + 8 + 8,0,false,aJ ((W.take (0 + 1)).map norm)⟩)],rfl,?_⟩ (by refine' Ev.zp <;> first | (first | exact wrap_succ (by omega) | exact congrArg (fun n=>au.mk 1 3 _ 0 false n) hr1 | exact congrArg (fun n=>au.mk 1 23 _ 0 false n) hr2 | rfl) | rfl | (refine' Ev.ze;(first | exact wrap_succ (by omega) | exact congrArg (fun n=>au.mk 1 3 _ 0 false n) hr1 | exact congrArg (fun n=>au.mk 1 23 _ 0 false n) hr2 | rfl)) | fail)
     exact ⟨.inr ⟨by omega,_,rfl,rfl⟩,by omega⟩
   · have hml:=bK ((W.take i).map norm)
     rw [List.length_map,List.length_take] at hml
     refine' abb
     have hw1:IntKind.i64.wrap ((i:Int) + 1) = ((i + 1:Nat):Int):=by rw [aY (by omega)];simp
     have hr1:ints ((List.range (i + 1)).map fun (i:Nat)=>(i:Int)) ++ List.take 1 (List.drop 0 [[AV.v (.int .i64 (IntKind.i64.wrap ((i:Int) + 1)))]]) = ints ((List.range (i + 1 + 1)).map fun (i:Nat)=>(i:Int)):=by rw [hrg (i + 1),vI,hw1];rfl
     have hr2:aJ ((W.take i).map norm) ++ List.take 1 (List.drop 0 [[AV.lst 3 (bM (norm W[i]))]]) = aJ ((W.take (i + 1)).map norm):=by rw [List.take_succ_eq_append_getElem hi,List.map_append,wU];rfl
     refine Ev.zA (k - 1) ⟨i + 1,?_,c + 8,w,.own 3648 (c + 8 + 8 + 8) 0 (i + 1),[(3648,⟨1,23,c + 8 + 8 + 8,0,false,aJ ((W.take (i + 1)).map norm)⟩)],rfl,?_⟩ (by refine' Ev.zp <;> first | (first | exact wrap_succ (by omega) | exact congrArg (fun n=>au.mk 1 3 _ 0 false n) hr1 | exact congrArg (fun n=>au.mk 1 23 _ 0 false n) hr2 | rfl) | rfl | (refine' Ev.ze;(first | exact wrap_succ (by omega) | exact congrArg (fun n=>au.mk 1 3 _ 0 false n) hr1 | exact congrArg (fun n=>au.mk 1 23 _ 0 false n) hr2 | rfl)) | fail)
     exact ⟨.inr ⟨by omega,_,rfl,rfl⟩,by omega⟩
 · have hi2:¬ (i:Int) < ((aJ W).length:Int):=by omega
   rcases hsg with ⟨rfl,rfl,rfl⟩ | ⟨h0,u,rfl,rfl⟩
   · refine' ab7
     have:W = []:=List.eq_nil_of_length_eq_zero (by omega)
     subst this
     refine ⟨nC.adW (nC.refl _) (nC.refl _) (nC.nil 1),rfl⟩
   · refine' ab7
     have hiW:i = W.length:=by omega
     subst hiW
     have e1:List.take (W.length + 1) (List.drop 0 (ints ((List.range (W.length + 1)).map fun (i:Nat)=>(i:Int)))) = ints ((List.range (W.length + 1)).map fun (i:Nat)=>(i:Int)):=by rw [List.drop_zero,List.take_of_length_le (by omega)]
     have e2:List.take W.length (List.drop 0 (aJ ((W.take W.length).map norm))) = aJ (W.map norm):=by rw [List.drop_zero,List.take_length,List.take_of_length_le (by simp)]
     refine ⟨?_,rfl⟩
     show nC (AV.agg [_,.lst 1 (List.take (W.length + 1) (List.drop 0 (ints _))),.lst 1 (List.take W.length (List.drop 0 (aJ _)))]) _
     rw [e1,e2];exact nC.refl _
theorem JM (t:ByteArray) (l:List (List Sp)):aH env 23 [.v (.string t),.lst 1 (aJ l)] (fun r hs=>r = Xz (kZ t l) /\ hs = []) :=
 (JL t l).res (fun r hs h=>⟨_,⟨rfl,h.2⟩,h.1⟩)
end Go.Proofs.YtadlnaljicikfaaDoor.aB
namespace Go.Proofs.YtadlnaljicikfaaDoor.aB
open Go
inductive Mk where
 | put (c:Nat)
 | keep
 | drop
def dA:List Mk -> Nat
 | []=>0
 | .put _ :: l=>dA l
 | .keep :: l=>dA l + 1
 | .drop :: l=>dA l + 1
def bJ:List Mk -> Nat
 | []=>0
 | .put _ :: l=>bJ l + 1
 | .keep :: l=>bJ l + 1
 | .drop :: l=>bJ l
def lg (w:Nat -> Nat):List Mk -> Nat
 | []=>0
 | .put c :: l=>lg w l + w c
 | .keep :: l=>lg w l
 | .drop :: l=>lg w l
theorem dJ:∀ (a b:List Mk),dA (a ++ b) = dA a + dA b
 | [],b=>by simp [dA]
 | .put c :: a,b=>by rw [List.cons_append];simp only [dA];exact dJ a b
 | .keep :: a,b=>by rw [List.cons_append];simp only [dA];rw [dJ a b];omega
 | .drop :: a,b=>by rw [List.cons_append];simp only [dA];rw [dJ a b];omega
theorem dZ:∀ (a b:List Mk),bJ (a ++ b) = bJ a + bJ b
 | [],b=>by simp [bJ]
 | .put c :: a,b=>by rw [List.cons_append];simp only [bJ];rw [dZ a b];omega
 | .keep :: a,b=>by rw [List.cons_append];simp only [bJ];rw [dZ a b];omega
 | .drop :: a,b=>by rw [List.cons_append];simp only [bJ];exact dZ a b
def jL (k:Bool) (f:List Mk -> List Mk):List Mk -> List Mk
 | .drop :: x=>.drop :: jL k f x
 | .put c :: x=>if k then .put c :: f x else f x
 | .keep :: x=>(if k then .keep else .drop) :: f x
 | []=>[]
def fM:List Mk -> List Mk -> List Mk
 | [],x=>x
 | .put c :: y,x=>.put c :: fM y x
 | .keep :: y,x=>jL true (fM y) x
 | .drop :: y,x=>jL false (fM y) x
def o7 (k:Bool) (f:List Mk -> List Mk):List Mk -> List Mk
 | .put c :: a=>.put c :: o7 k f a
 | .keep :: a=>if k then .keep :: f a else f a
 | .drop :: a=>if k then .drop :: f a else f a
 | []=>[]
def iL:List Mk -> List Mk -> List Mk
 | [],a=>a
 | .put _ :: s,a=>.keep :: iL s a
 | .keep :: s,a=>o7 true (iL s) a
 | .drop :: s,a=>o7 false (iL s) a
def jl:List Mk -> List Nat -> List Nat
 | [],r=>r
 | .put c :: l,r=>c :: jl l r
 | .keep :: l,p :: r=>p :: jl l r
 | .drop :: l,_ :: r=>jl l r
 | .keep :: _,[]=>[]
 | .drop :: _,[]=>[]
theorem jZ (w:Nat -> Nat):∀ (y x:List Mk),bJ x = dA y -> dA (fM y x) = dA x /\ bJ (fM y x) = bJ y /\ lg w (fM y x) <= lg w x + lg w y
 | [],x,h=>⟨rfl,h,by simp only [fM,lg];omega⟩
 | .put c :: y,x,h=>by
   have:=jZ w y x h
   simp only [fM,dA,bJ,lg];omega
 | .keep :: y,x,h=>by
   simp only [fM]
   induction x with
   | nil=>simp [bJ,dA] at h
   | cons a x ih =>
     cases a with
     | drop=>have:=ih h;simp only [jL,dA,bJ,lg] at this ⊢;omega
     | put c=>have:=jZ w y x (by simp only [bJ,dA] at h;omega);simp only [jL,if_true,dA,bJ,lg];omega
     | keep=>have:=jZ w y x (by simp only [bJ,dA] at h;omega);simp only [jL,if_true,dA,bJ,lg];omega
 | .drop :: y,x,h=>by
   simp only [fM]
   induction x with
   | nil=>simp [bJ,dA] at h
   | cons a x ih =>
     cases a with
     | drop=>have:=ih h;simp only [jL,dA,bJ,lg] at this ⊢;omega
     | put c=>have:=jZ w y x (by simp only [bJ,dA] at h;omega);simp only [jL,Bool.false_eq_true,if_false,dA,bJ,lg];omega
     | keep=>have:=jZ w y x (by simp only [bJ,dA] at h;omega);simp only [jL,Bool.false_eq_true,if_false,dA,bJ,lg];omega
theorem ku (w:Nat -> Nat):∀ (s a:List Mk),dA a = dA s -> dA (iL s a) = bJ s /\ lg w (iL s a) = lg w a /\ bJ (iL s a) + dA a <= bJ a + bJ s + dA a
 | [],a,h=>⟨h,rfl,by simp only [iL,bJ];omega⟩
 | .put c :: s,a,h=>by
   have:=ku w s a h
   simp only [iL,dA,bJ,lg];omega
 | .keep :: s,a,h=>by
   simp only [iL]
   induction a with
   | nil=>simp [dA] at h
   | cons b a ih =>
     cases b with
     | put c=>have:=ih h;simp only [o7,dA,bJ,lg] at this ⊢;omega
     | keep=>have:=ku w s a (by simp only [dA] at h;omega);simp only [o7,if_true,dA,bJ,lg];omega
     | drop=>have:=ku w s a (by simp only [dA] at h;omega);simp only [o7,if_true,dA,bJ,lg];omega
 | .drop :: s,a,h=>by
   simp only [iL]
   induction a with
   | nil=>simp [dA] at h
   | cons b a ih =>
     cases b with
     | put c=>have:=ih h;simp only [o7,dA,bJ,lg] at this ⊢;omega
     | keep=>have:=ku w s a (by simp only [dA] at h;omega);simp only [o7,Bool.false_eq_true,if_false,dA,bJ,lg];omega
     | drop=>have:=ku w s a (by simp only [dA] at h;omega);simp only [o7,Bool.false_eq_true,if_false,dA,bJ,lg];omega
theorem nR:∀ (y x:List Mk) (r:List Nat),dA x = r.length -> bJ x = dA y -> jl (fM y x) r = jl y (jl x r)
 | [],x,r,h1,h2=>rfl
 | .put c :: y,x,r,h1,h2=>by simp only [fM,jl];rw [nR y x r h1 h2]
 | .keep :: y,x,r,h1,h2=>by
   simp only [fM]
   induction x generalizing r with
   | nil=>simp [bJ,dA] at h2
   | cons a x ih =>
     cases a with
     | put c=>simp only [jL,if_true,jl];rw [nR y x r h1 (by simp only [bJ,dA] at h2;omega)]
     | drop=>cases r with
       | nil=>simp [dA] at h1
       | cons p r=>simp only [jL,jl];exact ih r (by simpa [dA] using h1) h2
     | keep=>cases r with
       | nil=>simp [dA] at h1
       | cons p r=>simp only [jL,if_true,jl];rw [nR y x r (by simpa [dA] using h1) (by simp only [bJ,dA] at h2;omega)]
 | .drop :: y,x,r,h1,h2=>by
   simp only [fM]
   induction x generalizing r with
   | nil=>simp [bJ,dA] at h2
   | cons a x ih =>
     cases a with
     | put c=>simp only [jL,Bool.false_eq_true,if_false,jl];exact nR y x r h1 (by simp only [bJ,dA] at h2;omega)
     | drop=>cases r with
       | nil=>simp [dA] at h1
       | cons p r=>simp only [jL,jl];exact ih r (by simpa [dA] using h1) h2
     | keep=>cases r with
       | nil=>simp [dA] at h1
       | cons p r=>simp only [jL,Bool.false_eq_true,if_false,jl];exact nR y x r (by simpa [dA] using h1) (by simp only [bJ,dA] at h2;omega)
def vK (n:Nat):List Mk:=List.replicate n .keep
theorem G8:∀ n,dA (vK n) = n
 | 0=>rfl
 | n + 1=>by simp only [vK,List.replicate_succ,dA];rw [<- vK,G8 n]
theorem Dn:∀ n,bJ (vK n) = n
 | 0=>rfl
 | n + 1=>by simp only [vK,List.replicate_succ,bJ];rw [<- vK,Dn n]
theorem Dp:∀ (r:List Nat),jl (vK r.length) r = r
 | []=>rfl
 | p :: r=>by simp only [List.length_cons,vK,List.replicate_succ,jl];rw [<- vK,Dp r]
end Go.Proofs.YtadlnaljicikfaaDoor.aB
