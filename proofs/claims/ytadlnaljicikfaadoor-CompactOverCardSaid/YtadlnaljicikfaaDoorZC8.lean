/- A part of the proof: a calculus over values, and contracts of functions. No condition. -/
import Derived.Test.YtadlnaljicikfaaDoorZC7
import Derived.Lib.MapLaws
import Derived.Stop.FmtQuoteTie
set_option linter.unusedVariables false
set_option linter.unusedSimpArgs false
namespace Go.Proofs.YtadlnaljicikfaaDoor.aB
open Go
set_option maxRecDepth 100000
attribute [local irreducible] Ev.iE Ev.iG Ev.bW Ev.runK Ev.bY Ev.gq Ev.Side Ev.Wp Ev.Again Ev.To Ev.Fin
open Go.Lib Go.RowKit
theorem aO (a b:List Sp):bD (a ++ b) = bD a ++ bD b:=by simp [bD]
theorem Yc:∀ c,Tryd.f35.body = some c -> comp c = (.seq (.reg 0 [I.n 0 2 I.sn]) (.seq (.reg 1 [I.n 0 7 (I.mv 0),I.n 1 8 (I.ln 7 23),I.n 2 9 (.makeSlice 23 (.tmp 8) (.tmp 8)),I.n 3 3 (I.sa 9)]) (.seq (.reg 2 [I.n 0 10 (I.mv 3),I.n 1 11 (I.mv 0),I.n 2 12 (.call { callee:=.builtin .copy,args:=#[.tmp 10,.tmp 11],argTypes:=#[23,23] })]) (.seq (.reg 3 [I.n 0 13 (I.mv 3),I.n 1 14 (.call { callee:=.value (.func 79),args:=#[.tmp 13,.func 80],argTypes:=#[23,112] }),I.n 2 3 (I.sa 14)]) (.seq (.reg 4 [I.n 0 4 (I.si 0)]) (.seq (.seq (.reg 5 [I.n 0 15 (I.mv 3),I.n 1 16 (I.ln 15 23),I.n 2 17 (.move (.const (Value.int .i64 0)))]) (.block 0 (.loop (.seq (.reg 6 [I.n 0 18 (I.bo .lss 3 17 16 3)]) (.seq (.cond (.tmp 18) .skip (.exit 0)) (.seq (.block 1 (.seq (.reg 7 [I.n 0 19 (I.mv 17),I.n 1 20 (I.ia 23 15 17),I.n 2 21 (I.ld 35 20),I.n 3 6 (.alloc 35),I.n 4 5 (I.sa 19),I.u 5 (I.st 35 6 21)]) (.block 2 (.seq (.reg 10 [I.n 0 29 (I.mv 5),I.n 1 30 (I.bc .eql 3 29 0 3),I.n 2 28 (I.sa 30)]) (.cond (.tmp 28) .skip (.seq (.draw 11 [I.n 0 32 (I.fa 35 6 0),I.n 1 33 (I.ld 3 32),I.n 2 34 (I.mv 3),I.n 3 35 (I.mv 4),I.n 4 36 (I.ia 23 34 35),I.n 5 37 (I.fa 35 36 0),I.n 6 38 (I.ld 3 37),I.n 7 39 (I.bo .eql 3 33 38 3),I.n 8 31 (I.sa 39)] [[],[0],[],[],[2,3],[4],[5],[1,6],[7]]) (.cond (.tmp 31) (.seq (.draw 12 [I.n 0 40 (I.mv 3),I.n 1 41 (I.mv 4),I.n 2 42 (I.ia 23 40 41),I.n 3 43 (I.fa 35 42 1),I.n 4 44 (I.ld 3 43),I.n 5 45 (I.fa 35 6 1),I.n 6 46 (I.ld 3 45),I.n 7 47 (I.bo .add 3 44 46 3),I.n 8 48 (I.ia 23 40 41),I.n 9 49 (I.fa 35 48 1),I.u 10 (I.st 3 49 47)] [[],[],[0,1],[2],[3],[],[5],[4,6],[0,1,0,1,2,3,4,5,6,7],[8,0,1,2,3,4,5,6,7],[9,7,0,1,2,3,4,5,6,7]]) (.draw 13 [I.n 0 50 (I.mv 3),I.n 1 51 (I.mv 4),I.n 2 52 (I.ia 23 50 51),I.n 3 53 (I.fa 35 52 2),I.n 4 54 (I.ld 9 53),I.n 5 55 (I.fa 35 6 2),I.n 6 56 (I.ld 9 55),I.n 7 57 (I.bo .add 9 54 56 9),I.n 8 58 (I.ia 23 50 51),I.n 9 59 (I.fa 35 58 2),I.u 10 (I.st 9 59 57)] [[],[],[0,1],[2],[3],[],[5],[4,6],[0,1,0,1,2,3,4,5,6,7],[8,0,1,2,3,4,5,6,7],[9,7,0,1,2,3,4,5,6,7]])) (.seq (.reg 8 [I.n 0 22 (I.mv 4),I.n 1 23 (I.bc .add 3 22 1 3),I.n 2 4 (I.sa 23)]) (.reg 9 [I.n 0 24 (I.mv 3),I.n 1 25 (I.mv 4),I.n 2 26 (I.ld 35 6),I.n 3 27 (I.ia 23 24 25),I.u 4 (I.st 35 27 26)]))))))))) (.reg 14 [I.n 0 60 (I.bc .add 3 17 1 3),I.n 1 17 (I.mv 60)]))))))) (.seq (.reg 15 [I.n 0 61 (I.mv 3),I.n 1 62 (I.mv 4),I.n 2 63 (I.bc .add 3 62 1 3),I.n 3 64 (I.mv 3),I.n 4 65 (I.ln 64 23),I.n 5 66 (.call { callee:=.builtin .min,args:=#[.tmp 63,.tmp 65],argTypes:=#[3,3] }),I.n 6 67 (.slice 23 (.tmp 61) none (some (.tmp 66)) none),I.n 7 2 (I.sa 67)]) .ret))))))):=by
 intro c h
 have:c = Tryd.f35.body.get rfl:=by rw [<- Option.some_inj,<- h];rfl
 rw [this];rfl
theorem Yd:∀ c,Tryd.f79.body = some c -> comp c = (.seq (.reg 0 [I.n 0 4 I.sn]) (.seq (.reg 1 [I.n 0 8 (I.mv 0),I.n 1 9 (I.mv 1),I.n 2 10 (I.c2 122 8 9 23 112),I.n 3 5 (I.sa 10)]) (.seq (.seq (.reg 2 [I.n 0 11 (I.mv 5),I.n 1 12 (.binOp .eql 3 (.tmp 11) (.const (Value.int .i64 (-1))) 3)]) (.cond (.tmp 12) (.seq (.reg 3 [I.n 0 13 (I.mv 0),I.n 1 4 (I.sa 13)]) .ret) .skip)) (.seq (.seq (.reg 4 [I.n 0 14 (I.mv 5),I.n 1 15 (I.bc .add 3 14 1 3),I.n 2 6 (I.sa 15)]) (.block 0 (.loop (.seq (.seq (.reg 5 [I.n 0 16 (I.mv 6),I.n 1 17 (I.mv 0),I.n 2 18 (I.ln 17 23),I.n 3 19 (I.bo .lss 3 16 18 3)]) (.cond (.tmp 19) .skip (.exit 0))) (.seq (.block 1 (.seq (.reg 7 [I.n 0 22 (I.mv 0),I.n 1 23 (I.mv 6),I.n 2 24 (I.ia 23 22 23),I.n 3 25 (I.ld 35 24),I.n 4 7 (.alloc 35),I.u 5 (I.st 35 7 25)]) (.seq (.reg 8 [I.n 0 26 (I.mv 1),I.n 1 27 (I.ld 35 7),I.n 2 28 (.call { callee:=.value (.tmp 26),args:=#[.tmp 27],argTypes:=#[35] }),I.n 3 29 (.unOp .not 4 (.tmp 28))]) (.cond (.tmp 29) (.seq (.reg 9 [I.n 0 30 (I.mv 0),I.n 1 31 (I.mv 5),I.n 2 32 (I.ld 35 7),I.n 3 33 (I.ia 23 30 31),I.u 4 (I.st 35 33 32)]) (.reg 10 [I.n 0 34 (I.mv 5),I.n 1 35 (I.bc .add 3 34 1 3),I.n 2 5 (I.sa 35)])) .skip)))) (.reg 6 [I.n 0 20 (I.mv 6),I.n 1 21 (I.bc .add 3 20 1 3),I.n 2 6 (I.sa 21)])))))) (.seq (.reg 11 [I.n 0 36 (I.mv 0),I.n 1 37 (I.mv 5),I.n 2 38 (.slice 23 (.tmp 36) (some (.tmp 37)) none none),I.u 3 (.call { callee:=.builtin .clear,args:=#[.tmp 38],argTypes:=#[23] })]) (.seq (.reg 12 [I.n 0 39 (I.mv 0),I.n 1 40 (I.mv 5),I.n 2 41 (.slice 23 (.tmp 39) none (some (.tmp 40)) none),I.n 3 4 (I.sa 41)]) .ret)))))):=by
 intro c h
 have:c = Tryd.f79.body.get rfl:=by rw [<- Option.some_inj,<- h];rfl
 rw [this];rfl
theorem QW:∀ c,Tryd.f122.body = some c -> comp c = (.seq (.reg 0 [I.n 0 4 (I.si 0)]) (.seq (.seq (.reg 1 [I.n 0 6 (I.mv 0),I.n 1 7 (I.ln 6 23),I.n 2 8 (.move (.const (Value.int .i64 0)))]) (.block 0 (.loop (.seq (.reg 2 [I.n 0 9 (I.bo .lss 3 8 7 3)]) (.seq (.cond (.tmp 9) .skip (.exit 0)) (.seq (.block 1 (.seq (.reg 3 [I.n 0 10 (I.mv 8),I.n 1 5 (I.sa 10)]) (.seq (.reg 4 [I.n 0 11 (I.mv 1),I.n 1 12 (I.mv 0),I.n 2 13 (I.mv 5),I.n 3 14 (I.ia 23 12 13),I.n 4 15 (I.ld 35 14),I.n 5 16 (.call { callee:=.value (.tmp 11),args:=#[.tmp 15],argTypes:=#[35] })]) (.cond (.tmp 16) (.seq (.reg 5 [I.n 0 17 (I.mv 5),I.n 1 4 (I.sa 17)]) .ret) .skip)))) (.reg 6 [I.n 0 18 (I.bc .add 3 8 1 3),I.n 1 8 (I.mv 18)]))))))) (.seq (.reg 7 [I.n 0 4 (.assign (.const (Value.int .i64 (-1))))]) .ret))):=by
 intro c h
 have:c = Tryd.f122.body.get rfl:=by rw [<- Option.some_inj,<- h];rfl
 rw [this];rfl
theorem ajp:∀ c,Tryd.f71.body = some c -> comp c = (.seq (.reg 0 [I.n 0 2 I.sn]) (.seq (.reg 1 [I.n 0 7 (.buildSlice 23 0 #[]),I.n 1 3 (I.sa 7)]) (.seq (.seq (.reg 2 [I.n 0 4 (I.si 0)]) (.block 0 (.loop (.seq (.seq (.reg 3 [I.n 0 8 (I.mv 4),I.n 1 9 (I.mv 0),I.n 2 10 (I.ln 9 23),I.n 3 11 (I.bo .lss 3 8 10 3)]) (.cond (.tmp 11) .skip (.exit 0))) (.seq (.block 1 (.seq (.reg 5 [I.n 0 14 (I.mv 0),I.n 1 15 (I.mv 4),I.n 2 16 (I.ia 23 14 15),I.n 3 17 (I.ld 35 16),I.n 4 5 (.alloc 35),I.u 5 (I.st 35 5 17)]) (.seq (.seq (.reg 6 [I.n 0 18 (I.fa 35 5 1),I.n 1 19 (I.ld 3 18),I.n 2 20 (I.bc .eql 3 19 0 3),I.n 3 21 (I.mv 20),I.w 4 22 (I.fa 35 5 2) 21 true,I.w 5 23 (I.ld 9 22) 21 true,I.w 6 24 (.binOp .eql 9 (.tmp 23) (.const (Value.string { data:=#[] })) 9) 21 true,I.n 7 25 (I.pc 21 24 false)]) (.cond (.tmp 25) (.exit 1) .skip)) (.seq (.reg 7 [I.n 0 26 (I.mv 3),I.n 1 27 (I.ln 26 23),I.n 2 6 (I.sa 27)]) (.seq (.draw 8 [I.n 0 28 (I.mv 6),I.n 1 29 (I.bc .gtr 3 28 0 3),I.n 2 30 (I.mv 29),I.w 3 31 (I.mv 3) 30 true,I.w 4 32 (I.mv 6) 30 true,I.w 5 33 (I.bc .sub 3 32 1 3) 30 true,I.w 6 34 (I.ia 23 31 33) 30 true,I.w 7 35 (I.fa 35 34 0) 30 true,I.w 8 36 (I.ld 3 35) 30 true,I.w 9 37 (I.fa 35 5 0) 30 true,I.w 10 38 (I.ld 3 37) 30 true,I.w 11 39 (I.bo .eql 3 36 38 3) 30 true,I.n 12 40 (I.pc 30 39 false)] [[],[0],[1],[2],[2],[4,2],[3,5,2],[6,2],[7,2],[2],[9,2],[8,10,2],[2,11]]) (.cond (.tmp 40) (.seq (.draw 9 [I.n 0 41 (I.mv 3),I.n 1 42 (I.mv 6),I.n 2 43 (I.bc .sub 3 42 1 3),I.n 3 44 (I.mv 3),I.n 4 45 (I.mv 6),I.n 5 46 (I.bc .sub 3 45 1 3),I.n 6 47 (I.ia 23 44 46),I.n 7 48 (I.fa 35 47 1),I.n 8 49 (I.ld 3 48),I.n 9 50 (I.fa 35 5 1),I.n 10 51 (I.ld 3 50),I.n 11 52 (I.bo .add 3 49 51 3),I.n 12 53 (I.ia 23 41 43),I.n 13 54 (I.fa 35 53 1),I.u 14 (I.st 3 54 52)] [[],[],[1],[],[],[4],[3,5],[6],[7],[],[9],[8,10],[0,2,0,1,2,3,4,5,6,7,8,9,10,11],[12,0,1,2,3,4,5,6,7,8,9,10,11],[13,11,0,1,2,3,4,5,6,7,8,9,10,11]]) (.draw 10 [I.n 0 55 (I.mv 3),I.n 1 56 (I.mv 6),I.n 2 57 (I.bc .sub 3 56 1 3),I.n 3 58 (I.mv 3),I.n 4 59 (I.mv 6),I.n 5 60 (I.bc .sub 3 59 1 3),I.n 6 61 (I.ia 23 58 60),I.n 7 62 (I.fa 35 61 2),I.n 8 63 (I.ld 9 62),I.n 9 64 (I.fa 35 5 2),I.n 10 65 (I.ld 9 64),I.n 11 66 (I.bo .add 9 63 65 9),I.n 12 67 (I.ia 23 55 57),I.n 13 68 (I.fa 35 67 2),I.u 14 (I.st 9 68 66)] [[],[],[1],[],[],[4],[3,5],[6],[7],[],[9],[8,10],[0,2,0,1,2,3,4,5,6,7,8,9,10,11],[12,0,1,2,3,4,5,6,7,8,9,10,11],[13,11,0,1,2,3,4,5,6,7,8,9,10,11]])) (.reg 11 [I.n 0 69 (I.mv 3),I.n 1 70 (I.ld 35 5),I.n 2 71 (I.b1 23 70),I.n 3 72 (I.ap 69 71 23 23),I.n 4 3 (I.sa 72)]))))))) (.reg 4 [I.n 0 12 (I.mv 4),I.n 1 13 (I.bc .add 3 12 1 3),I.n 2 4 (I.sa 13)])))))) (.seq (.reg 12 [I.n 0 73 (I.mv 3),I.n 1 2 (I.sa 73)]) .ret)))):=by
 intro c h
 have:c = Tryd.f71.body.get rfl:=by rw [<- Option.some_inj,<- h];rfl
 rw [this];rfl
def full (l:List Sp):List Sp:=l.filter fun s=>!emptyS s
theorem Ce:∀ l,norm (full l) = norm l
 | []=>rfl
 | s :: l=>by
   have c:∀ (l:List Sp) (cur:Sp),fK cur (full l) = fK cur l:=by
     intro l
     induction l with
     | nil=>intro cur;rfl
     | cons s l ih =>
       intro cur
       cases h:emptyS s with
       | true=>simp only [full,List.filter_cons,h,fK];simpa [full] using ih cur
       | false =>
         have:full (s :: l) = s :: full l:=by simp [full,List.filter_cons,h]
         rw [this]
         simp only [fK,h]
         split
         · exact absurd ‹_› (by decide)
         · split
           · exact ih _
           · rw [ih]
   cases h:emptyS s with
   | true=>simp only [full,List.filter_cons,h,norm];simpa [full] using Ce l
   | false =>
     have:full (s :: l) = s :: full l:=by simp [full,List.filter_cons,h]
     rw [this]
     simp only [norm,h]
     split
     · exact absurd ‹_› (by decide)
     · exact c l s
theorem U9 {l:List Sp} {i:Nat} (h:∀ j (hj:j < l.length),j < i -> emptyS l[j] = false) (hi:l.length <= i):full l = l:=by
 unfold full
 refine List.filter_eq_self.2 (fun s hs=>?_)
 obtain ⟨j,hj,rfl⟩:=List.getElem_of_mem hs
 rw [h j hj (by omega)];rfl
theorem jU (l:List Sp):∀ y ∈ bD l,y.length = 3:=by
 intro y hy
 refine' ag7
theorem Va {l:List Sp} {i:Nat} (h:∀ j (hj:j < l.length),j < i -> emptyS l[j] = false):full (l.take i) = l.take i:=by
 unfold full
 refine List.filter_eq_self.2 (fun s hs=>?_)
 obtain ⟨j,hj,rfl⟩:=List.getElem_of_mem hs
 rw [List.length_take] at hj
 rw [List.getElem_take,h j (by omega) (by omega)];rfl
theorem aha{G:Prop}(h:G:=by unfold full;rw [List.take_succ_eq_append_getElem hj,List.filter_append];simp [h]):G:=h
theorem QX {l:List Sp} {j:Nat} (hj:j < l.length) (h:emptyS l[j] = true):full (l.take (j + 1)) = full (l.take j):=by
 refine' aha
theorem Ye {l:List Sp} {j:Nat} (hj:j < l.length) (h:emptyS l[j] = false):full (l.take (j + 1)) = full (l.take j) ++ [l[j]]:=by
 refine' aha
theorem Au (l:List Sp):(full l).length <= l.length:=List.length_filter_le ..
theorem nH (l:List Sp) (i:Nat) (s:Sp):(bD l).set i (sV s) = bD (l.set i s):=by simp [bD,List.map_set]
theorem PZ {es:List (List AV)} {i:Nat} {x:List AV} {F:List AV -> Prop} (h:i < es.length) (k:F x):Ev.D5 (es.set i x) i F:=by
 unfold Ev.D5;rw [List.getElem?_set_self h];exact k
theorem Yf (l:List Sp):dw (full l) <= dw l:=by
 induction l with
 | nil=>exact Nat.le_refl _
 | cons s l ih =>
   cases h:emptyS s with
   | true=>rw [show full (s :: l) = full l by simp [full,List.filter_cons,h],aQ];omega
   | false=>rw [show full (s :: l) = s :: full l by simp [full,List.filter_cons,h],aQ,aQ];omega
theorem rE {l:List Sp} {i:Nat} (hi:i < l.length):dw (l.drop i) = l[i].t.size + dw (l.drop (i + 1)):=by rw [List.drop_eq_getElem_cons hi,aQ]
theorem JZ {l:List Sp} {i:Nat} (hi:i < (full l).length):emptyS (full l)[i] = false:=by
 have:=(List.mem_filter.1 (List.getElem_mem hi:(full l)[i] ∈ full l)).2
 simpa using this
theorem MP {F:List Sp} {i:Nat} (hi:i < F.length) (h:emptyS F[i] = false) (cur:Sp):fK cur (F.drop i) = if F[i].k = cur.k then fK (mrg cur F[i]) (F.drop (i + 1)) else cur :: fK F[i] (F.drop (i + 1)):=by
 rw [List.drop_eq_getElem_cons hi];simp only [fK,h];rfl
theorem adG {l:List Sp} (h0:0 < (full l).length):norm l = fK (full l)[0] ((full l).drop 1):=by
 rw [<- Ce]
 have:=JZ (l:=l) h0
 generalize full l = F at *
 cases F with
 | nil=>simp at h0
 | cons s F=>simp only [List.getElem_cons_zero] at this;simp only [norm,this];rfl
def qL (l:List Sp) (i last:Nat) (E:List Sp):Prop :=
 E.length = l.length /\ (E.take (full l).length).drop i = (full l).drop i /\ ((i = 0 /\ last = 0) ∨ (∃ pre cur,E.take (last + 1) = pre ++ [cur] /\ pre.length = last /\ last < i /\ cur.t.size + dw ((full l).drop i) <= 1000000000 /\ norm l = pre ++ fK cur ((full l).drop i)))
theorem qL.at {l E:List Sp} {i last:Nat} (h:qL l i last E) (hi:i < (full l).length) (h':i < E.length):E[i] = (full l)[i]:=by
 have e:=congrArg (fun l=>l[0]?) h.2.1
 simp only [List.getElem?_drop,Nat.add_zero] at e
 rw [List.getElem?_take_of_lt hi,List.getElem?_eq_getElem hi,List.getElem?_eq_getElem h'] at e
 exact Option.some.inj e
theorem qL.first {l E:List Sp} {last:Nat} (h:qL l 0 last E) (hi:0 < (full l).length) (hb:dw l <= 1000000000):last = 0 /\ qL l 1 0 E:=by
 have hl:=Au l
 have hE0:0 < E.length:=by have:=h.1;omega
 have ha:=h.at hi hE0
 have h3:=h.2.2
 have h2:=h.2.1
 rw [List.drop_zero,List.drop_zero] at h2
 have hl0:last = 0:=by
   rcases h3 with h | ⟨_,_,_,_,h,_⟩
   · exact h.2
   · omega
 refine ⟨hl0,h.1,by rw [h2],.inr ⟨[],E[0],?_,rfl,by omega,?_,?_⟩⟩
 · rw [List.take_succ_eq_append_getElem hE0];simp
 · rw [ha]
   have a:=rE hi
   have b:=Yf l
   rw [List.drop_zero,Nat.zero_add] at a
   omega
 · rw [ha,List.nil_append];exact adG hi
theorem qL.last {l E:List Sp} {i last:Nat} (h:qL l i last E) (h0:0 < i):last < i /\ ∃ pre,∃ hl:last < E.length,E.take last = pre /\ pre.length = last /\ E[last].t.size + dw ((full l).drop i) <= 1000000000 /\ norm l = pre ++ fK E[last] ((full l).drop i):=by
 rcases h.2.2 with h3 | ⟨pre,cur,h3,h4,h5,h6,h7⟩
 · omega
 · have hl:last < E.length:=by
     have:=congrArg List.length h3
     rw [List.length_take,List.length_append,List.length_singleton] at this
     omega
   rw [List.take_succ_eq_append_getElem hl] at h3
   have e:=List.append_inj h3 (by rw [List.length_take,h4];omega)
   have e2:E[last] = cur:=by simpa using e.2
   exact ⟨h5,pre,hl,e.1,h4,by rw [e2];exact h6,by rw [e2];exact h7⟩
theorem qL.size {l E:List Sp} {i last:Nat} (h:qL l i last E) (h0:0 < i) (hi:i < (full l).length) (hl:last < E.length) (h':i < E.length):E[last].t.size + E[i].t.size <= 1000000000:=by
 obtain ⟨_,_,_,_,_,a,_⟩:=h.last h0
 rw [rE hi,<- h.at hi h'] at a
 omega
theorem qL.rest {l E:List Sp} {i j:Nat} {x:Sp} (hj:j <= i) (h:(E.take (full l).length).drop i = (full l).drop i):((E.set j x).take (full l).length).drop (i + 1) = (full l).drop (i + 1):=by
 rw [<- List.drop_drop,<- List.drop_drop,<- h,List.take_set,List.drop_drop,List.drop_drop,List.drop_set_of_lt (by omega)]
theorem qL.same {l E:List Sp} {i last:Nat} (h:qL l i last E) (h0:0 < i) (hi:i < (full l).length) (hl:last < E.length) (h':i < E.length) (hk:E[i].k = E[last].k):qL l (i + 1) last (E.set last (mrg E[last] E[i])):=by
 have ha:=h.at hi h'
 obtain ⟨a1,pre,_,a2,a3,a4,a5⟩:=h.last h0
 refine ⟨by simp [h.1],qL.rest (by omega) h.2.1,.inr ⟨pre,mrg E[last] E[i],?_,a3,by omega,?_,?_⟩⟩
 · rw [List.take_succ_eq_append_getElem (by simp;omega),List.take_set_of_le (Nat.le_refl _),a2,List.getElem_set_self]
 · rw [rE hi,<- ha] at a4
   show (E[last].t ++ E[i].t).size + _ <= _
   rw [ByteArray.size_append];omega
 · rw [a5,MP hi (JZ hi),<- ha,if_pos hk]
theorem qL.new {l E:List Sp} {i last:Nat} (h:qL l i last E) (h0:0 < i) (hi:i < (full l).length) (hl:last < E.length) (h':i < E.length) (hk:E[i].k ≠ E[last].k):qL l (i + 1) (last + 1) (E.set (last + 1) E[i]):=by
 have ha:=h.at hi h'
 obtain ⟨a1,pre,_,a2,a3,a4,a5⟩:=h.last h0
 refine ⟨by simp [h.1],qL.rest (by omega) h.2.1,.inr ⟨pre ++ [E[last]],E[i],?_,by simp [a3],by omega,?_,?_⟩⟩
 · rw [List.take_succ_eq_append_getElem (by simp;omega),List.take_set_of_le (Nat.le_refl _),List.take_succ_eq_append_getElem hl,a2,List.getElem_set_self]
 · rw [rE hi,<- ha] at a4
   omega
 · rw [a5,MP hi (JZ hi),<- ha,if_neg hk];simp
theorem qL.end {l E:List Sp} {last:Nat} (h:qL l (full l).length last E):E.take (min (last + 1) (full l).length) = norm l:=by
 have hfl:=Au l
 by_cases h0:(full l).length = 0
 · rw [h0,Nat.min_zero,List.take_zero,<- Ce,List.eq_nil_of_length_eq_zero h0];rfl
 · obtain ⟨a1,pre,a6,a2,a3,a4,a5⟩:=h.last (by omega)
   rw [Nat.min_eq_left (by omega),List.take_succ_eq_append_getElem a6,a2,a5,List.drop_of_length_le (Nat.le_refl _)]
   rfl
theorem aaf{G:Prop}(h:G:=by (repeat' (first | refine' Ev.zS | ((with_reducible refine Ev.kr (hs:=[79,122]) (fun Q hQ=>?_));refine' Ev.zR) | ((with_reducible refine Ev.Ac 79 ?_);refine Ev.il 79 [0,1,4,5,6,7,12,19,29] [.tmp 4] Tryd.func79 (Yd _ rfl) (fun bF=>?_)) | ((with_reducible refine Ev.Ac 122 ?_);refine Ev.il 122 [0,1,4,5,7,8,9,16] [.tmp 4] Tryd.func122 (QW _ rfl) (fun bF=>?_)) | ((with_reducible refine Ev.ca0 ?_);(first | refine Ev.aT (lU _) rfl rfl ?_ | refine Ev.ca (lU _) ?_);conv=>whnf) | ((with_reducible refine Ev.dG ?_);(first | refine Ev.dr 11 [79,122] [0,1,2,3,4,5,6,7,8] ?_ | refine Ev.dr 12 [79,122] [0,1,2,3,4,5,6,7,8,9,10] ?_ | refine Ev.dr 13 [79,122] [0,1,2,3,4,5,6,7,8,9,10] ?_);intro Q hQ;(simp only [Ev.ak,Ev.au]);conv=>whnf) | refine' Ev.zT | fail));all_goals(rcases(⟨_⟩:PLift _)with⟨h⟩;exact h)):G:=h
theorem aai{G:Prop}(h:G:=by
 have hjl:j = l.length:=by omega
 subst hjl
 rw [List.take_length] at hj hE1 ⊢
 have hr:List.take (0 + ((full l).length:Int).toNat) (bD E) ++ List.replicate (l.length - ((full l).length:Int).toNat) (List.map AV.v [Value.int .i64 0,Value.int .i64 0,Value.string ⟨#[]⟩]) ++ List.drop (0 + ((full l).length:Int).toNat + (l.length - ((full l).length:Int).toNat)) (bD E) = bD (full l ++ List.replicate (l.length - (full l).length) ⟨0,0,⟨#[]⟩⟩):=by
   rw [Int.toNat_natCast,Nat.zero_add,List.drop_of_length_le (by rw [bH];omega),List.append_nil,aO]
   congr 1
   · show List.take _ (E.map sV) = _
     rw [<- List.map_take,hE1];rfl
   · simp [bD,sV]
 refine Ev.zB ⟨c',0,full l ++ List.replicate (l.length - (full l).length) ⟨0,0,⟨#[]⟩⟩,rfl,?_⟩ (by refine' Ev.zp <;> first | (first | (exact congrArg (fun n=>aG.mk 3 35 _ 0 false n) hr) | (simp;done) | rfl) | rfl | (refine' Ev.ze;(first | (exact congrArg (fun n=>aG.mk 3 35 _ 0 false n) hr) | (simp;done) | rfl)) | fail)
 exact ⟨List.take_left ..,by simp,by simp;omega⟩):G:=h
theorem aao{G:Prop}(h:G:=by (repeat' (first | (with_reducible refine Ev.join (a:=.reg 3 _) (fun s=>∃ (c v:Nat) (E:List Sp),s = ⟨[(0,.lst 3 (bD l)),(2,nilA),(3,.own 528 v 0 (full l).length)],[(528,⟨3,35,v,0,false,bD E⟩)],c⟩ /\ E.take (full l).length = full l /\ (full l).length <= E.length /\ E.length = l.length) ?_ ?_) | refine' Ev.zS | ((with_reducible refine Ev.kr (hs:=[79,122]) (fun Q hQ=>?_));refine' Ev.zR) | ((with_reducible refine Ev.Ac 79 ?_);refine Ev.il 79 [0,1,4,5,6,7,12,19,29] [.tmp 4] Tryd.func79 (Yd _ rfl) (fun bF=>?_)) | ((with_reducible refine Ev.Ac 122 ?_);refine Ev.il 122 [0,1,4,5,7,8,9,16] [.tmp 4] Tryd.func122 (QW _ rfl) (fun bF=>?_)) | ((with_reducible refine Ev.ca0 ?_);(first | refine Ev.aT (lU _) rfl rfl ?_ | refine Ev.ca (lU _) ?_);conv=>whnf) | ((with_reducible refine Ev.dG ?_);(first | refine Ev.dr 11 [79,122] [0,1,2,3,4,5,6,7,8] ?_ | refine Ev.dr 12 [79,122] [0,1,2,3,4,5,6,7,8,9,10] ?_ | refine Ev.dr 13 [79,122] [0,1,2,3,4,5,6,7,8,9,10] ?_);intro Q hQ;(simp only [Ev.ak,Ev.au]);conv=>whnf) | refine' Ev.zT | fail));all_goals(rcases(⟨_⟩:PLift _)with⟨h⟩;exact h)):G:=h
theorem abb{G:Prop}(h:G:=by
 have hlE:last < E.length:=by assumption
 have hi1:i < E.length:=by assumption
 have hkk:E[i].k = E[last].k:=by assumption
 refine Ev.zA (k - 1) ⟨i + 1,last,c + 8,E.set last (mrg E[last] E[i]),rfl,?_⟩ (by refine' Ev.zp <;> first | (first | exact wrap_succ (by omega) | (refine congrArg (fun n=>aG.mk 3 35 _ 0 false n) ?_;show ((bD E).set (0 + (last:Int).toNat) _).set (0 + (last:Int).toNat) (sV (mrg E[last] E[i])) = _;rw [Nat.zero_add,Int.toNat_natCast,List.set_set,nH]) | rfl) | rfl | (refine' Ev.ze;(first | exact wrap_succ (by omega) | (refine congrArg (fun n=>aG.mk 3 35 _ 0 false n) ?_;show ((bD E).set (0 + (last:Int).toNat) _).set (0 + (last:Int).toNat) (sV (mrg E[last] E[i])) = _;rw [Nat.zero_add,Int.toNat_natCast,List.set_set,nH]) | rfl)) | fail)
 exact ⟨by omega,hI.same (by omega) (by omega) hlE hi1 hkk⟩):G:=h
theorem aby{G:Prop}(h:G:=by
 rename_i hi2 h
 have hjl:j < l.length:=by omega
 have alq:=hEj hjl hi2
 rw [alq] at h
 have f3:=Ye hjl h
 have f4:=Au (l.take j)
 have hw:IntKind.i64.wrap ((full (l.take j)).length + 1:Int) = ((full (l.take (j + 1))).length:Int):=by rw [f3,aU (by omega)];simp
 refine Ev.zA (k - 1) ⟨j + 1,c + 8,E.set (full (l.take j)).length E[j],rfl,?_⟩ (by refine' Ev.zp <;> first | (first | exact wrap_succ (by omega) | exact hw | (rw [Nat.zero_add,Int.toNat_natCast];exact congrArg (fun n=>aG.mk 3 35 _ 0 false n) (nH _ _ _)) | rfl) | rfl | (refine' Ev.ze;(first | exact wrap_succ (by omega) | exact hw | (rw [Nat.zero_add,Int.toNat_natCast];exact congrArg (fun n=>aG.mk 3 35 _ 0 false n) (nH _ _ _)) | rfl)) | fail)
 refine ⟨by omega,by simp [hE],by rw [f3];simp;omega,?_,?_⟩
 all_goals(rcases(⟨_⟩:PLift _)with⟨h⟩;exact h)):G:=h
theorem ab8{G:Prop}(h:G:=by
 have hlE:last < E.length:=by omega
 have hi1:i < E.length:=by omega
 have hkk:¬ E[i].k = E[last].k:=by assumption
 refine Ev.zA (k - 1) ⟨i + 1,last + 1,c + 8,E.set (last + 1) E[i],rfl,?_⟩ (by refine' Ev.zp <;> first | (first | exact wrap_succ (by omega) | exact hw | (refine congrArg (fun n=>aG.mk 3 35 _ 0 false n) ?_;show (bD E).set (0 + (IntKind.i64.wrap ((last:Int) + 1)).toNat) (sV E[i]) = _;rw [hw,Nat.zero_add,Int.toNat_natCast,nH]) | rfl) | rfl | (refine' Ev.ze;(first | exact wrap_succ (by omega) | exact hw | (refine congrArg (fun n=>aG.mk 3 35 _ 0 false n) ?_;show (bD E).set (0 + (IntKind.i64.wrap ((last:Int) + 1)).toNat) (sV E[i]) = _;rw [hw,Nat.zero_add,Int.toNat_natCast,nH]) | rfl)) | fail)
 exact ⟨by omega,hI.new (by omega) (by omega) hlE hi1 hkk⟩):G:=h
theorem acg{G:Prop}(h:G:=by
 have hln:(bD E).length = E.length:=bH E
 have hE:E.length = l.length:=hI.1
 have hll:last = 0 ∨ last < i:=by
   rcases hI.2.2 with h | ⟨_,_,_,_,h,_⟩
   · exact .inl h.2
   · exact .inr h
 have hw:IntKind.i64.wrap ((last:Int) + 1) = ((last + 1:Nat):Int):=by rw [aU (by omega)];simp
 repeat' (first | refine' Ev.zP | refine' Ev.zS | refine' Ev.zK | ((refine PZ (by rw [bH,Nat.zero_add,Int.toNat_natCast];omega) ?_);conv=>whnf) | ((with_reducible refine Ev.dG ?_);(first | refine Ev.dr 11 [] [0,1,2,3,4,5,6,7,8] ?_ | refine Ev.dr 12 [] [0,1,2,3,4,5,6,7,8,9,10] ?_ | refine Ev.dr 13 [] [0,1,2,3,4,5,6,7,8,9,10] ?_);intro Q hQ;(simp only [Ev.ak,Ev.au]);conv=>whnf) | refine' Ev.zT | fail)
 all_goals(rcases(⟨_⟩:PLift _)with⟨h⟩;exact h)):G:=h
theorem acy{G:Prop}(h:G:=by
 have hFl:=Au l
 repeat' (first | refine' Ev.zP | refine' Ev.zS | refine' Ev.zK | ((with_reducible refine Ev.dG ?_);(first | refine Ev.dr 11 [] [0,1,2,3,4,5,6,7,8] ?_ | refine Ev.dr 12 [] [0,1,2,3,4,5,6,7,8,9,10] ?_ | refine Ev.dr 13 [] [0,1,2,3,4,5,6,7,8,9,10] ?_);intro Q hQ;(simp only [Ev.ak,Ev.au]);conv=>whnf) | refine' Ev.zT | fail)
 refine Ev.loop (fun k s=>∃ (i last c:Nat) (E:List Sp),s = ⟨[(0,.lst 3 (bD l)),(2,nilA),(3,.own 528 v 0 (full l).length),(4,.v (.int .i64 last)),(15,.own 528 v 0 (full l).length),(16,.v (.int .i64 (full l).length)),(17,.v (.int .i64 i))],[(528,⟨3,35,v,0,false,bD E⟩)],c⟩ /\ k + i = (full l).length /\ qL l i last E) ?_ ?_
 all_goals(rcases(⟨_⟩:PLift _)with⟨h⟩;exact h)):G:=h
theorem ac4{G:Prop}(h:G:=by
 rename_i h
 have hjl:j < l.length:=by omega
 rw [hEj hjl hi] at h
 have f3:=QX hjl h
 refine Ev.zA (k - 1) ⟨j + 1,c + 8,E,rfl,?_⟩ (by refine' Ev.zp <;> first | (first | exact wrap_succ (by omega) | (rw [f3];done) | rfl) | rfl | (refine' Ev.ze;(first | exact wrap_succ (by omega) | (rw [f3];done) | rfl)) | fail)
 exact ⟨by omega,hE,by rw [f3];omega,by rw [f3];exact hE1,by rw [<- List.drop_drop,hE2,List.drop_drop]⟩):G:=h
theorem adu{G:Prop}(h:G:=by
 rename_i hemp _
 have f1:=Va he
 have f2:=QX hi hemp
 refine Ev.loop (fun k s=>∃ (j c:Nat) (E:List Sp),s = ⟨[(0,.own 528 0 0 l.length),(1,.clo (.func 80) [] []),(4,nilA),(5,.v (.int .i64 (full (l.take j)).length)),(6,.v (.int .i64 j))],[(528,⟨3,35,0,0,false,bD E⟩)],c⟩ /\ k + j = l.length /\ E.length = l.length /\ (full (l.take j)).length < j /\ E.take (full (l.take j)).length = full (l.take j) /\ E.drop j = l.drop j) ?_ ?_
 all_goals(rcases(⟨_⟩:PLift _)with⟨h⟩;exact h)):G:=h
theorem aeb{G:Prop}(h:G:=by
 have f3:(full (l.take (i + 1))).length = i:=by rw [f2,f1,List.length_take];omega
 refine Ev.zB ⟨l.length - (i + 1),i + 1,c',l,rfl,?_⟩ (by refine' Ev.zp <;> first | (first | (rw [f3];done) | exact wrap_succ (by omega) | (simp;done) | rfl) | rfl | (refine' Ev.ze;(first | (rw [f3];done) | exact wrap_succ (by omega) | (simp;done) | rfl)) | fail)
 exact ⟨by omega,rfl,by omega,by rw [f3,f2,f1],rfl⟩):G:=h
theorem aef{G:Prop}(h:G:=by
 have hEj:∀ (h:j < l.length) (h':j < E.length),E[j] = l[j]:=fun h h'=>by
   have e1:E[j]? = l[j]?:=by
     have a:=congrArg (fun l=>l[0]?) hE2
     simpa using a
   rw [List.getElem?_eq_getElem h,List.getElem?_eq_getElem h'] at e1
   exact Option.some.inj e1
 refine' aaf
 all_goals(rcases(⟨_⟩:PLift _)with⟨h⟩;exact h)):G:=h
theorem afa{G:Prop}(h:G:=by
 have e:=U9 he (by omega)
 refine Ev.zB ⟨c',0,l,rfl,?_⟩ (by refine' Ev.zp <;> first | (first | (rw [e];simp;done) | rfl) | rfl | (refine' Ev.ze;(first | (rw [e];simp;done) | rfl)) | fail)
 exact ⟨by rw [e];simp,by rw [e];exact Nat.le_refl _,rfl⟩):G:=h
theorem afg{G:Prop}(h:G:=by (refine Ev.loop (fun k s=>∃ i c:Nat,s = ⟨[(0,.own 528 0 0 l.length),(1,.clo (.func 80) [] []),(4,.v (.int .i64 0)),(7,.v (.int .i64 l.length)),(8,.v (.int .i64 i))],[(528,⟨3,35,0,0,false,bD l⟩)],c⟩ /\ k + i = l.length /\ ∀ j (hj:j < l.length),j < i -> emptyS l[j] = false) ?_ ?_);all_goals(rcases(⟨_⟩:PLift _)with⟨h⟩;exact h)):G:=h
theorem afr{G:Prop}(h:G:=by
 rename_i hi0
 have:i = 0:=by omega
 subst this
 obtain ⟨rfl,h2⟩:=hI.first (by omega) hb
 refine Ev.zA (k - 1) ⟨1,0,c + 8,E,rfl,?_⟩
 exact ⟨by omega,h2⟩):G:=h
theorem af8{G:Prop}(h:G:=by rw [f3,List.length_append,List.length_singleton,List.take_succ_eq_append_getElem (by simp;omega),List.take_set_of_le (Nat.le_refl _),hE1,List.getElem_set_self,alq]):G:=h
theorem agt{G:Prop}(h:G:=by
 refine Ev.zB ⟨(full l).length,0,0,c,E,rfl,?_⟩
 exact ⟨by omega,hF2,by rw [hF],.inl ⟨rfl,rfl⟩⟩):G:=h
theorem ahe{G:Prop}(h:G:=by
 have:=hI.size (by omega) (by omega) ‹last < E.length› ‹i < E.length›
 refine Ev.Side.of ?_;omega):G:=h
theorem ahj{G:Prop}(h:G:=by
 refine Ev.zB ⟨l.length,0,bF,rfl,?_⟩
 exact ⟨by omega,fun j hj h=>by omega⟩):G:=h
theorem ahk{G:Prop}(h:G:=by rw [List.drop_set_of_lt (by omega),<- List.drop_drop,hE2,List.drop_drop]):G:=h
theorem Aw (l:List Sp) (hl:l.length <= 100000000) (hb:dw l <= 1000000000):aA env 35 [.lst 3 (bD l)] (fun r hs=>r = .lst 3 (bD (norm l)) /\ hs = []):=by
 have hsl:=bH l
 have hmx:2000000003 <= maxLen:=by decide
 refine Ev.fn [0,2,3,4,5,6,15,16,17,18,28,31] 0 [.tmp 2] Tryd.func35 (Yc _ rfl) ?_
 refine' aao
 · refine' afg
   · refine' ahj
   rintro k s1 ⟨i,c,rfl,hk,he⟩
   refine' aaf
   · rename_i h;exact absurd h (by omega)
   · refine' adu
     · refine' aeb
     rintro k s1 ⟨j,c,E,rfl,hk,hE,hj,hE1,hE2⟩
     refine' aef
     · refine' ac4
     · refine' aby
       · refine' af8
       · refine' ahk
     · refine' aai
   · refine' ahh
     refine ⟨by omega,fun j hj hji=>?_⟩
     by_cases e:j = i
     · subst e;assumption
     · exact he j hj (by omega)
   · refine' afa
   · rename_i h;exact absurd rfl h
 · rintro s1 ⟨c,v,E,rfl,hF,hF1,hF2⟩
   refine' acy
   · refine' agt
   rintro k s1 ⟨i,last,c,E,rfl,hk,hI⟩
   refine' acg
   · refine' afr
   · refine' abb
   · refine' ahe
   · refine' ab8
   · refine Ev.Side.of ?_;rw [hw];show last + 1 < E.length;omega
   · have hc:=hI
     rw [show i = (full l).length by omega] at hc
     have he:=hc.end
     refine ⟨Ev.aZ ?_,rfl⟩
     have e1:(min (IntKind.i64.wrap ((last:Int) + 1)) ((full l).length:Int)).toNat - 0 = min (last + 1) (full l).length:=by rw [hw];omega
     rw [e1,List.drop_zero,<- he]
     show List.take _ (E.map sV) = (E.take _).map sV
     rw [List.map_take]
 · refine Ev.Side.of ⟨by omega,?_,?_,jU l⟩ <;> simp
def ny (acc:List Sp) (s:Sp):List Sp :=
 if emptyS s then acc
 else match acc.getLast? with
   | none=>[s]
   | some c=>if s.k = c.k then acc.set (acc.length - 1) (mrg c s) else acc ++ [s]
theorem vP {acc:List Sp} {s:Sp} (h:emptyS s = true):ny acc s = acc:=by unfold ny;rw [if_pos h]
theorem IB {s:Sp} (h:emptyS s = false):ny [] s = [s]:=by unfold ny;rw [h];rfl
theorem FK {acc:List Sp} {s:Sp} {n:Nat} (h:emptyS s = false) (hn:acc.length = n + 1) (h':n < acc.length) (hk:acc[n].k = s.k):ny acc s = acc.set n (mrg acc[n] s):=by
 unfold ny
 rw [h,List.getLast?_eq_getElem?,show acc.length - 1 = n by omega,List.getElem?_eq_getElem h']
 simp [hk]
theorem IC {acc:List Sp} {s:Sp} {n:Nat} (h:emptyS s = false) (hn:acc.length = n + 1) (h':n < acc.length) (hk:acc[n].k ≠ s.k):ny acc s = acc ++ [s]:=by
 unfold ny
 rw [h,List.getLast?_eq_getElem?,show acc.length - 1 = n by omega,List.getElem?_eq_getElem h']
 simp [Ne.symm hk]
theorem uw:∀ (l:List Sp) (pre:List Sp) (cur:Sp),l.foldl ny (pre ++ [cur]) = pre ++ fK cur l
 | [],pre,cur=>rfl
 | s :: l,pre,cur=>by
   rw [List.foldl_cons]
   simp only [fK]
   cases h:emptyS s with
   | true=>rw [vP h,if_pos rfl,uw l]
   | false =>
     have hn:(pre ++ [cur]).length = pre.length + 1:=by simp
     have h':pre.length < (pre ++ [cur]).length:=by omega
     have hg:(pre ++ [cur])[pre.length] = cur:=by simp
     rw [if_neg (by decide)]
     by_cases hk:s.k = cur.k
     · rw [FK h hn h' (by rw [hg,hk]),if_pos hk,hg]
       have:(pre ++ [cur]).set pre.length (mrg cur s) = pre ++ [mrg cur s]:=by simp
       rw [this,uw l]
     · rw [IC h hn h' (by rw [hg];exact fun e=>hk e.symm),if_neg hk,uw l,List.append_assoc];rfl
theorem IE:∀ l:List Sp,l.foldl ny [] = norm l
 | []=>rfl
 | s :: l=>by
   rw [List.foldl_cons]
   simp only [norm]
   cases h:emptyS s with
   | true=>rw [vP h,if_pos rfl,IE l]
   | false=>rw [IB h,if_neg (by decide)];exact uw l [] s
theorem J4 (a b:List Sp):dw (a ++ b) = dw a + dw b:=by unfold dw;rw [List.map_append,List.sum_append]
theorem Vb (acc:List Sp) (s:Sp):dw (ny acc s) <= dw acc + s.t.size:=by
 unfold ny
 split
 · omega
 · rcases List.eq_nil_or_concat acc with rfl | ⟨pre,c,rfl⟩
   · simp [dw]
   · have h:(pre ++ [c]).getLast? = some c:=by simp
     rw [List.concat_eq_append,h];simp only
     split
     · have e:(pre ++ [c]).set ((pre ++ [c]).length - 1) (mrg c s) = pre ++ [mrg c s]:=by simp
       rw [e,J4,J4];simp [dw,mrg,ByteArray.size_append];omega
     · rw [J4 _ [s]];simp [dw]
theorem Vd (acc:List Sp) (s:Sp):(ny acc s).length <= acc.length + 1:=by
 unfold ny
 split
 · omega
 · split
   · simp
   · split <;> simp
def iZ (l:List Sp) (i:Nat):List Sp:=(l.take i).foldl ny []
theorem kN {l:List Sp} {i:Nat} (hi:i < l.length):iZ l (i + 1) = ny (iZ l i) l[i]:=by
 unfold iZ;rw [List.take_succ_eq_append_getElem hi,List.foldl_append];rfl
theorem yK {l:List Sp} {i:Nat} (hi:l.length <= i):iZ l i = norm l:=by
 unfold iZ;rw [List.take_of_length_le hi,IE]
theorem uy (l:List Sp):∀ i,(iZ l i).length <= i
 | 0=>by simp [iZ]
 | i + 1=>by
   by_cases hi:i < l.length
   · rw [kN hi];have:=Vd (iZ l i) l[i];have:=uy l i;omega
   · have e:iZ l (i + 1) = iZ l i:=by unfold iZ;rw [List.take_of_length_le (by omega),List.take_of_length_le (by omega)]
     rw [e];have:=uy l i;omega
theorem uz (l:List Sp):∀ i,dw (iZ l i) <= dw (l.take i)
 | 0=>by simp [iZ]
 | i + 1=>by
   by_cases hi:i < l.length
   · rw [kN hi,Ak l hi];have:=Vb (iZ l i) l[i];have:=uz l i;omega
   · have e:iZ l (i + 1) = iZ l i:=by unfold iZ;rw [List.take_of_length_le (by omega),List.take_of_length_le (by omega)]
     have e2:l.take (i + 1) = l.take i:=by rw [List.take_of_length_le (by omega),List.take_of_length_le (by omega)]
     rw [e,e2];exact uz l i
theorem QY {l:List Sp} {s:Sp} (h:s ∈ l):s.t.size <= dw l:=by
 induction l with
 | nil=>cases h
 | cons x l ih =>
   rw [aQ]
   rcases List.mem_cons.1 h with rfl | h'
   · omega
   · have:=ih h';omega
theorem Yg {E:List Sp} {x:Sp} {w:Int} {n:Nat} (hw:w = (n:Int)) (A:List AV) (h:w.toNat < E.length) (h':n < E.length):((bD E).set (0 + w.toNat) A).set (0 + w.toNat) (sV (mrg E[w.toNat] x)) = bD (E.set n (mrg E[n] x)):=by
 subst hw;rw [Nat.zero_add];simp only [Int.toNat_natCast];rw [List.set_set,nH]
theorem Yh {E:List Sp} {w:Int} {n:Nat} (hw:w = (n:Int)) (h:w.toNat < E.length) (h':n < E.length):E[w.toNat] = E[n]:=by
 subst hw;rfl
theorem aal{G:Prop}(h:G:=by
 have hi:i < l.length:=by omega
 have he:emptyS l[i] = false:=by simp [emptyS, *]
 have hn:E.length - 1 < E.length:=by omega
 have hm:(IntKind.i64.wrap ((E.length:Int) - 1)).toNat < E.length:=by assumption
 have hkk:E[(IntKind.i64.wrap ((E.length:Int) - 1)).toNat].k = l[i].k:=by assumption
 rw [Yh (hw (by omega)) hm hn] at hkk
 have hr:=fun A=>Yg (x:=l[i]) (hw (by omega)) A hm hn
 refine Ev.zA (k - 1) ⟨i + 1,v,c + 8,E.set (E.length - 1) (mrg E[E.length - 1] l[i]),rfl,?_⟩ (by refine' Ev.zp <;> first | (first | exact wrap_succ (by omega) | (exact congrArg (fun n=>aG.mk 3 35 _ 0 false n) (hr _)) | (simp;done) | rfl) | rfl | (refine' Ev.ze;(first | exact wrap_succ (by omega) | (exact congrArg (fun n=>aG.mk 3 35 _ 0 false n) (hr _)) | (simp;done) | rfl)) | fail)
 exact ⟨by omega,by rw [kN hi,<- hE,FK he (n:=E.length - 1) (by omega) hn hkk]⟩):G:=h
theorem aaq{G:Prop}(h:G:=by
 have hi:i < l.length:=by omega
 have he:emptyS l[i] = false:=by simp [emptyS, *]
 have hn:E.length - 1 < E.length:=by omega
 have hm:(IntKind.i64.wrap ((E.length:Int) - 1)).toNat < E.length:=by assumption
 have hkk:¬ E[(IntKind.i64.wrap ((E.length:Int) - 1)).toNat].k = l[i].k:=by assumption
 rw [Yh (hw (by omega)) hm hn] at hkk
 refine Ev.zA (k - 1) ⟨i + 1,c + 8 + 8,c + 8 + 8 + 8,E ++ [l[i]],rfl,?_⟩ (by refine' Ev.zp <;> first | (first | exact wrap_succ (by omega) | (simp;done) | (simp [bD,sV];done) | rfl) | rfl | (refine' Ev.ze;(first | exact wrap_succ (by omega) | (simp;done) | (simp [bD,sV];done) | rfl)) | fail)
 exact ⟨by omega,by rw [kN hi,<- hE,IC he (n:=E.length - 1) (by omega) hn hkk]⟩):G:=h
theorem abj{G:Prop}(h:G:=by
 have hi:i < l.length:=by omega
 have he:emptyS l[i] = false:=by simp [emptyS, *]
 have hz:E = []:=List.eq_nil_of_length_eq_zero (by omega)
 subst hz
 refine Ev.zA (k - 1) ⟨i + 1,c + 8 + 8,c + 8 + 8 + 8,[l[i]],rfl,?_⟩ (by refine' Ev.zp <;> first | (first | exact wrap_succ (by omega) | (simp;done) | (simp [bD,sV];done) | rfl) | rfl | (refine' Ev.ze;(first | exact wrap_succ (by omega) | (simp;done) | (simp [bD,sV];done) | rfl)) | fail)
 exact ⟨by omega,by rw [kN hi,<- hE,IB he]⟩):G:=h
theorem ab1{G:Prop}(h:G:=by
 have hn:E.length - 1 < E.length:=by omega
 have hm:(IntKind.i64.wrap ((E.length:Int) - 1)).toNat < E.length:=by assumption
 have h1:=QY (List.getElem_mem hm)
 have h2:=uz l i
 have h3:=Ak l hi
 have h4:=PS l (i + 1)
 rw [<- hE] at h2
 refine Ev.Side.of ?_
 show (E[(IntKind.i64.wrap ((E.length:Int) - 1)).toNat]).t.size + _ <= _
 omega):G:=h
theorem afl{G:Prop}(h:G:=by
 refine Ev.Side.of ?_
 show (IntKind.i64.wrap ((E.length:Int) - 1)).toNat < E.length
 rw [hw (by omega)];omega):G:=h
theorem rF (l:List Sp) (hl:l.length <= 100000000) (hb:dw l <= 1000000000):aA env 71 [.lst 3 (bD l)] (fun r hs=>r = .lst 3 (bD (norm l)) /\ hs = []):=by
 have hsl:=bH l
 have hmx:2000000003 <= maxLen:=by decide
 refine Ev.fn [0,2,3,4,5,6,11,25,40] 0 [.tmp 2] Tryd.func71 (ajp _ rfl) ?_
 repeat' (first | refine' Ev.zS | refine' Ev.zK | ((with_reducible refine Ev.dG ?_);(first | refine Ev.dr 8 [] [0,1,2,3,4,9,10,5,6,7,8,11,12] ?_);intro Q hQ;(simp only [Ev.ak,Ev.au]);conv=>whnf) | ((with_reducible refine Ev.dG ?_);(first | refine Ev.drv 9 [] [(0,false),(1,false),(2,true),(3,false),(4,false),(5,true),(6,false),(7,false),(8,false),(9,false),(10,false),(11,true),(12,false),(13,false),(14,false)] ?_ | refine Ev.drv 10 [] [(0,false),(1,false),(2,true),(3,false),(4,false),(5,true),(6,false),(7,false),(8,false),(9,false),(10,false),(11,false),(12,false),(13,false),(14,false)] ?_);intro Q hQ;(simp only [Ev.aX,Ev.aY,Ev.bG]);conv=>whnf) | refine' Ev.zT | fail)
 refine Ev.loop (fun k s=>∃ (i v c:Nat) (E:List Sp),s = ⟨[(0,.lst 3 (bD l)),(2,nilA),(3,.own 512 v 0 E.length),(4,.v (.int .i64 i))],[(512,⟨3,35,v,0,false,bD E⟩)],c⟩ /\ k + i = l.length /\ E = iZ l i) ?_ ?_
 · refine Ev.zB ⟨l.length,0,0,?_,[],rfl,?_⟩
   exact ⟨rfl,rfl⟩
 rintro k s1 ⟨i,v,c,E,rfl,hk,hE⟩
 have hln:=bH E
 have hlE:=uy l i
 rw [<- hE] at hlE
 have hw:0 < E.length -> IntKind.i64.wrap ((E.length:Int) - 1) = ((E.length - 1:Nat):Int):=fun h=>by rw [aU (by omega)];omega
 repeat' (first | refine' Ev.zS | refine' Ev.zK | ((refine PZ (by rw [bH,Nat.zero_add,hw (by omega)];omega) ?_);conv=>whnf) | ((with_reducible refine Ev.dG ?_);(first | refine Ev.dr 8 [] [0,1,2,3,4,9,10,5,6,7,8,11,12] ?_);intro Q hQ;(simp only [Ev.ak,Ev.au]);conv=>whnf) | ((with_reducible refine Ev.dG ?_);(first | refine Ev.drv 9 [] [(0,false),(1,false),(2,true),(3,false),(4,false),(5,true),(6,false),(7,false),(8,false),(9,false),(10,false),(11,true),(12,false),(13,false),(14,false)] ?_ | refine Ev.drv 10 [] [(0,false),(1,false),(2,true),(3,false),(4,false),(5,true),(6,false),(7,false),(8,false),(9,false),(10,false),(11,false),(12,false),(13,false),(14,false)] ?_);intro Q hQ;(simp only [Ev.aX,Ev.aY,Ev.bG]);conv=>whnf) | refine' Ev.zT | fail)
 · have hi:i < l.length:=by omega
   have he:emptyS l[i] = true:=by simp [emptyS, *]
   refine Ev.zA (k - 1) ⟨i + 1,v,c + 8,E,rfl,?_⟩
   exact ⟨by omega,by rw [kN hi,<- hE,vP he]⟩
 · refine' aal
 · have hi:i < l.length:=by omega
   refine' ab1
 · refine' aaq
 · refine' afl
 · refine' abj
 · refine' aal
 · have hi:i < l.length:=by omega
   refine' ab1
 · refine' aaq
 · refine' afl
 · refine' abj
 · refine ⟨Ev.aZ ?_,rfl⟩
   rw [List.drop_zero,List.take_of_length_le (by omega),hE,yK (by omega)]
theorem fM {l:List Sp} (h:dw l <= 1000000000):Small l:=by
 intro s hs
 have:s.t.size <= dw l:=by
   clear h
   induction l with
   | nil=>cases hs
   | cons x l ih =>
     rw [aQ]
     rcases List.mem_cons.1 hs with rfl | h'
     · omega
     · have:=ih h';omega
 omega
end Go.Proofs.YtadlnaljicikfaaDoor.aB
namespace Go.Proofs.YtadlnaljicikfaaDoor.aB
open Go Go.Lib
theorem MQ (l:List Sp):dw (norm l) <= dw l:=by
 have:=uz l l.length
 rwa [yK (Nat.le_refl _),List.take_length] at this
theorem Yi (l:List Sp):(norm l).length <= l.length:=by
 have:=uy l l.length
 rwa [yK (Nat.le_refl _)] at this
theorem IG {l:List Sp} {b:Nat} (h:∀ s ∈ l,s.t.size <= b):dw l <= b * l.length:=by
 induction l with
 | nil=>simp [dw]
 | cons s l ih =>
   have h1:=h s (by simp)
   have h2:=ih (fun x hx=>h x (by simp [hx]))
   rw [aQ,List.length_cons,Nat.mul_succ];omega
theorem Yj {l:List Sp} (h:aH l = 0) (hl:l.length <= 65536) (ht:dw l <= 65536):QF (norm l) = 0 /\ (norm l).length <= l.length /\ dw (norm l) <= 65536:=by
 have h1:=MQ l
 have h2:=Yi l
 obtain ⟨h3,h4⟩:=(gG l).1 h
 refine ⟨XU (MF h (by omega)) (qZ l h3 ?_) (by omega) (fun s hs=>by have:=QY hs;omega),h2,by omega⟩
 rw [<- ku h3 (by omega)];exact h4
theorem wW (l:List Sp) {n:Int} (hn:0 <= n /\ n <= 1048576):(iY l n).length <= 13 /\ dw (iY l n) <= 312:=by
 obtain ⟨h1,h2,h3⟩:=vM l hn
 have:=IG (b:=24) (fun s hs=>(h1 s hs).2.1)
 omega
theorem MR (l:List Sp) {n:Int} (hn:0 <= n /\ n <= 1048576):QF (norm (iY l n)) = 0 /\ (norm (iY l n)).length <= 13 /\ dw (norm (iY l n)) <= 312:=by
 obtain ⟨h1,h2⟩:=wW l hn
 obtain ⟨a,b,c⟩:=Yj (Fq l hn) (by omega) (by omega)
 have:=MQ (iY l n)
 exact ⟨a,by omega,by omega⟩
theorem adH {s:Sp} (h:cu s) (ht:s.t.size <= 24):dK s <= dV s + 24 /\ 0 <= dK s:=by
 rcases h.cases with ⟨a,b,c,_⟩ | ⟨a,b,c⟩
 · have hi:dV s = s.n:=by unfold aB.dV qo;rw [if_pos a]
   rcases a with a | a
   · have ho:dK s = s.n:=by unfold dK kW;rw [if_pos a]
     omega
   · have ho:dK s = 0:=by unfold dK kW;rw [if_neg (by omega),if_neg (by omega)]
     omega
 · have ho:dK s = max (aN s.t.data.toList) 0:=by unfold dK kW;rw [if_neg (by omega),if_pos a]
   have hi:dV s = 0:=by unfold aB.dV qo;rw [if_neg (by omega)]
   rw [bU c] at ho
   have:=nD s.t.data.toList
   rw [bM] at this;omega
theorem adI {l:List Sp} (h:∀ s ∈ l,cu s /\ s.t.size <= 24):bC dK l <= bC dV l + 24 * l.length /\ 0 <= bC dK l:=by
 induction l with
 | nil=>simp [bC]
 | cons s l ih =>
   have h1:=adH (h s (by simp)).1 (h s (by simp)).2
   have h2:=ih (fun x hx=>h x (by simp [hx]))
   rw [bZ,bZ,List.length_cons];omega
theorem QZ (l:List Sp) {n:Int} (hn:0 <= n /\ n <= 1048576):0 <= outW (iY l n) /\ outW (iY l n) <= n + 312:=by
 obtain ⟨h1,h2,h3⟩:=vM l hn
 have h4:=adI (l:=iY l n) (fun s hs=>⟨(h1 s hs).1,(h1 s hs).2.1⟩)
 rw [jf,aU (by omega)];omega
def chS (p:List (List Sp) × Int) (x:List Sp):List (List Sp) × Int:=(p.1 ++ [iY x p.2],outW (iY x p.2))
def Gt (l:List (List Sp)) (n:Int) (i:Nat):List (List Sp) × Int:=(l.take i).foldl chS ([],n)
theorem FM {l:List (List Sp)} {n:Int} {i:Nat} (hi:i < l.length):Gt l n (i + 1) = chS (Gt l n i) l[i]:=by
 unfold Gt;rw [List.take_succ_eq_append_getElem hi,List.foldl_append];rfl
theorem Eh (l:List (List Sp)) {n:Int} (hn:0 <= n /\ n <= 1000):∀ i,i <= 20 -> 0 <= (Gt l n i).2 /\ (Gt l n i).2 <= n + 312 * i /\ (Gt l n i).1.length <= i /\ (i <= l.length -> (Gt l n i).1.length = i)
 | 0,_=>by simp [Gt];omega
 | i + 1,h=>by
   obtain ⟨a,b,c,d⟩:=Eh l hn i (by omega)
   by_cases hi:i < l.length
   · have e:=QZ l[i] (n:=(Gt l n i).2) (by omega)
     rw [FM hi]
     simp only [chS,List.length_append,List.length_singleton]
     omega
   · have e:Gt l n (i + 1) = Gt l n i:=by unfold Gt;rw [List.take_of_length_le (by omega),List.take_of_length_le (by omega)]
     rw [e];omega
def Ve (l:List (List Sp)) (n:Int):List (List Sp):=(Gt l n 20).1
theorem adJ {l:List (List Sp)} {n:Int} {i:Nat} (h:l.length <= i ∨ i = 20) (h':i <= 20):(Gt l n i).1 = Ve l n:=by
 rcases h with h | rfl
 · unfold Ve Gt;rw [List.take_of_length_le h,List.take_of_length_le (by omega)]
 · rfl
def Chn:Int -> List (List Sp) -> Prop
 | _,[]=>True
 | n,x :: l=>(∃ y m,x = iY y m /\ 0 <= m /\ m <= 10000) /\ jV x = n /\ Chn (outW x) l
def dY:Int -> List (List Sp) -> Int
 | n,[]=>n
 | _,x :: l=>dY (outW x) l
theorem Q5:∀ (l:List (List Sp)) (n:Int) (x:List Sp),Chn n l -> (∃ y m,x = iY y m /\ 0 <= m /\ m <= 10000) -> jV x = dY n l -> Chn n (l ++ [x]) /\ dY n (l ++ [x]) = outW x
 | [],n,x,_,h,h'=>⟨⟨h,h',trivial⟩,rfl⟩
 | y :: l,n,x,⟨a,b,c⟩,h,h'=>by
   obtain ⟨e,f⟩:=Q5 l (outW y) x c h h'
   exact ⟨⟨a,b,e⟩,f⟩
theorem Q7 (l:List (List Sp)) {n:Int} (hn:0 <= n /\ n <= 1000):∀ i,i <= 20 -> Chn n (Gt l n i).1 /\ dY n (Gt l n i).1 = (Gt l n i).2
 | 0,_=>⟨trivial,rfl⟩
 | i + 1,h=>by
   obtain ⟨a,b⟩:=Q7 l hn i (by omega)
   obtain ⟨c,d,_⟩:=Eh l hn i (by omega)
   by_cases hi:i < l.length
   · rw [FM hi]
     exact Q5 _ _ _ a ⟨_,_,rfl,c,by omega⟩ (by rw [b];exact JJ _ (by omega))
   · have e:Gt l n (i + 1) = Gt l n i:=by unfold Gt;rw [List.take_of_length_le (by omega),List.take_of_length_le (by omega)]
     rw [e];exact ⟨a,b⟩
theorem J5 (l:List (List Sp)) {n:Int} (hn:0 <= n /\ n <= 1000):Chn n (Ve l n) /\ (Ve l n).length <= 20:=⟨(Q7 l hn 20 (by omega)).1,(Eh l hn 20 (by omega)).2.2.1⟩
theorem Ei:∀ {l:List (List Sp)} {n:Int},Chn n l -> ∀ x ∈ l,∃ y m,x = iY y m /\ 0 <= m /\ m <= 10000
 | [],_,_,x,hx=>by cases hx
 | y :: l,n,⟨a,b,c⟩,x,hx=>by
   rcases List.mem_cons.1 hx with rfl | h
   · exact a
   · exact Ei c x h
end Go.Proofs.YtadlnaljicikfaaDoor.aB
namespace Go.Proofs.YtadlnaljicikfaaDoor.aB
open Go
set_option maxRecDepth 100000
attribute [local irreducible] Ev.iE Ev.iG Ev.bW Ev.runK Ev.bY Ev.gq Ev.Side Ev.Wp Ev.Again Ev.To Ev.Fin
open Go.Lib Go.RowKit
theorem ajs:∀ c,Tryd.f69.body = some c -> comp c = (.seq (.reg 0 [I.n 0 4 I.sn]) (.seq (.reg 1 [I.n 0 8 (.buildSlice 22 0 #[]),I.n 1 5 (I.sa 8)]) (.seq (.seq (.reg 2 [I.n 0 6 (I.si 0)]) (.block 0 (.loop (.seq (.seq (.reg 3 [I.n 0 9 (I.mv 6),I.n 1 10 (I.mv 0),I.n 2 11 (I.ln 10 22),I.n 3 12 (I.bo .lss 3 9 11 3),I.n 4 13 (I.mv 12),I.w 5 14 (I.mv 6) 13 true,I.w 6 15 (I.bc .lss 3 14 20 3) 13 true,I.n 7 16 (I.pc 13 15 false)]) (.cond (.tmp 16) .skip (.exit 0))) (.seq (.block 1 (.seq (.reg 5 [I.n 0 19 (I.mv 0),I.n 1 20 (I.mv 6),I.n 2 21 (I.ia 22 19 20),I.n 3 22 (I.ld 23 21),I.n 4 23 (I.mv 1),I.n 5 24 (I.c2 31 22 23 23 3),I.n 6 7 (I.sa 24)]) (.seq (.reg 6 [I.n 0 25 (I.mv 5),I.n 1 26 (I.mv 7),I.n 2 27 (I.b1 22 26),I.n 3 28 (I.ap 25 27 22 22),I.n 4 5 (I.sa 28)]) (.reg 7 [I.n 0 29 (I.mv 7),I.n 1 30 (I.c1 102 29 23),I.n 2 1 (I.sa 30)])))) (.reg 4 [I.n 0 17 (I.mv 6),I.n 1 18 (I.bc .add 3 17 1 3),I.n 2 6 (I.sa 18)])))))) (.seq (.reg 8 [I.n 0 31 (I.mv 5),I.n 1 4 (I.sa 31)]) .ret)))):=by
 intro c h
 have:c = Tryd.f69.body.get rfl:=by rw [<- Option.some_inj,<- h];rfl
 rw [this];rfl
theorem Vf (l:List Sp):Small ((l.take 20).map (lT 60)):=by
 intro s hs
 obtain ⟨s',_,rfl⟩:=List.mem_map.1 hs
 show (s'.t.extract 0 (min s'.t.size 60)).size <= 1000000000
 rw [ByteArray.size_extract];omega
theorem J6 (l:List Sp):((l.take 20).map (lT 60)).length <= 20:=by simp;omega
theorem adK (l:List Sp):dw ((l.take 20).map (lT 60)) <= 1200:=by
 have h:=IG (l:=(l.take 20).map (lT 60)) (b:=60) (fun s hs=>by
   obtain ⟨s',_,rfl⟩:=List.mem_map.1 hs
   show (s'.t.extract 0 (min s'.t.size 60)).size <= 60
   rw [ByteArray.size_extract];omega)
 have:=J6 l
 omega
def aC (l:List (List Sp)):List (List AV):=l.map fun x=>[.lst 3 (bD x)]
@[simp] theorem aW (l:List (List Sp)):(aC l).length = l.length:=by simp [aC]
theorem lV (a b:List (List Sp)):aC (a ++ b) = aC a ++ aC b:=by simp [aC]
theorem MS (l:List (List Sp)) (n:Int) (hn:0 <= n /\ n <= 1000):aA env 69 [.lst 1 (aC l),.v (.int .i64 n)] (fun r hs=>r = .lst 1 (aC (Ve l n)) /\ hs = []):=by
 have hrl:=aW l
 refine Ev.fn [0,1,4,5,6,7,16] 0 [.tmp 4] Tryd.func69 (ajs _ rfl) ?_
 refine' Ev.zW
 refine Ev.loop (fun k s=>∃ (i v c:Nat) (E:List (List Sp)) (m:Int),s = ⟨[(0,.lst 1 (aC l)),(1,.v (.int .i64 m)),(4,nilA),(5,.own 512 v 0 E.length),(6,.v (.int .i64 i))],[(512,⟨1,23,v,0,false,aC E⟩)],c⟩ /\ k + i = 20 /\ i <= l.length /\ (E,m) = Gt l n i) ?_ ?_
 · refine Ev.zB ⟨20,0,?_,?_,[],n,rfl,?_⟩
   exact ⟨by omega,by omega,rfl⟩
 rintro k s1 ⟨i,v,c,E,m,rfl,hk,hi',hE⟩
 obtain ⟨c1,c2,c3,c4⟩:=Eh l hn i (by omega)
 rw [<- hE] at c1 c2 c3 c4
 simp only at c1 c2 c3 c4
 have hel:=aW E
 have hlen:=c4 hi'
 repeat' (first | refine' Ev.zS | refine' Ev.zK | ((with_reducible refine Ev.ca0 ?_);(first | refine Ev.aT (Cb _ m (by omega)) rfl rfl ?_ | refine Ev.aT (kG (iY _ m) (by have:=(wW l[i] (n:=m) (by omega)).1;omega) (Fv _ (by omega))) rfl rfl ?_ | refine Ev.ca (Cb _ m (by omega)) ?_ | refine Ev.ca (kG (iY _ m) (by have:=(wW l[i] (n:=m) (by omega)).1;omega) (Fv _ (by omega))) ?_);conv=>whnf) | refine' Ev.zT | fail)
 · have hi:i < l.length:=by assumption
   refine Ev.zA (k - 1) ⟨i + 1,?_,?_,E ++ [iY l[i] m],outW (iY l[i] m),rfl,?_⟩ (by refine' Ev.zp <;> first | (first | exact wrap_succ (by omega) | (rw [lV];rfl) | (simp;done) | rfl) | rfl | (refine' Ev.ze;(first | exact wrap_succ (by omega) | (rw [lV];rfl) | (simp;done) | rfl)) | fail)
   exact ⟨by omega,by omega,by rw [FM hi,<- hE];rfl⟩
 all_goals
   have he:=adJ (l:=l) (n:=n) (i:=i) (by omega) (by omega)
   rw [<- hE] at he
   refine ⟨Ev.aZ (Ev.oJ (by omega) ?_),rfl⟩
   exact congrArg aC he
theorem ajt:∀ c,Tryd.f95.body = some c -> comp c = (.seq (.reg 0 [I.n 0 1 (.box 27 (.tmp 0)),I.n 1 2 I.sn,I.n 2 3 (I.si 0)]) (.seq (.reg 1 [I.n 0 12 (I.fa 27 1 0),I.n 1 13 (I.ld 9 12),I.n 2 14 (I.c1 32 13 9),I.n 3 4 (.alloc 3),I.u 4 (I.st 3 4 14)]) (.seq (.reg 2 [I.n 0 16 (I.fa 27 1 1),I.n 1 17 (I.ld 25 16),I.n 2 18 (I.c1 48 17 25),I.n 3 15 (I.mv 18),I.n 4 19 (I.ex 15 0),I.n 5 20 (I.ex 15 1),I.n 6 6 (.alloc 30),I.n 7 5 (I.sa 19),I.u 8 (I.st 30 6 20)]) (.seq (.reg 3 [I.n 0 21 (.makeFunc (.func 135) #[] #[.tmp 4]),I.n 1 22 (.call { callee:=.value (.func 134),args:=#[.tmp 21,.const (Value.int .i64 3)],argTypes:=#[24,30] }),I.n 2 23 (.makeFunc (.func 136) #[] #[.tmp 4]),I.n 3 24 (.call { callee:=.value (.func 134),args:=#[.tmp 23,.const (Value.int .i64 4)],argTypes:=#[24,30] }),I.n 4 25 (.makeFunc (.func 137) #[] #[.tmp 6,.tmp 1]),I.n 5 26 (.call { callee:=.value (.func 134),args:=#[.tmp 25,.const (Value.int .i64 6)],argTypes:=#[24,30] }),I.n 6 27 (.buildSlice 177 3 #[(0,.tmp 22),(1,.tmp 24),(2,.tmp 26)]),I.n 7 28 (I.c1 133 27 177),I.n 8 7 (I.sa 28)]) (.seq (.seq (.reg 4 [I.n 0 29 (I.mv 7),I.n 1 30 (I.bc .neq 30 29 0 30)]) (.cond (.tmp 30) (.seq (.reg 5 [I.n 0 31 (I.mv 7),I.n 1 2 I.sn,I.n 2 3 (I.sa 31)]) .ret) .skip)) (.seq (.reg 6 [I.n 0 32 (I.ld 3 4),I.n 1 33 (I.b1 25 32),I.n 2 8 (I.sa 33)]) (.seq (.seq (.reg 7 [I.n 0 34 (I.fa 27 1 2),I.n 1 35 (I.ld 22 34),I.n 2 36 (I.ln 35 22),I.n 3 37 (.move (.const (Value.int .i64 0)))]) (.block 0 (.loop (.seq (.reg 8 [I.n 0 38 (I.bo .lss 3 37 36 3)]) (.seq (.cond (.tmp 38) .skip (.exit 0)) (.seq (.block 1 (.seq (.reg 9 [I.n 0 39 (I.ia 22 35 37),I.n 1 40 (I.ld 23 39),I.n 2 10 (.alloc 23),I.u 3 (I.st 23 10 40)]) (.seq (.reg 10 [I.n 0 41 (.makeFunc (.func 138) #[] #[.tmp 10]),I.n 1 42 (.makeFunc (.func 139) #[] #[.tmp 10,.tmp 4]),I.n 2 43 (.call { callee:=.value (.func 134),args:=#[.tmp 42,.const (Value.int .i64 5)],argTypes:=#[24,30] }),I.n 3 44 (.makeFunc (.func 140) #[] #[.tmp 10]),I.n 4 45 (.call { callee:=.value (.func 134),args:=#[.tmp 44,.const (Value.int .i64 4)],argTypes:=#[24,30] }),I.n 5 46 (.makeFunc (.func 141) #[] #[.tmp 10]),I.n 6 47 (.call { callee:=.value (.func 134),args:=#[.tmp 46,.const (Value.int .i64 8)],argTypes:=#[24,30] }),I.n 7 48 (.buildSlice 177 4 #[(0,.tmp 41),(1,.tmp 43),(2,.tmp 45),(3,.tmp 47)]),I.n 8 49 (I.c1 133 48 177),I.n 9 11 (I.sa 49)]) (.seq (.seq (.reg 11 [I.n 0 50 (I.mv 11),I.n 1 51 (I.bc .neq 30 50 0 30)]) (.cond (.tmp 51) (.seq (.reg 12 [I.n 0 52 (I.mv 11),I.n 1 2 I.sn,I.n 2 3 (I.sa 52)]) .ret) .skip)) (.seq (.reg 13 [I.n 0 53 (I.ld 23 10),I.n 1 54 (I.c1 73 53 23),I.u 2 (I.st 3 4 54)]) (.reg 14 [I.n 0 55 (I.mv 8),I.n 1 56 (I.ld 3 4),I.n 2 57 (I.b1 25 56),I.n 3 58 (I.ap 55 57 25 25),I.n 4 8 (I.sa 58)])))))) (.reg 15 [I.n 0 59 (I.bc .add 3 37 1 3),I.n 1 37 (I.mv 59)]))))))) (.seq (.reg 16 [I.n 0 60 (I.mv 8),I.n 1 2 (I.sa 60),I.n 2 3 (I.si 0)]) .ret)))))))):=by
 intro c h
 have:c = Tryd.f95.body.get rfl:=by rw [<- Option.some_inj,<- h];rfl
 rw [this];rfl
theorem Q8:∀ c,Tryd.f133.body = some c -> comp c = (.seq (.reg 0 [I.n 0 2 (I.si 0)]) (.seq (.seq (.reg 1 [I.n 0 6 (I.mv 0),I.n 1 7 (I.ln 6 177),I.n 2 8 (.move (.const (Value.int .i64 0)))]) (.block 0 (.loop (.seq (.reg 2 [I.n 0 9 (I.bo .lss 3 8 7 3)]) (.seq (.cond (.tmp 9) .skip (.exit 0)) (.seq (.block 1 (.seq (.reg 3 [I.n 0 10 (I.ia 177 6 8),I.n 1 11 (I.ld 155 10),I.n 2 4 (I.sa 11)]) (.seq (.reg 4 [I.n 0 12 (I.mv 4),I.n 1 13 (.call { callee:=.value (.tmp 12),args:=#[],argTypes:=#[] }),I.n 2 5 (I.sa 13)]) (.seq (.reg 5 [I.n 0 14 (I.mv 5),I.n 1 15 (I.bc .neq 30 14 0 30)]) (.cond (.tmp 15) (.seq (.reg 6 [I.n 0 16 (I.mv 5),I.n 1 2 (I.sa 16)]) .ret) .skip))))) (.reg 7 [I.n 0 17 (I.bc .add 3 8 1 3),I.n 1 8 (I.mv 17)]))))))) (.seq (.reg 8 [I.n 0 2 (I.si 0)]) .ret))):=by
 intro c h
 have:c = Tryd.f133.body.get rfl:=by rw [<- Option.some_inj,<- h];rfl
 rw [this];rfl
theorem Q9:∀ c,Tryd.f134.body = some c -> comp c = (.seq (.reg 0 [I.n 0 2 (.box 24 (.tmp 0)),I.n 1 3 (.box 30 (.tmp 1)),I.n 2 4 (.assign (.const Value.nilFunc))]) (.seq (.reg 1 [I.n 0 5 (.makeFunc (.func 160) #[] #[.tmp 2,.tmp 3]),I.n 1 4 (I.sa 5)]) .ret)):=by
 intro c h
 have:c = Tryd.f134.body.get rfl:=by rw [<- Option.some_inj,<- h];rfl
 rw [this];rfl
theorem Rf:∀ c,Tryd.f160.body = some c -> comp c = (.seq (.reg 0 [I.n 0 2 (I.si 0)]) (.seq (.seq (.reg 1 [I.n 0 3 (I.ld 24 0),I.n 1 4 (.call { callee:=.value (.tmp 3),args:=#[],argTypes:=#[] })]) (.cond (.tmp 4) (.seq (.reg 2 [I.n 0 5 (I.ld 30 1),I.n 1 2 (I.sa 5)]) .ret) .skip)) (.seq (.reg 3 [I.n 0 2 (I.si 0)]) .ret))):=by
 intro c h
 have:c = Tryd.f160.body.get rfl:=by rw [<- Option.some_inj,<- h];rfl
 rw [this];rfl
theorem adL:∀ c,Tryd.f135.body = some c -> comp c = (.seq (.reg 0 [I.n 0 1 (I.sb false)]) (.seq (.reg 1 [I.n 0 2 (I.ld 3 0),I.n 1 3 (I.bc .lss 3 2 0 3),I.n 2 1 (I.sa 3)]) .ret)):=by
 intro c h
 have:c = Tryd.f135.body.get rfl:=by rw [<- Option.some_inj,<- h];rfl
 rw [this];rfl
theorem adM:∀ c,Tryd.f136.body = some c -> comp c = (.seq (.reg 0 [I.n 0 1 (I.sb false)]) (.seq (.reg 1 [I.n 0 2 (I.ld 3 0),I.n 1 3 (I.bc .gtr 3 2 1048576 3),I.n 2 1 (I.sa 3)]) .ret)):=by
 intro c h
 have:c = Tryd.f136.body.get rfl:=by rw [<- Option.some_inj,<- h];rfl
 rw [this];rfl
theorem adN:∀ c,Tryd.f137.body = some c -> comp c = (.seq (.reg 0 [I.n 0 2 (I.sb false)]) (.seq (.reg 1 [I.n 0 3 (I.ld 30 0),I.n 1 4 (I.bc .neq 30 3 0 30),I.n 2 5 (I.mv 4),I.w 3 6 (I.fa 27 1 1) 5 false,I.w 4 7 (I.ld 25 6) 5 false,I.w 5 8 (I.ln 7 25) 5 false,I.w 6 9 (I.fa 27 1 2) 5 false,I.w 7 10 (I.ld 22 9) 5 false,I.w 8 11 (I.ln 10 22) 5 false,I.w 9 12 (I.bc .add 3 11 1 3) 5 false,I.w 10 13 (I.bo .neq 3 8 12 3) 5 false,I.n 11 14 (I.pb 5 true 13),I.n 12 2 (I.sa 14)]) .ret)):=by
 intro c h
 have:c = Tryd.f137.body.get rfl:=by rw [<- Option.some_inj,<- h];rfl
 rw [this];rfl
theorem adO:∀ c,Tryd.f138.body = some c -> comp c = (.seq (.reg 0 [I.n 0 1 (I.si 0)]) (.seq (.reg 1 [I.n 0 2 (I.ld 23 0),I.n 1 3 (I.c1 72 2 23),I.n 2 1 (I.sa 3)]) .ret)):=by
 intro c h
 have:c = Tryd.f138.body.get rfl:=by rw [<- Option.some_inj,<- h];rfl
 rw [this];rfl
theorem adP:∀ c,Tryd.f139.body = some c -> comp c = (.seq (.reg 0 [I.n 0 2 (I.sb false)]) (.seq (.draw 1 [I.n 0 3 (I.ld 23 0),I.n 1 4 (I.c1 74 3 23),I.n 2 5 (I.ld 3 1),I.n 3 6 (I.bo .neq 3 4 5 3),I.n 4 2 (I.sa 6)] [[],[0],[],[1,2],[3,1,0,1,2,3]]) .ret)):=by
 intro c h
 have:c = Tryd.f139.body.get rfl:=by rw [<- Option.some_inj,<- h];rfl
 rw [this];rfl
theorem adQ:∀ c,Tryd.f140.body = some c -> comp c = (.seq (.reg 0 [I.n 0 1 (I.sb false)]) (.seq (.reg 1 [I.n 0 2 (I.ld 23 0),I.n 1 3 (I.c1 73 2 23),I.n 2 4 (I.bc .gtr 3 3 1048576 3),I.n 3 1 (I.sa 4)]) .ret)):=by
 intro c h
 have:c = Tryd.f140.body.get rfl:=by rw [<- Option.some_inj,<- h];rfl
 rw [this];rfl
theorem adR:∀ c,Tryd.f141.body = some c -> comp c = (.seq (.reg 0 [I.n 0 1 (I.sb false)]) (.seq (.reg 1 [I.n 0 2 (I.ld 23 0),I.n 1 3 (I.c1 65 2 23),I.n 2 4 (.unOp .not 4 (.tmp 3)),I.n 3 1 (I.sa 4)]) .ret)):=by
 intro c h
 have:c = Tryd.f141.body.get rfl:=by rw [<- Option.some_inj,<- h];rfl
 rw [this];rfl
structure Lg where
 base:ByteArray
 revs:List Int
 ah:List (List Sp)
def kT (c:Lg):AV:=.agg [.v (.string c.base),.lst 1 (ints c.revs),.lst 1 (aC c.ah)]
def iq (n:Int) (l:List Sp):Int:=if aH l ≠ 0 then aH l else if jV l ≠ n then 5 else if 1048576 < outW l then 4 else if GH l then 0 else 8
def dA:Int -> List (List Sp) -> Int
 | _,[]=>0
 | n,x :: l=>if iq n x = 0 then dA (outW x) l else iq n x
def Az:Int -> List (List Sp) -> List Int
 | n,[]=>[n]
 | n,x :: l=>n :: Az (outW x) l
def nP (c:Lg):Int:=if aN c.base.data.toList < 0 then 3 else if 1048576 < aN c.base.data.toList then 4 else if mZ c.revs ≠ 0 ∨ c.revs.length ≠ c.ah.length + 1 then 6 else dA (aN c.base.data.toList) c.ah
def II (c:Lg):Prop:=c.base.size <= 1000000000 /\ c.revs.length <= 100000000 /\ c.ah.length <= 100000000 /\ ∀ x ∈ c.ah,x.length <= 100000000 /\ Small x
def szA (c:Lg):AV:=if nP c = 0 then .dB [.lst 1 (ints (Az (aN c.base.data.toList) c.ah)),.v (.int .i64 0)] else .dB [nilA,.v (.int .i64 (nP c))]
theorem qw {c:Lg} {e:Int} (h:nP c = e) (he:e ≠ 0):szA c = .dB [nilA,.v (.int .i64 e)]:=by subst h;exact if_neg he
theorem aju {c:Lg} (h:nP c = 0):szA c = .dB [.lst 1 (ints (Az (aN c.base.data.toList) c.ah)),.v (.int .i64 0)]:=if_pos h
theorem rG:∀ (a b:List (List Sp)) (n:Int),dA n (a ++ b) = if dA n a = 0 then dA (dY n a) b else dA n a
 | [],b,n=>rfl
 | x :: a,b,n=>by
   rw [List.cons_append]
   by_cases h:iq n x = 0
   · have e1:dA n (x :: (a ++ b)) = dA (outW x) (a ++ b):=if_pos h
     have e2:dA n (x :: a) = dA (outW x) a:=if_pos h
     rw [e1,e2,rG a b];rfl
   · have e1:dA n (x :: (a ++ b)) = iq n x:=if_neg h
     have e2:dA n (x :: a) = iq n x:=if_neg h
     rw [e1,e2,if_neg h]
theorem Ci:∀ (a:List (List Sp)) (x:List Sp) (n:Int),dY n (a ++ [x]) = outW x
 | [],x,n=>rfl
 | y :: a,x,n=>Ci a x (outW y)
theorem MV:∀ (a:List (List Sp)) (x:List Sp) (n:Int),Az n (a ++ [x]) = Az n a ++ [outW x]
 | [],x,n=>rfl
 | y :: a,x,n=>by rw [List.cons_append];simp only [Az];rw [MV a];rfl
theorem qx:∀ (a:List (List Sp)) (n:Int),(Az n a).length = a.length + 1
 | [],n=>rfl
 | y :: a,n=>by simp only [Az,List.length_cons];rw [qx a]
theorem rH {l:List (List Sp)} {n:Int} {i:Nat} (hi:i < l.length) (h:dA n (l.take i) = 0) {e:Int} (he:iq (dY n (l.take i)) l[i] = e) (h0:e ≠ 0):dA n l = e:=by
 have:l = l.take i ++ l[i] :: l.drop (i + 1):=by rw [<- List.drop_eq_getElem_cons hi,List.take_append_drop]
 rw [this,rG,if_pos h]
 simp only [dA];rw [he,if_neg h0]
theorem FN {l:List (List Sp)} {n:Int} {i:Nat} (hi:i < l.length) (h:dA n (l.take i) = 0) (he:iq (dY n (l.take i)) l[i] = 0):dA n (l.take (i + 1)) = 0:=by
 rw [List.take_succ_eq_append_getElem hi,rG,if_pos h]
 simp only [dA];rw [if_pos he]
theorem ajv (l:List Int) (hl:l.length <= 100000000):aA env 48 [.lst 1 (ints l)] (fun r hs=>r = .dB [.lst 1 (wH (afT l)),.v (.int .i64 (mZ l))] /\ hs = []):=by
 refine (U4 l hl).BJ ?_
 unfold Iu afT mZ
 cases h:rises l with
 | true=>exact je.refl _
 | false=>exact je.SY (je.nil 1) (je.refl _)
theorem AA (a b:List Int):ints (a ++ b) = ints a ++ ints b:=by simp [ints]
set_option maxHeartbeats 8000000 in
theorem FP (c:Lg) (hc:II c):aA env 95 [kT c] (fun r hs=>r = szA c /\ hs = []):=by
  obtain ⟨h1,h2,h3,h4⟩:=hc
  have hrl:=aW c.ah
  have hil:=bP c.revs
  have hP:=ajv c.revs h2
  have hw:IntKind.i64.wrap (((aC c.ah).length:Int) + 1) = (c.ah.length:Int) + 1:=by rw [hrl,aU (by omega)]
  generalize hn0:aN c.base.data.toList = n0
  have hch:nP c = (if n0 < 0 then 3 else if 1048576 < n0 then 4 else if mZ c.revs ≠ 0 ∨ c.revs.length ≠ c.ah.length + 1 then 6 else dA n0 c.ah):=by subst hn0;rfl
  have hcnt:=qm c.base h1
  rw [hn0] at hcnt
  refine Ev.fn [0,1,2,3,4,6,7,8,10,11,30,35,36,37,38,51] 0 [.tmp 2,.tmp 3] Tryd.func95 (ajt _ rfl) ?_
  repeat' (first | refine' Ev.zP | (with_reducible refine Ev.join (a:=.reg 7 (⟨0,some 34,_,_⟩ :: _)) (fun s=>∃ w k v,s = ⟨[(2,nilA),(3,.v (.int .i64 0)),(4,.ptr 536 w 0 0),(8,.own 3080 v 0 1),(35,.lst 1 (aC c.ah)),(36,.v (.int .i64 (aC c.ah).length)),(37,.v (.int .i64 0))],[(536,⟨1,3,w,0,true,[[.v (.int .i64 n0)]]⟩),(3080,⟨1,3,v,0,false,[[.v (.int .i64 n0)]]⟩)],k⟩ /\ 0 <= n0 /\ n0 <= 1048576 /\ mZ c.revs = 0 /\ c.revs.length = c.ah.length + 1) ?_ ?_) | refine' Ev.zS | ((with_reducible refine Ev.kr (hs:=[133,134,160,135,136,137]) (fun Q hQ=>?_));refine' Ev.zR) | ((with_reducible refine Ev.Ac 133 ?_);refine Ev.il 133 [0,2,4,5,6,7,8,9,15] [.tmp 2] Tryd.func133 (Q8 _ rfl) (fun bF=>?_)) | ((with_reducible refine Ev.Ac 134 ?_);refine Ev.il 134 [0,1,2,3,4] [.tmp 4] Tryd.func134 (Q9 _ rfl) (fun bF=>?_)) | ((with_reducible refine Ev.Ac 160 ?_);refine Ev.il 160 [0,1,2,4] [.tmp 2] Tryd.func160 (Rf _ rfl) (fun bF=>?_)) | ((with_reducible refine Ev.Ac 135 ?_);refine Ev.il 135 [0,1] [.tmp 1] Tryd.func135 (adL _ rfl) (fun bF=>?_)) | ((with_reducible refine Ev.Ac 136 ?_);refine Ev.il 136 [0,1] [.tmp 1] Tryd.func136 (adM _ rfl) (fun bF=>?_)) | ((with_reducible refine Ev.Ac 137 ?_);refine Ev.il 137 [0,1,2] [.tmp 2] Tryd.func137 (adN _ rfl) (fun bF=>?_)) | ((with_reducible refine Ev.ca0 ?_);(first | refine Ev.ca (hcnt) ?_ | refine Ev.ca (hP) ?_);conv=>whnf) | (with_reducible refine Ev.oK 4 ?_) | refine' Ev.zT | fail)
  · have:nP c = 3:=by rw [hch,if_pos (by assumption)]
    exact ⟨(qw this (by decide)).symm,rfl⟩
  · have:nP c = 4:=by rw [hch,if_neg (by assumption),if_pos (by assumption)]
    exact ⟨(qw this (by decide)).symm,rfl⟩
  · refine Ev.zB ⟨?_,?_,?_,rfl,?_⟩
    exact ⟨by omega,by omega,by assumption,by omega⟩
  · rintro s1 ⟨w,k,v,rfl,g1,g2,g3,g4⟩
    have hc0:nP c = dA n0 c.ah:=by rw [hch,if_neg (by omega),if_neg (by omega),if_neg (by omega)]
    refine' Ev.zV
    refine Ev.loop (fun m s=>∃ i v k,s = ⟨[(2,nilA),(3,.v (.int .i64 0)),(4,.ptr 536 w 0 0),(8,.own 3080 v 0 (Az n0 (c.ah.take i)).length),(35,.lst 1 (aC c.ah)),(36,.v (.int .i64 (aC c.ah).length)),(37,.v (.int .i64 (i:Nat)))],[(536,⟨1,3,w,0,true,[[.v (.int .i64 (dY n0 (c.ah.take i)))]]⟩),(3080,⟨1,3,v,0,false,ints (Az n0 (c.ah.take i))⟩)],k⟩ /\ m + i = c.ah.length /\ dA n0 (c.ah.take i) = 0) ?_ ?_
    · refine Ev.zB ⟨c.ah.length,0,?_,?_,rfl,?_⟩
      exact ⟨by omega,rfl⟩
    rintro m s1 ⟨i,v,k,rfl,hm,hz⟩
    have hsl:=qx (c.ah.take i) n0
    have alr:=bP (Az n0 (c.ah.take i))
    have hti:(c.ah.take i).length <= c.ah.length:=by rw [List.length_take];omega
    have hX:∀ (hi:i < c.ah.length),c.ah[i].length <= 100000000 /\ Small c.ah[i]:=fun hi=>h4 _ (List.getElem_mem hi)
    repeat' (first | refine' Ev.zP | refine' Ev.zS | ((with_reducible refine Ev.kr (hs:=[133,134,160,138,139,140,141]) (fun Q hQ=>?_));refine' Ev.zR) | ((with_reducible refine Ev.Ac 133 ?_);refine Ev.il 133 [0,2,4,5,6,7,8,9,15] [.tmp 2] Tryd.func133 (Q8 _ rfl) (fun bF=>?_)) | ((with_reducible refine Ev.Ac 134 ?_);refine Ev.il 134 [0,1,2,3,4] [.tmp 4] Tryd.func134 (Q9 _ rfl) (fun bF=>?_)) | ((with_reducible refine Ev.Ac 160 ?_);refine Ev.il 160 [0,1,2,4] [.tmp 2] Tryd.func160 (Rf _ rfl) (fun bF=>?_)) | ((with_reducible refine Ev.Ac 138 ?_);refine Ev.il 138 [0,1] [.tmp 1] Tryd.func138 (adO _ rfl) (fun bF=>?_)) | ((with_reducible refine Ev.Ac 139 ?_);refine Ev.il 139 [0,1,2] [.tmp 2] Tryd.func139 (adP _ rfl) (fun bF=>?_)) | ((with_reducible refine Ev.Ac 140 ?_);refine Ev.il 140 [0,1] [.tmp 1] Tryd.func140 (adQ _ rfl) (fun bF=>?_)) | ((with_reducible refine Ev.Ac 141 ?_);refine Ev.il 141 [0,1] [.tmp 1] Tryd.func141 (adR _ rfl) (fun bF=>?_)) | ((with_reducible refine Ev.ca0 ?_);(first | refine Ev.aT (dW _ (by have:=(hX (by assumption)).1;omega) (hX (by assumption)).2) rfl rfl ?_ | refine Ev.aT (gy _ (by have:=(hX (by assumption)).1;omega)) rfl rfl ?_ | refine Ev.aT (oP _ (by have:=(hX (by assumption)).1;omega) (hX (by assumption)).2) rfl rfl ?_ | refine Ev.aT (QI _ (by have:=(hX (by assumption)).1;omega)) rfl rfl ?_ | refine Ev.ca (dW _ (by have:=(hX (by assumption)).1;omega) (hX (by assumption)).2) ?_ | refine Ev.ca (gy _ (by have:=(hX (by assumption)).1;omega)) ?_ | refine Ev.ca (oP _ (by have:=(hX (by assumption)).1;omega) (hX (by assumption)).2) ?_ | refine Ev.ca (QI _ (by have:=(hX (by assumption)).1;omega)) ?_);conv=>whnf) | (with_reducible refine Ev.oK 5 ?_) | ((with_reducible refine Ev.dG ?_);(first | refine Ev.dr 1 [133,134,160,138,139,140,141] [0,2,1,3,4] ?_);intro Q hQ;(simp only [Ev.ak,Ev.au]);conv=>whnf) | refine' Ev.zT | fail)
    · have hi:i < c.ah.length:=by omega
      have hb:iq (dY n0 (c.ah.take i)) c.ah[i] = 4:=by
        unfold iq;rw [if_neg (by simp;assumption),if_neg (by simp;assumption),if_pos (by assumption)]
      exact ⟨(qw (hc0.trans (rH hi hz hb (by decide))) (by decide)).symm,rfl⟩
    · have hi:i < c.ah.length:=by omega
      have hb:iq (dY n0 (c.ah.take i)) c.ah[i] = 0:=by
        unfold iq;rw [if_neg (by simp;assumption),if_neg (by simp;assumption),if_neg (by assumption),if_pos (by assumption)]
      have e1:c.ah.take (i + 1) = c.ah.take i ++ [c.ah[i]]:=List.take_succ_eq_append_getElem hi
      have e2:dY n0 (c.ah.take (i + 1)) = sumW (fun s=>kW s.k s.n s.t) c.ah[i]:=by rw [e1,Ci];rfl
      have e3:Az n0 (c.ah.take (i + 1)) = Az n0 (c.ah.take i) ++ [sumW (fun s=>kW s.k s.n s.t) c.ah[i]]:=by rw [e1,MV];rfl
      refine Ev.zA (m - 1) ⟨i + 1,?_,?_,rfl,?_⟩ (by refine' Ev.zp <;> first | (first | exact wrap_succ (by omega) | (rw [e3,AA];rfl) | (rw [e3];simp;done) | (rw [e2];rfl) | rfl) | rfl | (refine' Ev.ze;(first | exact wrap_succ (by omega) | (rw [e3,AA];rfl) | (rw [e3];simp;done) | (rw [e2];rfl) | rfl)) | fail)
      exact ⟨by omega,FN hi hz hb⟩
    · have hi:i < c.ah.length:=by omega
      have hb:iq (dY n0 (c.ah.take i)) c.ah[i] = 8:=by
        unfold iq;rw [if_neg (by simp;assumption),if_neg (by simp;assumption),if_neg (by assumption),if_neg (by simp;assumption)]
      exact ⟨(qw (hc0.trans (rH hi hz hb (by decide))) (by decide)).symm,rfl⟩
    · have hi:i < c.ah.length:=by omega
      have hb:iq (dY n0 (c.ah.take i)) c.ah[i] = 5:=by
        unfold iq;rw [if_neg (by simp;assumption),if_pos (by assumption)]
      exact ⟨(qw (hc0.trans (rH hi hz hb (by decide))) (by decide)).symm,rfl⟩
    · exfalso
      rename_i a b
      exact a b
    · have hi:i < c.ah.length:=by omega
      have hm0:aH c.ah[i] ≠ 0:=by assumption
      have hb:iq (dY n0 (c.ah.take i)) c.ah[i] = aH c.ah[i]:=by
        unfold iq;rw [if_pos hm0]
      exact ⟨(qw (hc0.trans (rH hi hz hb hm0)) hm0).symm,rfl⟩
    · have hall:c.ah.take i = c.ah:=List.take_of_length_le (by omega)
      rw [hall] at hz hsl alr ⊢
      refine ⟨?_,rfl⟩
      rw [aju (hc0.trans hz),hn0]
      exact Ev.Ea (Ev.aZ (Ev.oJ (by omega) rfl)) rfl
  · have:nP c = 6:=by rw [hch,if_neg (by assumption),if_neg (by assumption),if_pos (.inr (by omega))]
    exact ⟨(qw this (by decide)).symm,rfl⟩
  · have:nP c = 6:=by rw [hch,if_neg (by assumption),if_neg (by assumption),if_pos (.inl (by assumption))]
    exact ⟨(qw this (by decide)).symm,rfl⟩
end Go.Proofs.YtadlnaljicikfaaDoor.aB
namespace Go.Proofs.YtadlnaljicikfaaDoor.aB
open Go Go.Lib
theorem MW {l:List UInt8} (hl:l ≠ []) (h:decodeL l ≠ (65533,1)):decodeL (l.take (decodeL l).2) = decodeL l:=by
 have hp:=List.length_pos_iff.2 hl
 have hle:=decodeL_le l hl
 have g:∀ w i,i < w -> ((l.take w).getD i 0) = l.getD i 0:=fun w i hi=>by
   simp only [List.getD_eq_getElem?_getD,List.getElem?_take,if_pos hi]
 rw [decodeL_N] at h hle ⊢
 rw [decodeL_N]
 rcases decodeN_shape l.length (l.getD 0 0).toNat (l.getD 1 0).toNat (l.getD 2 0).toNat (l.getD 3 0).toNat with ⟨c,e⟩ | ⟨c1,c2,c3,cv,e⟩ | ⟨c1,c2,c3,c4,cv,cs,e⟩ | ⟨c1,c2,c3,c4,c5,cv,cw,e⟩ | e
 · rw [e]
   simp only
   rw [g 1 0 (by omega)]
   unfold decodeN;rw [if_pos c]
 · rw [e]
   simp only
   rw [g 2 0 (by omega),g 2 1 (by omega),show (l.take 2).length = 2 by rw [List.length_take];omega]
   unfold decodeN;rw [if_neg (by omega),if_pos ⟨c1,by omega,c3⟩,if_pos cv]
 · rw [e]
   simp only
   rw [g 3 0 (by omega),g 3 1 (by omega),g 3 2 (by omega),show (l.take 3).length = 3 by rw [List.length_take];omega]
   unfold decodeN;rw [if_neg (by omega),if_neg (by omega),if_pos ⟨c1,⟨by omega,c3⟩,by omega,c4⟩,if_pos ⟨cv,by omega⟩]
 · rw [e]
   simp only
   rw [g 4 0 (by omega),g 4 1 (by omega),g 4 2 (by omega),g 4 3 (by omega),show (l.take 4).length = 4 by rw [List.length_take];omega]
   unfold decodeN;rw [if_neg (by omega),if_neg (by omega),if_neg (by omega),if_pos ⟨c1,⟨by omega,c3⟩,⟨by omega,c4⟩,by omega,c5⟩,if_pos ⟨cv,by omega⟩]
 · exact absurd e h
def GL (p:Nat):Prop:=encodeRune (p:Int) ≠ [] /\ ∀ rest,decodeL (encodeRune (p:Int) ++ rest) = (p,(encodeRune (p:Int)).length) /\ (p,(encodeRune (p:Int)).length) ≠ (65533,1)
theorem Du {l:List UInt8} (hl:l ≠ []) (h:decodeL l ≠ (65533,1)):GL (decodeL l).1 /\ encodeRune ((decodeL l).1:Int) = l.take (decodeL l).2:=by
 have e:=encode_decode l hl (fun hh=>h (Prod.ext hh.1 hh.2))
 have hw:=decodeL_width l
 have hle:=decodeL_le l hl
 have hlen:(l.take (decodeL l).2).length = (decodeL l).2:=by rw [List.length_take];omega
 have hne:l.take (decodeL l).2 ≠ []:=by intro hh;rw [hh] at hlen;simp at hlen;omega
 have hc:=MW hl h
 refine ⟨⟨by rw [e];exact hne,fun rest=>?_⟩,e⟩
 rw [e,hlen]
 refine ⟨?_,h⟩
 rw [yG hne (by rw [hc];exact h),hc]
def fJ (l:List Nat):List UInt8:=l.flatMap fun (p:Nat)=>encodeRune (p:Int)
theorem rJ (p:Nat) (l:List Nat):fJ (p :: l) = encodeRune (p:Int) ++ fJ l:=rfl
theorem lg (a b:List Nat):fJ (a ++ b) = fJ a ++ fJ b:=by simp [fJ]
theorem jv:∀ l,validD l = true -> fJ (pts l) = l /\ ∀ p ∈ pts l,GL p:=by
 refine Ah ⟨rfl,fun p hp=>by simp [JL] at hp⟩ (fun l he hv hd hs ih=>?_)
 obtain ⟨s,e⟩:=Du he hd
 rw [oU he]
 refine ⟨?_,?_⟩
 · rw [rJ,e,ih.1,List.take_append_drop]
 · intro p hp
   rcases List.mem_cons.1 hp with rfl | hp
   · exact s
   · exact ih.2 p hp
theorem nR:∀ (l:List Nat),(∀ p ∈ l,GL p) -> validD (fJ l) = true /\ pts (fJ l) = l
 | [],_=>⟨rfl,rfl⟩
 | p :: l,h=>by
   obtain ⟨h1,h2⟩:=h p (by simp)
   obtain ⟨i1,i2⟩:=nR l (fun q hq=>h q (by simp [hq]))
   obtain ⟨d1,d2⟩:=h2 (fJ l)
   have hne:encodeRune (p:Int) ++ fJ l ≠ []:=by simp [h1]
   rw [rJ]
   refine ⟨?_,?_⟩
   · rw [validD_step hne,d1,if_neg d2]
     simp only [List.drop_left];exact i1
   · rw [oU hne,d1]
     simp only [List.drop_left];rw [i2]
theorem J7 (p:Nat):(Utf8.encode (p:Int)).data.toList = encodeRune (p:Int):=by
 have h:=Extern.FmtText.encode_eq p
 unfold encodeRune
 rw [<- h]
 unfold Extern.FmtText.nums
 rw [List.map_map]
 conv=>lhs;rw [<- List.map_id (Utf8.encode (p:Int)).data.toList]
 refine List.map_congr_left (fun b _=>?_)
 simp
theorem MX (l:List Nat):(runesBytes (l.map fun (p:Nat)=>(p:Int))).data.toList = fJ l:=by
 have key:∀ (l:List Nat) (r:ByteArray),((l.map fun (p:Nat)=>(p:Int)).foldl (fun r n=>r ++ Utf8.encode n) r).data.toList = r.data.toList ++ fJ l:=by
   intro l
   induction l with
   | nil=>intro r;simp [fJ]
   | cons p l ih=>intro r;rw [List.map_cons,List.foldl_cons,ih,wP,J7,rJ,List.append_assoc]
 exact key l _
def fE (l:List Nat):List Int:=l.map fun (p:Nat)=>(p:Int)
theorem runes_all (b:ByteArray):jF b = cZ (fE (pts b.data.toList)):=by
 have key:∀ (n i:Nat) (acc:Array Value),(Conv.runesFrom b n i acc).toList = acc.toList ++ (qY n (b.data.toList.drop i)).map fun (p:Nat)=>Value.int .i32 (p:Int):=by
   intro n
   induction n with
   | zero=>intro i acc;simp [Conv.runesFrom,qY]
   | succ n ih =>
     intro i acc
     have hsz:b.data.toList.length = b.size:=bM b
     by_cases hi:i < b.size
     · have hne:b.data.toList.drop i ≠ []:=by intro hh;have:=congrArg List.length hh;rw [List.length_drop] at this;simp at this;omega
       simp only [Conv.runesFrom,qY,if_pos hi,if_neg hne]
       rw [ih,decodeL_drop,List.drop_drop]
       simp
     · have he:b.data.toList.drop i = []:=List.drop_of_length_le (by omega)
       simp only [Conv.runesFrom,qY,if_neg hi,he,if_pos]
       simp
 unfold jF
 rw [key]
 simp only [List.drop_zero,List.nil_append]
 have e:qY b.size b.data.toList = pts b.data.toList:=by unfold pts;rw [bM]
 rw [e]
 simp [cZ,fE]
theorem Yk {l:List Nat}:l.length <= (fJ l).length ∨ ∃ p ∈ l,¬ GL p:=by
 induction l with
 | nil=>exact .inl (Nat.le_refl _)
 | cons p l ih =>
   by_cases h:GL p
   · have:=List.length_pos_iff.2 h.1
     rcases ih with ih | ⟨q,a,b⟩
     · refine .inl ?_
       rw [rJ,List.length_append,List.length_cons];omega
     · exact .inr ⟨q,by simp [a],b⟩
   · exact .inr ⟨p,by simp,h⟩
end Go.Proofs.YtadlnaljicikfaaDoor.aB
namespace Go.Proofs.YtadlnaljicikfaaDoor.aB
open Go
set_option maxRecDepth 100000
attribute [local irreducible] Ev.iE Ev.iG Ev.bW Ev.runK Ev.bY Ev.gq Ev.Side Ev.Wp Ev.Again Ev.To Ev.Fin
open Go.Lib Go.RowKit
theorem ajw:∀ c,Tryd.f56.body = some c -> comp c = (.seq (.reg 0 [I.n 0 4 (.assign (.const (Value.string { data:=#[] }))),I.n 1 5 (I.si 0)]) (.seq (.seq (.reg 1 [I.n 0 12 (I.mv 0),I.n 1 13 (I.c1 72 12 23),I.n 2 6 (I.sa 13)]) (.seq (.reg 2 [I.n 0 14 (I.mv 6),I.n 1 15 (I.bc .neq 30 14 0 30)]) (.cond (.tmp 15) (.seq (.reg 3 [I.n 0 16 (I.mv 6),I.n 1 4 (.assign (.const (Value.string { data:=#[] }))),I.n 2 5 (I.sa 16)]) .ret) .skip))) (.seq (.seq (.reg 4 [I.n 0 17 (I.mv 1),I.n 1 18 (I.c1 32 17 9),I.n 2 7 (I.sa 18)]) (.block 0 (.seq (.reg 5 [I.n 0 20 (I.mv 7),I.n 1 21 (I.bc .lss 3 20 0 3),I.n 2 19 (I.sa 21)]) (.cond (.tmp 19) (.seq (.reg 6 [I.n 0 4 (.assign (.const (Value.string { data:=#[] }))),I.n 1 5 (I.si 3)]) .ret) (.seq (.reg 7 [I.n 0 23 (I.mv 7),I.n 1 24 (I.mv 0),I.n 2 25 (I.c1 74 24 23),I.n 3 26 (I.bo .neq 3 23 25 3),I.n 4 22 (I.sa 26)]) (.cond (.tmp 22) (.seq (.reg 8 [I.n 0 4 (.assign (.const (Value.string { data:=#[] }))),I.n 1 5 (I.si 5)]) .ret) .skip)))))) (.seq (.reg 9 [I.n 0 27 (I.mv 1),I.n 1 28 (I.cv 9 115 27),I.n 2 8 (I.sa 28)]) (.seq (.reg 10 [I.n 0 9 I.sn]) (.seq (.seq (.reg 11 [I.n 0 29 (I.mv 0),I.n 1 30 (I.ln 29 23),I.n 2 31 (.move (.const (Value.int .i64 0)))]) (.block 1 (.loop (.seq (.reg 12 [I.n 0 32 (I.bo .lss 3 31 30 3)]) (.seq (.cond (.tmp 32) .skip (.exit 1)) (.seq (.block 2 (.seq (.reg 13 [I.n 0 33 (I.ia 23 29 31),I.n 1 34 (I.ld 35 33),I.n 2 11 (.alloc 35),I.u 3 (I.st 35 11 34)]) (.seq (.seq (.reg 14 [I.n 0 35 (I.fa 35 11 0),I.n 1 36 (I.ld 3 35)]) (.block 3 (.seq (.reg 15 [I.n 0 38 (I.bc .eql 3 36 2 3),I.n 1 37 (I.sa 38)]) (.cond (.tmp 37) (.reg 16 [I.n 0 39 (I.mv 9),I.n 1 40 (I.fa 35 11 2),I.n 2 41 (I.ld 9 40),I.n 3 42 (I.cv 9 115 41),I.n 4 43 (I.ap 39 42 115 115),I.n 5 9 (I.sa 43)]) (.seq (.reg 17 [I.n 0 45 (I.bc .eql 3 36 1 3),I.n 1 44 (I.sa 45)]) (.cond (.tmp 44) (.reg 18 [I.n 0 46 (I.mv 9),I.n 1 47 (I.mv 8),I.n 2 48 (I.fa 35 11 1),I.n 3 49 (I.ld 3 48),I.n 4 50 (.slice 115 (.tmp 47) none (some (.tmp 49)) none),I.n 5 51 (I.ap 46 50 115 115),I.n 6 9 (I.sa 51)]) .skip)))))) (.reg 19 [I.n 0 52 (I.mv 8),I.n 1 53 (I.fa 35 11 1),I.n 2 54 (I.ld 3 53),I.n 3 55 (.slice 115 (.tmp 52) (some (.tmp 54)) none none),I.n 4 8 (I.sa 55)])))) (.reg 20 [I.n 0 56 (I.bc .add 3 31 1 3),I.n 1 31 (I.mv 56)]))))))) (.seq (.reg 21 [I.n 0 57 (I.mv 9),I.n 1 58 (I.cv 115 9 57),I.n 2 4 (I.sa 58),I.n 3 5 (I.si 0)]) .ret))))))):=by
 intro c h
 have:c = Tryd.f56.body.get rfl:=by rw [<- Option.some_inj,<- h];rfl
 rw [this];rfl
theorem ajx:∀ c,Tryd.f57.body = some c -> comp c = (.seq (.reg 0 [I.n 0 4 (.assign (.const (Value.string { data:=#[] }))),I.n 1 5 (I.si 0)]) (.seq (.seq (.reg 1 [I.n 0 10 (I.mv 1),I.n 1 11 (I.ln 10 22),I.n 2 12 (I.bc .eql 3 11 0 3),I.n 3 13 (I.mv 12),I.w 4 14 (I.mv 0) 13 true,I.w 5 15 (I.c1 78 14 9) 13 true,I.w 6 16 (.unOp .not 4 (.tmp 15)) 13 true,I.n 7 17 (I.pc 13 16 false)]) (.cond (.tmp 17) (.seq (.reg 2 [I.n 0 4 (.assign (.const (Value.string { data:=#[] }))),I.n 1 5 (I.si 3)]) .ret) .skip)) (.seq (.seq (.reg 3 [I.n 0 18 (I.mv 1),I.n 1 19 (I.ln 18 22),I.n 2 20 (.move (.const (Value.int .i64 0)))]) (.block 0 (.loop (.seq (.reg 4 [I.n 0 21 (I.bo .lss 3 20 19 3)]) (.seq (.cond (.tmp 21) .skip (.exit 0)) (.seq (.block 1 (.seq (.reg 5 [I.n 0 22 (I.ia 22 18 20),I.n 1 23 (I.ld 23 22),I.n 2 7 (I.sa 23)]) (.seq (.reg 6 [I.n 0 25 (I.mv 7),I.n 1 26 (I.mv 0),I.n 2 27 (I.c2 56 25 26 23 9),I.n 3 24 (I.mv 27),I.n 4 28 (I.ex 24 0),I.n 5 29 (I.ex 24 1),I.n 6 8 (I.sa 28),I.n 7 9 (I.sa 29)]) (.seq (.seq (.reg 7 [I.n 0 30 (I.mv 9),I.n 1 31 (I.bc .neq 30 30 0 30)]) (.cond (.tmp 31) (.seq (.reg 8 [I.n 0 32 (I.mv 9),I.n 1 4 (.assign (.const (Value.string { data:=#[] }))),I.n 2 5 (I.sa 32)]) .ret) .skip)) (.reg 9 [I.n 0 33 (I.mv 8),I.n 1 0 (I.sa 33)]))))) (.reg 10 [I.n 0 34 (I.bc .add 3 20 1 3),I.n 1 20 (I.mv 34)]))))))) (.seq (.reg 11 [I.n 0 35 (I.mv 0),I.n 1 4 (I.sa 35),I.n 2 5 (I.si 0)]) .ret)))):=by
 intro c h
 have:c = Tryd.f57.body.get rfl:=by rw [<- Option.some_inj,<- h];rfl
 rw [this];rfl
def fQ:List Sp -> List Nat -> List Nat
 | [],_=>[]
 | s :: l,r=>(if s.k = 2 then pts s.t.data.toList else if s.k = 1 then r.take s.n.toNat else []) ++ fQ l (r.drop s.n.toNat)
def mP (l:List Sp) (t:ByteArray):Int:=if aH l ≠ 0 then aH l else if aN t.data.toList < 0 then 3 else if aN t.data.toList ≠ jV l then 5 else 0
def txt (ns:List Nat):ByteArray:=⟨(fJ ns).toArray⟩
def rM (l:List Sp) (t:ByteArray):ByteArray:=if mP l t = 0 then txt (fQ l (pts t.data.toList)) else ⟨#[]⟩
def toA (l:List Sp) (t:ByteArray):AV:=.dB [.v (.string (rM l t)),.v (.int .i64 (mP l t))]
theorem qy {l:List Sp} {t:ByteArray} {e:Int} (h:mP l t = e) (he:e ≠ 0):toA l t = .dB [.v (.string ⟨#[]⟩),.v (.int .i64 e)]:=by
 unfold toA rM;rw [h,if_neg he]
theorem Yl {l:List Sp} {t:ByteArray} (h:mP l t = 0):toA l t = .dB [.v (.string (txt (fQ l (pts t.data.toList)))),.v (.int .i64 0)]:=by
 unfold toA rM;rw [h,if_pos rfl]
theorem fH (ns:List Nat):(txt ns).data.toList = fJ ns:=by simp [txt]
theorem J8 {a b:ByteArray} (h:a.data.toList = b.data.toList):a = b:=by
 cases a;cases b;simp at h ⊢
 exact h
theorem lW (ns:List Nat):runesBytes (fE ns) = txt ns:=J8 (by rw [fH];exact MX ns)
theorem J9 (a b:List Nat):txt a ++ txt b = txt (a ++ b):=J8 (by rw [wP,fH,fH,fH,lg])
theorem uD {t:ByteArray} (h:validD t.data.toList = true):txt (pts t.data.toList) = t:=J8 (by rw [fH,(jv _ h).1])
theorem o9 {l:List Sp} {t:ByteArray} (h:mP l t = 0):aH l = 0 /\ validD t.data.toList = true /\ jV l = (pts t.data.toList).length:=by
 unfold mP at h
 by_cases h1:aH l = 0
 · rw [if_neg (by simp [h1])] at h
   by_cases h2:aN t.data.toList < 0
   · rw [if_pos h2] at h;cases h
   · rw [if_neg h2] at h
     by_cases h3:aN t.data.toList = jV l
     · cases hv:validD t.data.toList with
       | false=>rw [oV hv] at h2;omega
       | true=>exact ⟨h1,rfl,by rw [<- h3,bU hv]⟩
     · rw [if_pos h3] at h;cases h
 · rw [if_pos h1] at h;exact absurd h h1
theorem yL {l:List Sp} {t:ByteArray} (h1:aH l = 0) (h2:validD t.data.toList = true) (h3:jV l = (pts t.data.toList).length):mP l t = 0:=by
 unfold mP;rw [if_neg (by simp [h1]),bU h2,if_neg (by omega),if_neg (by simp [h3])]
def x9 (s:Sp) (r:List Nat):List Nat:=if s.k = 2 then pts s.t.data.toList else if s.k = 1 then r.take s.n.toNat else []
theorem rO (s:Sp) (l:List Sp) (r:List Nat):fQ (s :: l) r = x9 s r ++ fQ l (r.drop s.n.toNat):=rfl
theorem Rh {l:List Sp} {i:Nat} (hi:i < l.length) (r:List Nat):fQ (l.drop i) r = x9 l[i] r ++ fQ (l.drop (i + 1)) (r.drop l[i].n.toNat):=by
 rw [List.drop_eq_getElem_cons hi,rO]
theorem Ym {l:List Sp} {i:Nat} (hi:i < l.length):bC dV (l.drop i) = dV l[i] + bC dV (l.drop (i + 1)):=by
 rw [List.drop_eq_getElem_cons hi,bZ]
theorem Ej {l:List Sp} (h:∀ s ∈ l,cu s):0 <= bC dV l:=(kH dV 1048576 l (fun x hx=>(h x hx).dV)).1
theorem jJ {s:Sp} (h:cu s):(s.k = 2 /\ s.n = 0 /\ dV s = 0 /\ validD s.t.data.toList = true) ∨ ((s.k = 1 ∨ s.k = 3) /\ 0 <= s.n /\ dV s = s.n /\ s.t = ⟨#[]⟩):=by
 rcases h.cases with ⟨a,b,c,d⟩ | ⟨a,b,c⟩
 · exact .inr ⟨a,b,by unfold aB.dV qo;rw [if_pos a],d⟩
 · exact .inl ⟨a,b,by unfold aB.dV qo;rw [if_neg (by omega)],c⟩
theorem MZ:∀ (l:List Sp) (r:List Nat),(∀ s ∈ l,cu s) -> bC dV l = r.length -> ((fQ l r).length:Int) = bC dK l
 | [],r,_,_=>by simp [fQ,bC]
 | s :: l,r,h,hr=>by
   have hs:=h s (by simp)
   have hp:=Ej (fun x hx=>h x (by simp [hx]):∀ x ∈ l,cu x)
   rw [bZ] at hr
   have hn:s.n.toNat <= r.length /\ dV s = (s.n.toNat:Int):=by rcases jJ hs with ⟨a,b,c,d⟩ | ⟨a,b,c,d⟩ <;> omega
   have ih:=MZ l (r.drop s.n.toNat) (fun x hx=>h x (by simp [hx])) (by rw [List.length_drop];omega)
   rw [rO,List.length_append,bZ,Int.natCast_add,ih]
   congr 1
   unfold x9 dK kW
   rcases jJ hs with ⟨a,b,c,d⟩ | ⟨a | a,b,c,d⟩
   · rw [if_pos a,if_neg (by omega),if_pos a,bU d];omega
   · rw [if_neg (by omega),if_pos a,if_pos a,List.length_take];omega
   · rw [if_neg (by omega),if_neg (by omega),if_neg (by omega),if_neg (by omega)];rfl
theorem Cj:∀ (l:List Sp) (r:List Nat),(∀ s ∈ l,cu s) -> (∀ p ∈ r,GL p) -> ∀ p ∈ fQ l r,GL p
 | [],r,_,_,p,hp=>by simp [fQ] at hp
 | s :: l,r,h,hr,p,hp=>by
   rw [rO,List.mem_append] at hp
   rcases hp with hp | hp
   · unfold x9 at hp
     rcases jJ (h s (by simp)) with ⟨a,b,c,d⟩ | ⟨a | a,b,c,d⟩
     · rw [if_pos a] at hp;exact (jv _ d).2 p hp
     · rw [if_neg (by omega),if_pos a] at hp;exact hr p (List.mem_of_mem_take hp)
     · rw [if_neg (by omega),if_neg (by omega)] at hp;cases hp
   · exact Cj l _ (fun x hx=>h x (by simp [hx])) (fun q hq=>hr q (List.mem_of_mem_drop hq)) p hp
theorem Cm:∀ (l:List Sp) (r:List Nat),(∀ s ∈ l,cu s) -> (fJ (fQ l r)).length <= (fJ r).length + dw l
 | [],r,_=>by simp [fQ,fJ]
 | s :: l,r,h=>by
   have ih:=Cm l (r.drop s.n.toNat) (fun x hx=>h x (by simp [hx]))
   have hr:(fJ r).length = (fJ (r.take s.n.toNat)).length + (fJ (r.drop s.n.toNat)).length:=by
     rw [<- List.length_append,<- lg,List.take_append_drop]
   rw [rO,lg,List.length_append,aQ]
   have:(fJ (x9 s r)).length <= (fJ (r.take s.n.toNat)).length + s.t.size:=by
     unfold x9
     rcases jJ (h s (by simp)) with ⟨a,b,c,d⟩ | ⟨a | a,b,c,d⟩
     · rw [if_pos a,(jv _ d).1,bM];omega
     · rw [if_neg (by omega),if_pos a];omega
     · rw [if_neg (by omega),if_neg (by omega)];simp [fJ]
   omega
theorem CB {l:List Sp} {t:ByteArray} (h:mP l t = 0) (hl:l.length <= 1000000000) (hb:t.size + dw l <= 1000000000):validD (rM l t).data.toList = true /\ pts (rM l t).data.toList = fQ l (pts t.data.toList) /\ ((pts (rM l t).data.toList).length:Int) = outW l /\ (rM l t).size <= t.size + dw l:=by
 obtain ⟨h1,h2,h3⟩:=o9 h
 obtain ⟨h4,h5⟩:=(gG l).1 h1
 have hs:=ku h4 hl
 have hT:rM l t = txt (fQ l (pts t.data.toList)):=if_pos h
 obtain ⟨p1,p2⟩:=jv _ h2
 obtain ⟨q1,q2⟩:=nR _ (Cj l _ h4 p2)
 have hlen:=MZ l (pts t.data.toList) h4 (by omega)
 have hsz:=Cm l (pts t.data.toList) h4
 rw [p1,bM] at hsz
 rw [hT,fH]
 refine ⟨q1,q2,?_,?_⟩
 · rw [q2,jf,<- hlen,aU]
   rcases Yk (l:=fQ l (pts t.data.toList)) with hu | ⟨p,hp,hn⟩
   · omega
   · exact absurd (Cj l _ h4 p2 p hp) hn
 · rw [<- bM,fH];exact hsz
theorem fU (l:List Int):(cZ l).length = l.length:=by simp [cZ]
theorem gY (l:List Nat):(fE l).length = l.length:=by simp [fE]
theorem rP (l:List Int):∀ y ∈ cZ l,y.length = 1:=by
 intro y hy
 refine' ag7
set_option maxHeartbeats 8000000 in
theorem Ri (l:List Sp) (t:ByteArray) (hl:l.length <= 100000000) (hb:dw l + t.size <= 1000000000):aA env 56 [.lst 3 (bD l),.v (.string t)] (fun r hs=>r = toA l t /\ hs = []):=by
  have hsl:=bH l
  have hra:=runes_all t
  have hc:=qm t (by omega)
  have hsm:Small l:=fM (by omega)
  have hpl:=nD t.data.toList
  rw [bM] at hpl
  refine Ev.fn [0,1,4,5,6,7,8,9,11,15,19,22,29,30,31,32,36,37,44] 0 [.tmp 4,.tmp 5] Tryd.func56 (ajw _ rfl) ?_
  repeat' (first | refine' Ev.zS | refine' Ev.zK | ((with_reducible refine Ev.ca0 ?_);(first | refine Ev.aT (dW l (by omega) hsm) rfl rfl ?_ | refine Ev.aT (gy l (by omega)) rfl rfl ?_ | refine Ev.ca (dW l (by omega) hsm) ?_ | refine Ev.ca (hc) ?_ | refine Ev.ca (gy l (by omega)) ?_);conv=>whnf) | refine' Ev.zT | fail)
  · have:mP l t = 3:=by unfold mP;rw [if_neg (by simp;assumption),if_pos (by assumption)]
    exact ⟨(qy this (by decide)).symm,rfl⟩
  · have h1:aH l = 0:=by assumption
    have h2:¬ aN t.data.toList < 0:=by assumption
    have h3:aN t.data.toList = jV l:=by assumption
    have hz:mP l t = 0:=by unfold mP;rw [if_neg (by simp [h1]),if_neg h2,if_neg (by simp [h3])]
    obtain ⟨_,hv,hin⟩:=o9 hz
    obtain ⟨h4,h5⟩:=(gG l).1 h1
    have hsum:=ku h4 (by omega)
    rw [Yl hz]
    generalize pts t.data.toList = r0 at *
    refine Ev.loop (fun k s=>∃ (i c:Nat) (O R:List Nat) (st:AV) (hx:List (Nat × aG)),s = ⟨[(8,.lst 1 (cZ (fE R))),(9,st),(29,.lst 3 (bD l)),(30,.v (.int .i64 (bD l).length)),(31,.v (.int .i64 i))],hx,c⟩ /\
      ((O = [] /\ st = nilA /\ hx = []) ∨ (∃ v,st = .own 8224 v 0 O.length /\ hx = [(8224,⟨1,21,v,0,false,cZ (fE O)⟩)]) ∨ (∃ v,st = .own 9256 v 0 O.length /\ hx = [(9256,⟨1,21,v,0,false,cZ (fE O)⟩)])) /\
      k + i = l.length /\ fQ l r0 = O ++ fQ (l.drop i) R /\ (R.length:Int) = bC dV (l.drop i) /\ O.length + R.length <= dw (l.take i) + r0.length) ?_ ?_
    · refine Ev.zB ⟨l.length,0,?_,[],r0,nilA,[],rfl,?_⟩ (by refine' Ev.zp <;> first | (first | (rw [hra];done) | rfl) | rfl | (refine' Ev.ze;(first | (rw [hra];done) | rfl)) | fail)
      exact ⟨.inl ⟨rfl,rfl,rfl⟩,by omega,rfl,by rw [List.drop_zero];omega,by simp⟩
    rintro k s1 ⟨i,c,O,R,st,hx,rfl,hst,hk,hap,hR,hsz⟩
    have hrl:=fU (fE R)
    rw [gY] at hrl
    have hol:=fU (fE O)
    rw [gY] at hol
    by_cases hil:i < l.length
    · have hs:=h4 _ (List.getElem_mem hil)
      have hsa:=Ym hil
      have hsp:=Ej (fun x hx=>h4 x (List.mem_of_mem_drop hx):∀ x ∈ l.drop (i + 1),cu x)
      have hpa:=Rh hil R
      have htk:=Ak l hil
      have htl:=PS l (i + 1)
      have hxa:=runes_all l[i].t
      have hpx:=nD l[i].t.data.toList
      rw [bM] at hpx
      have hdr:List.take ((cZ (fE R)).length - (l[i].n).toNat) (List.drop (l[i].n).toNat (cZ (fE R))) = cZ (fE (R.drop l[i].n.toNat)):=by
        rw [EY,List.take_of_length_le (by rw [List.length_drop,gY,hrl];exact Nat.le_refl _)];simp [fE,List.map_drop]
      have Ko:List.take ((l[i].n).toNat - 0) (List.drop 0 (cZ (fE R))) = cZ (fE (R.take l[i].n.toNat)):=by
        rw [EY,List.drop_zero,Nat.sub_zero];simp [fE,List.map_take]
      rcases hst with ⟨rfl,rfl,rfl⟩ | ⟨v,rfl,rfl⟩ | ⟨v,rfl,rfl⟩
      · rcases jJ hs with ⟨a,b,c',d⟩ | ⟨a | a,b,c',d⟩
        · have hi2:(i:Int) < ((bD l).length:Int):=by omega
          have hn:l[i].n.toNat <= R.length:=by omega
          have hP:x9 l[i] R = pts l[i].t.data.toList:=by unfold x9;rw [if_pos a]
          have hstep:fQ l r0 = ([] ++ pts l[i].t.data.toList) ++ fQ (l.drop (i + 1)) (R.drop l[i].n.toNat):=by rw [hap,hpa,hP,List.append_assoc]
          have hrow:jF l[i].t = cZ (fE ([] ++ pts l[i].t.data.toList)):=by rw [hxa];simp [cZ,fE]
          have hlr:(jF l[i].t).length = ([] ++ pts l[i].t.data.toList).length:=by rw [hxa,fU,gY];simp
          have hpl2:(pts l[i].t.data.toList).length <= l[i].t.size:=by exact hpx
          repeat' (first | refine' Ev.zP | (with_reducible refine Ev.aK hi2 ?_) | (with_reducible refine Ev.aK a ?_) | refine' Ev.zS | refine' Ev.zK | refine' Ev.zT | fail)
          · refine Ev.zA (k - 1) ⟨i + 1,c + 8 + 8,([] ++ pts l[i].t.data.toList),R.drop l[i].n.toNat,.own 8224 (c + 8) 0 ([] ++ pts l[i].t.data.toList).length,[(8224,⟨1,21,c + 8,0,false,cZ (fE ([] ++ pts l[i].t.data.toList))⟩)],rfl,?_⟩ (by refine' Ev.zp <;> first | (first | exact wrap_succ (by omega) | exact congrArg (AV.lst 1) hdr | exact hlr | (exact congrArg (fun n=>aG.mk 1 21 _ 0 false n) hrow) | rfl) | rfl | (refine' Ev.ze;(first | exact wrap_succ (by omega) | exact congrArg (AV.lst 1) hdr | exact hlr | (exact congrArg (fun n=>aG.mk 1 21 _ 0 false n) hrow) | rfl)) | fail)
            refine ⟨.inr (.inl ⟨_,rfl,rfl⟩),by omega,hstep,by rw [List.length_drop];omega,?_⟩
            simp only [List.length_append,List.length_nil,List.length_drop,List.length_take] at hsz ⊢;omega
          · rw [hxa];exact Ev.Eb (rP _) (by rw [fU,gY];omega) (by decide)
        · have hi2:(i:Int) < ((bD l).length:Int):=by omega
          have a2:¬ l[i].k = 2:=by omega
          have hn:l[i].n.toNat <= R.length:=by omega
          have hP:x9 l[i] R = R.take l[i].n.toNat:=by unfold x9;rw [if_neg a2,if_pos a]
          have hstep:fQ l r0 = ([] ++ R.take l[i].n.toNat) ++ fQ (l.drop (i + 1)) (R.drop l[i].n.toNat):=by rw [hap,hpa,hP,List.append_assoc]
          have hrow:List.take (l[i].n.toNat - 0) (List.drop 0 (cZ (fE R))) = cZ (fE ([] ++ R.take l[i].n.toNat)):=by rw [Ko];simp [cZ,fE]
          have hlr:(List.take (l[i].n.toNat - 0) (List.drop 0 (cZ (fE R)))).length = ([] ++ R.take l[i].n.toNat).length:=by rw [Ko,fU,gY];simp
          have hpl2:(R.take l[i].n.toNat).length <= R.length:=by rw [List.length_take];omega
          repeat' (first | refine' Ev.zP | (with_reducible refine Ev.aK hi2 ?_) | (with_reducible refine Ev.aV a2 ?_) | (with_reducible refine Ev.aK a ?_) | refine' Ev.zS | refine' Ev.zK | refine' Ev.zT | fail)
          · refine Ev.zA (k - 1) ⟨i + 1,c + 8 + 8,([] ++ R.take l[i].n.toNat),R.drop l[i].n.toNat,.own 9256 (c + 8) 0 ([] ++ R.take l[i].n.toNat).length,[(9256,⟨1,21,c + 8,0,false,cZ (fE ([] ++ R.take l[i].n.toNat))⟩)],rfl,?_⟩ (by refine' Ev.zp <;> first | (first | exact wrap_succ (by omega) | exact congrArg (AV.lst 1) hdr | exact hlr | (exact congrArg (fun n=>aG.mk 1 21 _ 0 false n) hrow) | rfl) | rfl | (refine' Ev.ze;(first | exact wrap_succ (by omega) | exact congrArg (AV.lst 1) hdr | exact hlr | (exact congrArg (fun n=>aG.mk 1 21 _ 0 false n) hrow) | rfl)) | fail)
            refine ⟨.inr (.inr ⟨_,rfl,rfl⟩),by omega,hstep,by rw [List.length_drop];omega,?_⟩
            simp only [List.length_append,List.length_nil,List.length_drop,List.length_take] at hsz ⊢;omega
          · rw [Ko];exact Ev.Eb (rP _) (by rw [fU,gY];omega) (by decide)
        · have hi2:(i:Int) < ((bD l).length:Int):=by omega
          have a2:¬ l[i].k = 2:=by omega
          have a1:¬ l[i].k = 1:=by omega
          have hn:l[i].n.toNat <= R.length:=by omega
          have hP:x9 l[i] R = []:=by unfold x9;rw [if_neg a2,if_neg a1]
          have hstep:fQ l r0 = [] ++ fQ (l.drop (i + 1)) (R.drop l[i].n.toNat):=by rw [hap,hpa,hP];rfl
          repeat' (first | refine' Ev.zP | (with_reducible refine Ev.aK hi2 ?_) | (with_reducible refine Ev.aV a2 ?_) | (with_reducible refine Ev.aV a1 ?_) | refine' Ev.zS | refine' Ev.zK | refine' Ev.zT | fail)
          · refine Ev.zA (k - 1) ⟨i + 1,c + 8,[],R.drop l[i].n.toNat,nilA,[],rfl,?_⟩ (by refine' Ev.zp <;> first | (first | exact wrap_succ (by omega) | exact congrArg (AV.lst 1) hdr | rfl) | rfl | (refine' Ev.ze;(first | exact wrap_succ (by omega) | exact congrArg (AV.lst 1) hdr | rfl)) | fail)
            refine ⟨.inl ⟨rfl,rfl,rfl⟩,by omega,hstep,by rw [List.length_drop];omega,?_⟩
            simp only [List.length_append,List.length_nil,List.length_drop,List.length_take] at hsz ⊢;omega
      · rcases jJ hs with ⟨a,b,c',d⟩ | ⟨a | a,b,c',d⟩
        · have hi2:(i:Int) < ((bD l).length:Int):=by omega
          have hn:l[i].n.toNat <= R.length:=by omega
          have hP:x9 l[i] R = pts l[i].t.data.toList:=by unfold x9;rw [if_pos a]
          have hstep:fQ l r0 = (O ++ pts l[i].t.data.toList) ++ fQ (l.drop (i + 1)) (R.drop l[i].n.toNat):=by rw [hap,hpa,hP,List.append_assoc]
          have hrow:cZ (fE O) ++ jF l[i].t = cZ (fE (O ++ pts l[i].t.data.toList)):=by rw [hxa];simp [cZ,fE]
          have hlr:O.length + (jF l[i].t).length = (O ++ pts l[i].t.data.toList).length:=by rw [hxa,fU,gY];simp
          have hpl2:(pts l[i].t.data.toList).length <= l[i].t.size:=by exact hpx
          repeat' (first | refine' Ev.zP | (with_reducible refine Ev.aK hi2 ?_) | (with_reducible refine Ev.aK a ?_) | refine' Ev.zS | refine' Ev.zK | refine' Ev.zT | fail)
          · refine Ev.zA (k - 1) ⟨i + 1,c + 8 + 8,(O ++ pts l[i].t.data.toList),R.drop l[i].n.toNat,.own 8224 (c + 8) 0 (O ++ pts l[i].t.data.toList).length,[(8224,⟨1,21,c + 8,0,false,cZ (fE (O ++ pts l[i].t.data.toList))⟩)],rfl,?_⟩ (by refine' Ev.zp <;> first | (first | exact wrap_succ (by omega) | exact congrArg (AV.lst 1) hdr | exact hlr | (exact congrArg (fun n=>aG.mk 1 21 _ 0 false n) hrow) | rfl) | rfl | (refine' Ev.ze;(first | exact wrap_succ (by omega) | exact congrArg (AV.lst 1) hdr | exact hlr | (exact congrArg (fun n=>aG.mk 1 21 _ 0 false n) hrow) | rfl)) | fail)
            refine ⟨.inr (.inl ⟨_,rfl,rfl⟩),by omega,hstep,by rw [List.length_drop];omega,?_⟩
            simp only [List.length_append,List.length_nil,List.length_drop,List.length_take] at hsz ⊢;omega
          · rw [hxa];exact Ev.mW (by rw [hol]) (rP _) (by rw [fU,gY];omega) (by decide)
        · have hi2:(i:Int) < ((bD l).length:Int):=by omega
          have a2:¬ l[i].k = 2:=by omega
          have hn:l[i].n.toNat <= R.length:=by omega
          have hP:x9 l[i] R = R.take l[i].n.toNat:=by unfold x9;rw [if_neg a2,if_pos a]
          have hstep:fQ l r0 = (O ++ R.take l[i].n.toNat) ++ fQ (l.drop (i + 1)) (R.drop l[i].n.toNat):=by rw [hap,hpa,hP,List.append_assoc]
          have hrow:cZ (fE O) ++ List.take (l[i].n.toNat - 0) (List.drop 0 (cZ (fE R))) = cZ (fE (O ++ R.take l[i].n.toNat)):=by rw [Ko];simp [cZ,fE]
          have hlr:O.length + (List.take (l[i].n.toNat - 0) (List.drop 0 (cZ (fE R)))).length = (O ++ R.take l[i].n.toNat).length:=by rw [Ko,fU,gY];simp
          have hpl2:(R.take l[i].n.toNat).length <= R.length:=by rw [List.length_take];omega
          repeat' (first | refine' Ev.zP | (with_reducible refine Ev.aK hi2 ?_) | (with_reducible refine Ev.aV a2 ?_) | (with_reducible refine Ev.aK a ?_) | refine' Ev.zS | refine' Ev.zK | refine' Ev.zT | fail)
          · refine Ev.zA (k - 1) ⟨i + 1,c + 8 + 8,(O ++ R.take l[i].n.toNat),R.drop l[i].n.toNat,.own 8224 (c + 8) 0 (O ++ R.take l[i].n.toNat).length,[(8224,⟨1,21,c + 8,0,false,cZ (fE (O ++ R.take l[i].n.toNat))⟩)],rfl,?_⟩ (by refine' Ev.zp <;> first | (first | exact wrap_succ (by omega) | exact congrArg (AV.lst 1) hdr | exact hlr | (exact congrArg (fun n=>aG.mk 1 21 _ 0 false n) hrow) | rfl) | rfl | (refine' Ev.ze;(first | exact wrap_succ (by omega) | exact congrArg (AV.lst 1) hdr | exact hlr | (exact congrArg (fun n=>aG.mk 1 21 _ 0 false n) hrow) | rfl)) | fail)
            refine ⟨.inr (.inl ⟨_,rfl,rfl⟩),by omega,hstep,by rw [List.length_drop];omega,?_⟩
            simp only [List.length_append,List.length_nil,List.length_drop,List.length_take] at hsz ⊢;omega
          · rw [Ko];exact Ev.mW (by rw [hol]) (rP _) (by rw [fU,gY];omega) (by decide)
        · have hi2:(i:Int) < ((bD l).length:Int):=by omega
          have a2:¬ l[i].k = 2:=by omega
          have a1:¬ l[i].k = 1:=by omega
          have hn:l[i].n.toNat <= R.length:=by omega
          have hP:x9 l[i] R = []:=by unfold x9;rw [if_neg a2,if_neg a1]
          have hstep:fQ l r0 = O ++ fQ (l.drop (i + 1)) (R.drop l[i].n.toNat):=by rw [hap,hpa,hP];rfl
          repeat' (first | refine' Ev.zP | (with_reducible refine Ev.aK hi2 ?_) | (with_reducible refine Ev.aV a2 ?_) | (with_reducible refine Ev.aV a1 ?_) | refine' Ev.zS | refine' Ev.zK | refine' Ev.zT | fail)
          · refine Ev.zA (k - 1) ⟨i + 1,c + 8,O,R.drop l[i].n.toNat,.own 8224 v 0 O.length,[(8224,⟨1,21,v,0,false,cZ (fE O)⟩)],rfl,?_⟩ (by refine' Ev.zp <;> first | (first | exact wrap_succ (by omega) | exact congrArg (AV.lst 1) hdr | rfl) | rfl | (refine' Ev.ze;(first | exact wrap_succ (by omega) | exact congrArg (AV.lst 1) hdr | rfl)) | fail)
            refine ⟨.inr (.inl ⟨_,rfl,rfl⟩),by omega,hstep,by rw [List.length_drop];omega,?_⟩
            simp only [List.length_drop] at hsz ⊢;omega
      · rcases jJ hs with ⟨a,b,c',d⟩ | ⟨a | a,b,c',d⟩
        · have hi2:(i:Int) < ((bD l).length:Int):=by omega
          have hn:l[i].n.toNat <= R.length:=by omega
          have hP:x9 l[i] R = pts l[i].t.data.toList:=by unfold x9;rw [if_pos a]
          have hstep:fQ l r0 = (O ++ pts l[i].t.data.toList) ++ fQ (l.drop (i + 1)) (R.drop l[i].n.toNat):=by rw [hap,hpa,hP,List.append_assoc]
          have hrow:cZ (fE O) ++ jF l[i].t = cZ (fE (O ++ pts l[i].t.data.toList)):=by rw [hxa];simp [cZ,fE]
          have hlr:O.length + (jF l[i].t).length = (O ++ pts l[i].t.data.toList).length:=by rw [hxa,fU,gY];simp
          have hpl2:(pts l[i].t.data.toList).length <= l[i].t.size:=by exact hpx
          repeat' (first | refine' Ev.zP | (with_reducible refine Ev.aK hi2 ?_) | (with_reducible refine Ev.aK a ?_) | refine' Ev.zS | refine' Ev.zK | refine' Ev.zT | fail)
          · refine Ev.zA (k - 1) ⟨i + 1,c + 8 + 8,(O ++ pts l[i].t.data.toList),R.drop l[i].n.toNat,.own 9256 (c + 8) 0 (O ++ pts l[i].t.data.toList).length,[(9256,⟨1,21,c + 8,0,false,cZ (fE (O ++ pts l[i].t.data.toList))⟩)],rfl,?_⟩ (by refine' Ev.zp <;> first | (first | exact wrap_succ (by omega) | exact congrArg (AV.lst 1) hdr | exact hlr | (exact congrArg (fun n=>aG.mk 1 21 _ 0 false n) hrow) | rfl) | rfl | (refine' Ev.ze;(first | exact wrap_succ (by omega) | exact congrArg (AV.lst 1) hdr | exact hlr | (exact congrArg (fun n=>aG.mk 1 21 _ 0 false n) hrow) | rfl)) | fail)
            refine ⟨.inr (.inr ⟨_,rfl,rfl⟩),by omega,hstep,by rw [List.length_drop];omega,?_⟩
            simp only [List.length_append,List.length_nil,List.length_drop,List.length_take] at hsz ⊢;omega
          · rw [hxa];exact Ev.mW (by rw [hol]) (rP _) (by rw [fU,gY];omega) (by decide)
        · have hi2:(i:Int) < ((bD l).length:Int):=by omega
          have a2:¬ l[i].k = 2:=by omega
          have hn:l[i].n.toNat <= R.length:=by omega
          have hP:x9 l[i] R = R.take l[i].n.toNat:=by unfold x9;rw [if_neg a2,if_pos a]
          have hstep:fQ l r0 = (O ++ R.take l[i].n.toNat) ++ fQ (l.drop (i + 1)) (R.drop l[i].n.toNat):=by rw [hap,hpa,hP,List.append_assoc]
          have hrow:cZ (fE O) ++ List.take (l[i].n.toNat - 0) (List.drop 0 (cZ (fE R))) = cZ (fE (O ++ R.take l[i].n.toNat)):=by rw [Ko];simp [cZ,fE]
          have hlr:O.length + (List.take (l[i].n.toNat - 0) (List.drop 0 (cZ (fE R)))).length = (O ++ R.take l[i].n.toNat).length:=by rw [Ko,fU,gY];simp
          have hpl2:(R.take l[i].n.toNat).length <= R.length:=by rw [List.length_take];omega
          repeat' (first | refine' Ev.zP | (with_reducible refine Ev.aK hi2 ?_) | (with_reducible refine Ev.aV a2 ?_) | (with_reducible refine Ev.aK a ?_) | refine' Ev.zS | refine' Ev.zK | refine' Ev.zT | fail)
          · refine Ev.zA (k - 1) ⟨i + 1,c + 8 + 8,(O ++ R.take l[i].n.toNat),R.drop l[i].n.toNat,.own 9256 (c + 8) 0 (O ++ R.take l[i].n.toNat).length,[(9256,⟨1,21,c + 8,0,false,cZ (fE (O ++ R.take l[i].n.toNat))⟩)],rfl,?_⟩ (by refine' Ev.zp <;> first | (first | exact wrap_succ (by omega) | exact congrArg (AV.lst 1) hdr | exact hlr | (exact congrArg (fun n=>aG.mk 1 21 _ 0 false n) hrow) | rfl) | rfl | (refine' Ev.ze;(first | exact wrap_succ (by omega) | exact congrArg (AV.lst 1) hdr | exact hlr | (exact congrArg (fun n=>aG.mk 1 21 _ 0 false n) hrow) | rfl)) | fail)
            refine ⟨.inr (.inr ⟨_,rfl,rfl⟩),by omega,hstep,by rw [List.length_drop];omega,?_⟩
            simp only [List.length_append,List.length_nil,List.length_drop,List.length_take] at hsz ⊢;omega
          · rw [Ko];exact Ev.mW (by rw [hol]) (rP _) (by rw [fU,gY];omega) (by decide)
        · have hi2:(i:Int) < ((bD l).length:Int):=by omega
          have a2:¬ l[i].k = 2:=by omega
          have a1:¬ l[i].k = 1:=by omega
          have hn:l[i].n.toNat <= R.length:=by omega
          have hP:x9 l[i] R = []:=by unfold x9;rw [if_neg a2,if_neg a1]
          have hstep:fQ l r0 = O ++ fQ (l.drop (i + 1)) (R.drop l[i].n.toNat):=by rw [hap,hpa,hP];rfl
          repeat' (first | refine' Ev.zP | (with_reducible refine Ev.aK hi2 ?_) | (with_reducible refine Ev.aV a2 ?_) | (with_reducible refine Ev.aV a1 ?_) | refine' Ev.zS | refine' Ev.zK | refine' Ev.zT | fail)
          · refine Ev.zA (k - 1) ⟨i + 1,c + 8,O,R.drop l[i].n.toNat,.own 9256 v 0 O.length,[(9256,⟨1,21,v,0,false,cZ (fE O)⟩)],rfl,?_⟩ (by refine' Ev.zp <;> first | (first | exact wrap_succ (by omega) | exact congrArg (AV.lst 1) hdr | rfl) | rfl | (refine' Ev.ze;(first | exact wrap_succ (by omega) | exact congrArg (AV.lst 1) hdr | rfl)) | fail)
            refine ⟨.inr (.inr ⟨_,rfl,rfl⟩),by omega,hstep,by rw [List.length_drop];omega,?_⟩
            simp only [List.length_drop] at hsz ⊢;omega
    · have hi2:¬ (i:Int) < ((bD l).length:Int):=by omega
      have hdl:l.drop i = []:=List.drop_of_length_le (by omega)
      rw [hdl] at hap
      have hO:fQ l r0 = O:=by rw [hap];simp [fQ]
      rw [hO,<- lW]
      rcases hst with ⟨rfl,rfl,rfl⟩ | ⟨v,rfl,rfl⟩ | ⟨v,rfl,rfl⟩
      all_goals (repeat' (first | refine' Ev.zP | (with_reducible refine Ev.aV hi2 ?_) | refine' Ev.zS | refine' Ev.zK | ((refine Ev.GY [] rfl ?_);conv=>whnf) | refine' Ev.zT | fail))
      · exact ⟨rfl,rfl⟩
      all_goals
        refine ⟨?_,rfl⟩
        have e:List.take O.length (List.drop 0 (fE O)) = fE O:=by rw [List.drop_zero,List.take_of_length_le (by rw [gY];exact Nat.le_refl _)]
        show AV.dB [.v (.string (runesBytes (List.take O.length (List.drop 0 (fE O))))),_] = _
        rw [e]
  · have:mP l t = 5:=by unfold mP;rw [if_neg (by simp;assumption),if_neg (by assumption),if_pos (by assumption)]
    exact ⟨(qy this (by decide)).symm,rfl⟩
  · have h1:aH l ≠ 0:=by assumption
    have:mP l t = aH l:=by unfold mP;rw [if_pos h1]
    exact ⟨(qy this h1).symm,rfl⟩
theorem Yn:∀ c,Tryd.f46.body = some c -> comp c = (.seq (.reg 0 [I.n 0 1 (.box 27 (.tmp 0)),I.n 1 2 (I.si 0)]) (.seq (.reg 1 [I.n 0 6 (I.ld 27 1),I.n 1 7 (I.c1 95 6 27),I.n 2 5 (I.mv 7),I.n 3 8 (I.ex 5 0),I.n 4 9 (I.ex 5 1),I.n 5 3 (I.sa 8),I.n 6 4 (I.sa 9)]) (.seq (.reg 2 [I.n 0 10 (I.mv 4),I.n 1 2 (I.sa 10)]) .ret))):=by
 intro c h
 have:c = Tryd.f46.body.get rfl:=by rw [<- Option.some_inj,<- h];rfl
 rw [this];rfl
theorem ajy:∀ c,Tryd.f67.body = some c -> comp c = (.seq (.reg 0 [I.n 0 1 (.box 27 (.tmp 0)),I.n 1 2 I.sn,I.n 2 3 (I.si 0)]) (.seq (.reg 1 [I.n 0 4 (I.ld 27 1),I.n 1 5 (I.c1 95 4 27),I.n 2 6 (I.ex 5 0),I.n 3 7 (I.ex 5 1),I.n 4 2 (I.sa 6),I.n 5 3 (I.sa 7)]) .ret)):=by
 intro c h
 have:c = Tryd.f67.body.get rfl:=by rw [<- Option.some_inj,<- h];rfl
 rw [this];rfl
theorem ajz:∀ c,Tryd.f62.body = some c -> comp c = (.seq (.reg 0 [I.n 0 2 (.box 27 (.tmp 0)),I.n 1 4 (.assign (.const (Value.string { data:=#[] }))),I.n 2 5 (I.si 0)]) (.seq (.seq (.reg 1 [I.n 0 7 (I.ld 27 2),I.n 1 8 (I.c1 46 7 27),I.n 2 6 (I.sa 8)]) (.seq (.reg 2 [I.n 0 9 (I.mv 6),I.n 1 10 (I.bc .neq 30 9 0 30)]) (.cond (.tmp 10) (.seq (.reg 3 [I.n 0 11 (I.mv 6),I.n 1 4 (.assign (.const (Value.string { data:=#[] }))),I.n 2 5 (I.sa 11)]) .ret) .skip))) (.seq (.seq (.reg 4 [I.n 0 12 (I.mv 1),I.n 1 13 (I.bc .lss 3 12 0 3),I.n 2 14 (I.mv 13),I.w 3 15 (I.mv 1) 14 false,I.w 4 16 (I.fa 27 2 2) 14 false,I.w 5 17 (I.ld 22 16) 14 false,I.w 6 18 (I.ln 17 22) 14 false,I.w 7 19 (I.bo .gtr 3 15 18 3) 14 false,I.n 8 20 (I.pb 14 true 19)]) (.cond (.tmp 20) (.seq (.reg 5 [I.n 0 4 (.assign (.const (Value.string { data:=#[] }))),I.n 1 5 (I.si 6)]) .ret) .skip)) (.seq (.draw 6 [I.n 0 21 (I.fa 27 2 0),I.n 1 22 (I.ld 9 21),I.n 2 23 (I.fa 27 2 2),I.n 3 24 (I.ld 22 23),I.n 4 25 (I.mv 1),I.n 5 26 (.slice 22 (.tmp 24) none (some (.tmp 25)) none),I.n 6 27 (I.c2 57 22 26 9 22),I.n 7 28 (I.ex 27 0),I.n 8 29 (I.ex 27 1),I.n 9 4 (I.sa 28),I.n 10 5 (I.sa 29)] [[],[0],[],[2],[],[3,4],[1,5],[6],[6],[7,6,0,1,2,3,4,5,6,7,8],[8,9,0,1,2,3,4,5,6,7,8,9]]) .ret)))):=by
 intro c h
 have:c = Tryd.f62.body.get rfl:=by rw [<- Option.some_inj,<- h];rfl
 rw [this];rfl
theorem ajA:∀ c,Tryd.f23.body = some c -> comp c = (.seq (.reg 0 [I.n 0 4 (.alloc 27)]) (.seq (.reg 1 [I.n 0 8 (I.mv 0),I.n 1 9 (I.mv 0),I.n 2 10 (I.ln 9 9),I.n 3 11 (.call { callee:=.builtin .min,args:=#[.tmp 10,.const (Value.int .i64 20)],argTypes:=#[3,3] }),I.n 4 12 (.slice 9 (.tmp 8) none (some (.tmp 11)) none),I.n 5 13 (I.c1 37 12 9),I.n 6 14 (.buildSlice 25 1 #[(0,.const (Value.int .i64 0))]),I.n 7 15 (.build 27 #[(0,.tmp 13),(1,.tmp 14)]),I.n 8 5 (.alloc 27),I.u 9 (I.st 27 5 15)]) (.seq (.reg 2 [I.n 0 16 (I.mv 1),I.n 1 17 (I.fa 27 5 0),I.n 2 18 (I.ld 9 17),I.n 3 19 (I.c1 70 18 9),I.n 4 20 (I.c2 69 16 19 22 3),I.n 5 6 (I.sa 20)]) (.seq (.seq (.reg 3 [I.n 0 7 (I.si 0)]) (.block 0 (.loop (.seq (.seq (.reg 4 [I.n 0 21 (I.mv 7),I.n 1 22 (I.mv 6),I.n 2 23 (I.ln 22 22),I.n 3 24 (I.bo .lss 3 21 23 3)]) (.cond (.tmp 24) .skip (.exit 0))) (.seq (.block 1 (.seq (.reg 6 [I.n 0 27 (I.fa 27 5 1),I.n 1 28 (I.ld 25 27),I.n 2 29 (I.mv 7),I.n 3 30 (I.bc .add 3 29 1 3),I.n 4 31 (I.b1 25 30),I.n 5 32 (I.ap 28 31 25 25),I.n 6 33 (I.fa 27 5 1),I.u 7 (I.st 25 33 32)]) (.draw 7 [I.n 0 34 (I.fa 27 5 2),I.n 1 35 (I.ld 22 34),I.n 2 36 (I.mv 6),I.n 3 37 (I.mv 7),I.n 4 38 (I.ia 22 36 37),I.n 5 39 (I.ld 23 38),I.n 6 40 (I.c1 71 39 23),I.n 7 41 (I.b1 22 40),I.n 8 42 (I.ap 35 41 22 22),I.n 9 43 (I.fa 27 5 2),I.u 10 (I.st 22 43 42)] [[],[0],[],[],[2,3],[4],[5],[6],[1,7,6],[0,1,2,3,4,5,6,7,8],[9,8,8,0,1,2,3,4,5,6,7,8]]))) (.reg 5 [I.n 0 25 (I.mv 7),I.n 1 26 (I.bc .add 3 25 1 3),I.n 2 7 (I.sa 26)])))))) (.seq (.reg 8 [I.n 0 44 (I.ld 27 5),I.u 1 (I.st 27 4 44)]) .ret))))):=by
 intro c h
 have:c = Tryd.f23.body.get rfl:=by rw [<- Option.some_inj,<- h];rfl
 rw [this];rfl
def jK:List (List Sp) -> ByteArray -> Int × ByteArray
 | [],t=>(0,t)
 | x :: l,t=>if mP x t = 0 then jK l (rM x t) else (mP x t,⟨#[]⟩)
def Na (t:ByteArray) (l:List (List Sp)):Int × ByteArray:=if l = [] /\ validD t.data.toList = false then (3,⟨#[]⟩) else jK l t
def allA (t:ByteArray) (l:List (List Sp)):AV:=.dB [.v (.string (Na t l).2),.v (.int .i64 (Na t l).1)]
def gV (l:List (List Sp)):Nat:=(l.map dw).sum
theorem rQ (x:List Sp) (l:List (List Sp)):gV (x :: l) = dw x + gV l:=by simp [gV]
theorem wX (l:List (List Sp)):∀ i,gV (l.take i) <= gV l:=fun i=>by
 have:gV l = gV (l.take i) + gV (l.drop i):=by
   conv=>lhs;rw [<- List.take_append_drop i l]
   unfold gV;rw [List.map_append,List.sum_append]
 omega
theorem Yo {t:ByteArray} (h:validD t.data.toList = false):Na t [] = (3,⟨#[]⟩):=if_pos ⟨rfl,h⟩
theorem Kq {t:ByteArray} {l:List (List Sp)} (h:¬ (l = [] /\ validD t.data.toList = false)):Na t l = jK l t:=if_neg h
theorem Rj {l:List Sp} {t:ByteArray} (h:mP l t = 0):(rM l t).size <= t.size + dw l:=by
 obtain ⟨h1,h2,h3⟩:=o9 h
 have hT:rM l t = txt (fQ l (pts t.data.toList)):=if_pos h
 have hsz:=Cm l (pts t.data.toList) ((gG l).1 h1).1
 rw [(jv _ h2).1,bM] at hsz
 rw [hT,<- bM,fH];exact hsz
theorem aam{G:Prop}(h:G:=by
 have hne:¬ (l = [] /\ validD t.data.toList = false):=by
   rintro ⟨e1,e2⟩
   first
     | (rename_i hv;rw [e2] at hv;cases hv)
     | (subst e1;rename_i h0;exact h0 rfl)
 have hA:allA t l = .dB [.v (.string (jK l t).2),.v (.int .i64 (jK l t).1)]:=by unfold allA;rw [Kq hne]
 rw [hA]
 all_goals(rcases(⟨_⟩:PLift _)with⟨h⟩;exact h)):G:=h
theorem aax{G:Prop}(h:G:=by
 have e1:toA l[i] u = .dB [.v (.string ⟨#[]⟩),.v (.int .i64 (mP l[i] u))]:=qy rfl h0
 rw [e1] at hT
 have e2:jK l t = (mP l[i] u,⟨#[]⟩):=by rw [hg];simp only [jK];rw [if_neg h0]
 rw [e2]
 all_goals(rcases(⟨_⟩:PLift _)with⟨h⟩;exact h)):G:=h
theorem abh{G:Prop}(h:G:=by
 have hsz:=Rj h0
 have e1:toA l[i] u = .dB [.v (.string (rM l[i] u)),.v (.int .i64 0)]:=by unfold toA;rw [h0]
 rw [e1] at hT
 repeat' (first | refine' Ev.zP | (with_reducible refine Ev.aK hi2 ?_) | refine' Ev.zS | refine' Ev.zK | ((with_reducible refine Ev.ca0 ?_);(first | refine Ev.ca (hT) ?_);conv=>whnf) | refine' Ev.zT | fail)
 refine Ev.zA (k - 1) ⟨i + 1,?_,rM l[i] u,rfl,?_⟩
 refine ⟨by omega,?_,by omega⟩
 rw [hg];simp only [jK];rw [if_pos h0]):G:=h
theorem abz{G:Prop}(h:G:=by
 have hi2:¬ (i:Int) < ((aC l).length:Int):=by omega
 have hd:l.drop i = []:=List.drop_of_length_le (by omega)
 rw [hd] at hg
 have e2:jK l t = (0,u):=hg
 rw [e2]
 all_goals(rcases(⟨_⟩:PLift _)with⟨h⟩;exact h)):G:=h
theorem ab9{G:Prop}(h:G:=by
 have hi2:(i:Int) < ((aC l).length:Int):=by omega
 have hd:l.drop i = l[i] :: l.drop (i + 1):=List.drop_eq_getElem_cons hi
 rw [hd] at hg hu
 rw [rQ] at hu
 all_goals(rcases(⟨_⟩:PLift _)with⟨h⟩;exact h)):G:=h
theorem ach{G:Prop}(h:G:=by
 refine' aax
 repeat' (first | refine' Ev.zP | (with_reducible refine Ev.aK hi2 ?_) | (with_reducible refine Ev.aV h0 ?_) | (((with_reducible refine Ev.aP h0 ?_);conv=>whnf)) | refine' Ev.zS | refine' Ev.zK | ((with_reducible refine Ev.ca0 ?_);(first | refine Ev.ca (hT) ?_);conv=>whnf) | refine' Ev.zT | fail)
 exact ⟨rfl,rfl⟩):G:=h
theorem acz{G:Prop}(h:G:=by
 refine' aam
 refine Ev.loop (fun k s=>∃ (i c:Nat) (u:ByteArray),s = ⟨[(0,.v (.string u)),(4,.v (.string ⟨#[]⟩)),(5,.v (.int .i64 0)),(18,.lst 1 (aC l)),(19,.v (.int .i64 (aC l).length)),(20,.v (.int .i64 i))],[],c⟩ /\ k + i = l.length /\ jK l t = jK (l.drop i) u /\ u.size + gV (l.drop i) <= 1000000000) ?_ ?_
 all_goals(rcases(⟨_⟩:PLift _)with⟨h⟩;exact h)):G:=h
theorem ad5{G:Prop}(h:G:=by
 refine' abz
 repeat' (first | refine' Ev.zP | (with_reducible refine Ev.aV hi2 ?_) | refine' Ev.zS | refine' Ev.zK | refine' Ev.zT | fail)
 exact ⟨rfl,rfl⟩):G:=h
theorem aey{G:Prop}(h:G:=by
 have:l = []:=List.eq_nil_of_length_eq_zero (by omega)
 subst this
 refine ⟨?_,rfl⟩
 unfold allA;rw [Yo hv];rfl):G:=h
theorem afs{G:Prop}(h:G:=by
 refine Ev.zB ⟨l.length,0,?_,t,rfl,?_⟩
 exact ⟨by omega,rfl,by rw [List.drop_zero];exact hb⟩):G:=h
theorem agk{G:Prop}(h:G:=by (repeat' (first | refine' Ev.zS | refine' Ev.zK | ((with_reducible refine Ev.ca0 ?_);(first | refine Ev.ca (hpv) ?_);conv=>whnf) | refine' Ev.zT | fail));all_goals(rcases(⟨_⟩:PLift _)with⟨h⟩;exact h)):G:=h
theorem Nb (t:ByteArray) (l:List (List Sp)) (hl:l.length <= 100000000) (hx:∀ x ∈ l,x.length <= 100000000) (hb:t.size + gV l <= 1000000000):aA env 57 [.v (.string t),.lst 1 (aC l)] (fun r hs=>r = allA t l /\ hs = []):=by
 have hrl:=aW l
 have hpv:=vI t (by omega)
 refine Ev.fn [0,1,4,5,7,8,9,17,18,19,20,21,31] 0 [.tmp 4,.tmp 5] Tryd.func57 (ajx _ rfl) ?_
 refine' agk
 · refine' acz
   · refine' afs
   rintro k s1 ⟨i,c,u,rfl,hk,hg,hu⟩
   by_cases hi:i < l.length
   · refine' ab9
     have hT:=Ri l[i] u (hx _ (List.getElem_mem hi)) (by omega)
     by_cases h0:mP l[i] u = 0
     · refine' abh
     · refine' ach
   · refine' ad5
 · rename_i h0 hv
   refine' aey
 · refine' acz
   · refine' afs
   rintro k s1 ⟨i,c,u,rfl,hk,hg,hu⟩
   by_cases hi:i < l.length
   · refine' ab9
     have hT:=Ri l[i] u (hx _ (List.getElem_mem hi)) (by omega)
     by_cases h0:mP l[i] u = 0
     · refine' abh
     · refine' ach
   · refine' ad5
theorem adf{G:Prop}(h:G:=by (repeat' (first | refine' Ev.zS | refine' Ev.zK | ((with_reducible refine Ev.ca0 ?_);(first | refine Ev.ca (h) ?_);conv=>whnf) | refine' Ev.zT | fail));all_goals(rcases(⟨_⟩:PLift _)with⟨h⟩;exact h)):G:=h
theorem IJ (c:Lg) (hc:II c):aA env 46 [kT c] (fun r hs=>r = .v (.int .i64 (nP c)) /\ hs = []):=by
 have h:=FP c hc
 unfold szA at h
 by_cases h0:nP c = 0
 · rw [if_pos h0] at h
   refine Ev.fn [0,1,2,4] 0 [.tmp 2] Tryd.func46 (Yn _ rfl) ?_
   refine' adf
   exact ⟨by rw [h0];rfl,rfl⟩
 · rw [if_neg h0] at h
   refine Ev.fn [0,1,2,4] 0 [.tmp 2] Tryd.func46 (Yn _ rfl) ?_
   refine' adf
   exact ⟨rfl,rfl⟩
def jW (c:Lg):List Int:=if nP c = 0 then Az (aN c.base.data.toList) c.ah else []
theorem vS (c:Lg) (hc:II c):aA env 67 [kT c] (fun r hs=>r = .dB [.lst 1 (ints (jW c)),.v (.int .i64 (nP c))] /\ hs = []):=by
 have h:=(FP c hc).BJ (Y:=.dB [.lst 1 (ints (jW c)),.v (.int .i64 (nP c))]) (by
   unfold szA jW
   by_cases h0:nP c = 0
   · rw [if_pos h0,if_pos h0,h0];exact je.refl _
   · rw [if_neg h0,if_neg h0];exact je.SY (je.nil 1) (je.refl _))
 refine Ev.fn [0,1,2,3] 0 [.tmp 2,.tmp 3] Tryd.func67 (ajy _ rfl) ?_
 refine' adf
 exact ⟨rfl,rfl⟩
def atR (c:Lg) (i:Int):Int × ByteArray:=if nP c ≠ 0 then (nP c,⟨#[]⟩) else if i < 0 ∨ (c.ah.length:Int) < i then (6,⟨#[]⟩) else Na c.base (c.ah.take i.toNat)
def atA (c:Lg) (i:Int):AV:=.dB [.v (.string (atR c i).2),.v (.int .i64 (atR c i).1)]
theorem Rk {c:Lg} {i e:Int} (h:atR c i = (e,⟨#[]⟩)):atA c i = .dB [.v (.string ⟨#[]⟩),.v (.int .i64 e)]:=by unfold atA;rw [h]
theorem aa9{G:Prop}(h:G:=by
 have h0:nP c = 0:=by assumption
 exact ⟨(Rk (by unfold atR;rw [if_neg (by simp [h0]),if_pos (by omega)])).symm,rfl⟩):G:=h
theorem abq{G:Prop}(h:G:=by
 unfold allA at hA
 repeat' (first | refine' Ev.zP | refine' Ev.zS | refine' Ev.zK | ((with_reducible refine Ev.ca0 ?_);(first | refine Ev.ca (hm) ?_ | refine Ev.ca (hA ⟨by omega,by omega⟩) ?_);conv=>whnf) | ((with_reducible refine Ev.dG ?_);(first | refine Ev.dr 6 [] [0,1,2,3,4,5,6,7,8,9,10] ?_);intro Q hQ;(simp only [Ev.ak,Ev.au]);conv=>whnf) | refine' Ev.zT | fail)
 all_goals(rcases(⟨_⟩:PLift _)with⟨h⟩;exact h)):G:=h
theorem ads{G:Prop}(h:G:=by
 have h0:nP c = 0:=by assumption
 have:atR c i = Na c.base (c.ah.take i.toNat):=by unfold atR;rw [if_neg (by simp [h0]),if_neg (by omega)]
 unfold atA;rw [this];exact ⟨rfl,rfl⟩):G:=h
theorem afp{G:Prop}(h:G:=by
 have e:List.take (i.toNat - 0) (List.drop 0 (aC c.ah)) = aC (c.ah.take i.toNat):=by simp [aC,List.map_take]
 rw [e]
 have:=wX c.ah i.toNat
 all_goals(rcases(⟨_⟩:PLift _)with⟨h⟩;exact h)):G:=h
theorem af4{G:Prop}(h:G:=by
 have h0:¬ nP c = 0:=by assumption
 exact ⟨(Rk (by unfold atR;rw [if_pos h0])).symm,rfl⟩):G:=h
theorem adS (c:Lg) (i:Int) (hc:II c) (hb:c.base.size + gV c.ah <= 1000000000):aA env 62 [kT c,.v (.int .i64 i)] (fun r hs=>r = atA c i /\ hs = []):=by
 have hm:=IJ c hc
 obtain ⟨h1,h2,h3,h4⟩:=hc
 have hrl:=aW c.ah
 refine Ev.fn [0,1,2,4,5,6,10,20] 0 [.tmp 4,.tmp 5] Tryd.func62 (ajz _ rfl) ?_
 have hA:∀ hi:¬ i < 0 /\ ¬ (c.ah.length:Int) < i,aA env 57 [.v (.string c.base),.lst 1 (List.take (i.toNat - 0) (List.drop 0 (aC c.ah)))] (fun r hs=>r = allA c.base (c.ah.take i.toNat) /\ hs = []):=fun hi=>by
   refine' afp
   exact Nb _ _ (by rw [List.length_take];omega) (fun x hx=>(h4 x (List.mem_of_mem_take hx)).1) (by omega)
 refine' abq
 · refine' aa9
 · refine' aa9
 · refine' ads
 · refine' af4
def jX (t:ByteArray) (l:List (List Sp)):Lg :=
 let b:=lM (t.extract 0 (min t.size 20))
 let w:=Ve l (aN b.data.toList)
 ⟨b,(List.range (w.length + 1)).map fun (i:Nat)=>(i:Int),w.map norm⟩
theorem abt{G:Prop}(h:G:=by (repeat' (first | refine' Ev.zP | (with_reducible refine Ev.aK hi2 ?_) | refine' Ev.zS | refine' Ev.zK | ((with_reducible refine Ev.ca0 ?_);(first | refine Ev.ca (hO hi) ?_);conv=>whnf) | ((with_reducible refine Ev.dG ?_);(first | refine Ev.dr 7 [] [0,1,2,3,4,5,6,7,8,9,10] ?_);intro Q hQ;(simp only [Ev.ak,Ev.au]);conv=>whnf) | refine' Ev.zT | fail));all_goals(rcases(⟨_⟩:PLift _)with⟨h⟩;exact h)):G:=h
theorem ac8{G:Prop}(h:G:=by (repeat' (first | refine' Ev.zP | (with_reducible refine Ev.aV hi2 ?_) | refine' Ev.zS | refine' Ev.zK | ((with_reducible refine Ev.dG ?_);(first | refine Ev.dr 7 [] [0,1,2,3,4,5,6,7,8,9,10] ?_);intro Q hQ;(simp only [Ev.ak,Ev.au]);conv=>whnf) | refine' Ev.zT | fail));all_goals(rcases(⟨_⟩:PLift _)with⟨h⟩;exact h)):G:=h
theorem afq{G:Prop}(h:G:=by (have aqu:(t.extract 0 (min t.size 20)).size <= 20:=by rw [ByteArray.size_extract];omega);all_goals(rcases(⟨_⟩:PLift _)with⟨h⟩;exact h)):G:=h
theorem P5 (t:ByteArray) (l:List (List Sp)):aA env 23 [.v (.string t),.lst 1 (aC l)] (fun r hs=>je r (kT (jX t l)) /\ hs = []):=by
 have hrl:=aW l
 refine' afq
 have hx:(min (t.size:Int) 20).toNat = min t.size 20:=by omega
 have hF:aA env 37 [.v (.string (t.extract 0 (min (t.size:Int) 20).toNat))] (fun r hs=>r = .v (.string (lM (t.extract 0 (min t.size 20)))) /\ hs = []):=by rw [hx];exact LX _ (by omega)
 have hC:=jq (lM (t.extract 0 (min t.size 20))) (by have:=LY (t.extract 0 (min t.size 20)) (by omega);omega)
 have hcc:=BX (t.extract 0 (min t.size 20))
 have hW:=MS l (aN (lM (t.extract 0 (min t.size 20))).data.toList) (by omega)
 have hL:kT (jX t l) = .agg [.v (.string (lM (t.extract 0 (min t.size 20)))),.lst 1 (ints ((List.range ((Ve l (aN (lM (t.extract 0 (min t.size 20))).data.toList)).length + 1)).map fun (i:Nat)=>(i:Int))),.lst 1 (aC ((Ve l (aN (lM (t.extract 0 (min t.size 20))).data.toList)).map norm))]:=rfl
 rw [hL]
 have hcw:=J5 l (n:=aN (lM (t.extract 0 (min t.size 20))).data.toList) (by omega)
 have hN:∀ x ∈ Ve l (aN (lM (t.extract 0 (min t.size 20))).data.toList),x.length <= 13 /\ dw x <= 312:=by
   intro x hx
   obtain ⟨y,m,rfl,m1,m2⟩:=Ei hcw.1 x hx
   exact wW y (by omega)
 obtain ⟨_,h20⟩:=hcw
 generalize lM (t.extract 0 (min t.size 20)) = b at *
 generalize Ve l (aN b.data.toList) = W at *
 have hwl:=aW W
 refine Ev.fn [0,1,4,5,6,7,24] 0 [.cell 4 27] Tryd.func23 (ajA _ rfl) ?_
 repeat' (first | refine' Ev.zP | refine' Ev.zS | refine' Ev.zK | ((with_reducible refine Ev.ca0 ?_);(first | refine Ev.ca (hF) ?_ | refine Ev.ca (hC) ?_ | refine Ev.ca (hW) ?_);conv=>whnf) | ((with_reducible refine Ev.dG ?_);(first | refine Ev.dr 7 [] [0,1,2,3,4,5,6,7,8,9,10] ?_);intro Q hQ;(simp only [Ev.ak,Ev.au]);conv=>whnf) | refine' Ev.zT | fail)
 have hrg:∀ i:Nat,((List.range (i + 1)).map fun (i:Nat)=>(i:Int)) = ((List.range i).map fun (i:Nat)=>(i:Int)) ++ [(i:Int)]:=fun i=>by rw [List.range_succ,List.map_append];rfl
 refine Ev.loop (fun k s=>∃ (i c v w:Nat) (sg:AV) (hx:List (Nat × aG)),s = ⟨[(4,.ptr 0 0 0 0),(5,.ptr 576 w 0 0),(6,.lst 1 (aC W)),(7,.v (.int .i64 i))],
     (576,⟨3,27,w,0,true,[[.v (.string b),.own 560 v 0 (i + 1),sg]]⟩) :: (560,⟨1,3,v,0,false,ints ((List.range (i + 1)).map fun (i:Nat)=>(i:Int))⟩) :: (0,⟨3,27,0,0,true,[[.v (.string ⟨#[]⟩),nilA,nilA]]⟩) :: hx,c⟩ /\
     ((i = 0 /\ sg = nilA /\ hx = []) ∨ (0 < i /\ ∃ u,sg = .own 3648 u 0 i /\ hx = [(3648,⟨1,23,u,0,false,aC ((W.take i).map norm)⟩)])) /\ k + i = W.length) ?_ ?_
 · refine Ev.zB ⟨W.length,0,?_,?_,?_,nilA,[],rfl,?_⟩
   exact ⟨.inl ⟨rfl,rfl,rfl⟩,by omega⟩
 rintro k s1 ⟨i,c,v,w,sg,hx,rfl,hsg,hk⟩
 have hlr:=bP ((List.range (i + 1)).map fun (i:Nat)=>(i:Int))
 rw [List.length_map,List.length_range] at hlr
 have hO:∀ (hi:i < W.length),aA env 71 [.lst 3 (bD W[i])] (fun r hs=>r = .lst 3 (bD (norm W[i])) /\ hs = []):=fun hi=>by
   have:=hN _ (List.getElem_mem hi);exact rF _ (by omega) (by omega)
 by_cases hi:i < W.length
 · have hi2:(i:Int) < ((aC W).length:Int):=by omega
   rcases hsg with ⟨rfl,rfl,rfl⟩ | ⟨h0,u,rfl,rfl⟩
   · refine' abt
     have hw1:IntKind.i64.wrap (((0:Nat):Int) + 1) = ((0 + 1:Nat):Int):=by rw [aU (by omega)];rfl
     have hr1:ints ((List.range (0 + 1)).map fun (i:Nat)=>(i:Int)) ++ List.take 1 (List.drop 0 [[AV.v (.int .i64 (IntKind.i64.wrap (((0:Nat):Int) + 1)))]]) = ints ((List.range (0 + 1 + 1)).map fun (i:Nat)=>(i:Int)):=by rw [hrg (0 + 1),AA,hw1];rfl
     have hr2:List.take 1 (List.drop 0 [[AV.lst 3 (bD (norm W[0]))]]) = aC ((W.take (0 + 1)).map norm):=by rw [List.take_succ_eq_append_getElem hi];rfl
     refine Ev.zA (k - 1) ⟨0 + 1,?_,c + 8,w,.own 3648 (c + 8 + 8 + 8) 0 (0 + 1),[(3648,⟨1,23,c + 8 + 8 + 8,0,false,aC ((W.take (0 + 1)).map norm)⟩)],rfl,?_⟩ (by refine' Ev.zp <;> first | (first | exact wrap_succ (by omega) | exact congrArg (fun n=>aG.mk 1 3 _ 0 false n) hr1 | exact congrArg (fun n=>aG.mk 1 23 _ 0 false n) hr2 | rfl) | rfl | (refine' Ev.ze;(first | exact wrap_succ (by omega) | exact congrArg (fun n=>aG.mk 1 3 _ 0 false n) hr1 | exact congrArg (fun n=>aG.mk 1 23 _ 0 false n) hr2 | rfl)) | fail)
     exact ⟨.inr ⟨by omega,_,rfl,rfl⟩,by omega⟩
   · have hml:=aW ((W.take i).map norm)
     rw [List.length_map,List.length_take] at hml
     refine' abt
     have hw1:IntKind.i64.wrap ((i:Int) + 1) = ((i + 1:Nat):Int):=by rw [aU (by omega)];simp
     have hr1:ints ((List.range (i + 1)).map fun (i:Nat)=>(i:Int)) ++ List.take 1 (List.drop 0 [[AV.v (.int .i64 (IntKind.i64.wrap ((i:Int) + 1)))]]) = ints ((List.range (i + 1 + 1)).map fun (i:Nat)=>(i:Int)):=by rw [hrg (i + 1),AA,hw1];rfl
     have hr2:aC ((W.take i).map norm) ++ List.take 1 (List.drop 0 [[AV.lst 3 (bD (norm W[i]))]]) = aC ((W.take (i + 1)).map norm):=by rw [List.take_succ_eq_append_getElem hi,List.map_append,lV];rfl
     refine Ev.zA (k - 1) ⟨i + 1,?_,c + 8,w,.own 3648 (c + 8 + 8 + 8) 0 (i + 1),[(3648,⟨1,23,c + 8 + 8 + 8,0,false,aC ((W.take (i + 1)).map norm)⟩)],rfl,?_⟩ (by refine' Ev.zp <;> first | (first | exact wrap_succ (by omega) | exact congrArg (fun n=>aG.mk 1 3 _ 0 false n) hr1 | exact congrArg (fun n=>aG.mk 1 23 _ 0 false n) hr2 | rfl) | rfl | (refine' Ev.ze;(first | exact wrap_succ (by omega) | exact congrArg (fun n=>aG.mk 1 3 _ 0 false n) hr1 | exact congrArg (fun n=>aG.mk 1 23 _ 0 false n) hr2 | rfl)) | fail)
     exact ⟨.inr ⟨by omega,_,rfl,rfl⟩,by omega⟩
 · have hi2:¬ (i:Int) < ((aC W).length:Int):=by omega
   rcases hsg with ⟨rfl,rfl,rfl⟩ | ⟨h0,u,rfl,rfl⟩
   · refine' ac8
     have:W = []:=List.eq_nil_of_length_eq_zero (by omega)
     subst this
     refine ⟨je.JC (je.refl _) (je.refl _) (je.nil 1),rfl⟩
   · refine' ac8
     have hiW:i = W.length:=by omega
     subst hiW
     have e1:List.take (W.length + 1) (List.drop 0 (ints ((List.range (W.length + 1)).map fun (i:Nat)=>(i:Int)))) = ints ((List.range (W.length + 1)).map fun (i:Nat)=>(i:Int)):=by rw [List.drop_zero,List.take_of_length_le (by omega)]
     have e2:List.take W.length (List.drop 0 (aC ((W.take W.length).map norm))) = aC (W.map norm):=by rw [List.drop_zero,List.take_length,List.take_of_length_le (by simp)]
     refine ⟨?_,rfl⟩
     show je (AV.agg [_,.lst 1 (List.take (W.length + 1) (List.drop 0 (ints _))),.lst 1 (List.take W.length (List.drop 0 (aC _)))]) _
     rw [e1,e2];exact je.refl _
theorem pq (t:ByteArray) (l:List (List Sp)):aA env 23 [.v (.string t),.lst 1 (aC l)] (fun r hs=>r = kT (jX t l) /\ hs = []) :=
 (P5 t l).res (fun r hs h=>⟨_,⟨rfl,h.2⟩,h.1⟩)
end Go.Proofs.YtadlnaljicikfaaDoor.aB
namespace Go.Proofs.YtadlnaljicikfaaDoor.aB
open Go
inductive Mk where
 | put (c:Nat)
 | keep
 | drop
def bV:List Mk -> Nat
 | []=>0
 | .put _ :: l=>bV l
 | .keep :: l=>bV l + 1
 | .drop :: l=>bV l + 1
def bg:List Mk -> Nat
 | []=>0
 | .put _ :: l=>bg l + 1
 | .keep :: l=>bg l + 1
 | .drop :: l=>bg l
def pz (w:Nat -> Nat):List Mk -> Nat
 | []=>0
 | .put c :: l=>pz w l + w c
 | .keep :: l=>pz w l
 | .drop :: l=>pz w l
theorem eY:∀ (a b:List Mk),bV (a ++ b) = bV a + bV b
 | [],b=>by simp [bV]
 | .put c :: a,b=>by rw [List.cons_append];simp only [bV];exact eY a b
 | .keep :: a,b=>by rw [List.cons_append];simp only [bV];rw [eY a b];omega
 | .drop :: a,b=>by rw [List.cons_append];simp only [bV];rw [eY a b];omega
theorem gW:∀ (a b:List Mk),bg (a ++ b) = bg a + bg b
 | [],b=>by simp [bg]
 | .put c :: a,b=>by rw [List.cons_append];simp only [bg];rw [gW a b];omega
 | .keep :: a,b=>by rw [List.cons_append];simp only [bg];rw [gW a b];omega
 | .drop :: a,b=>by rw [List.cons_append];simp only [bg];exact gW a b
def fC (k:Bool) (f:List Mk -> List Mk):List Mk -> List Mk
 | .drop :: x=>.drop :: fC k f x
 | .put c :: x=>if k then .put c :: f x else f x
 | .keep :: x=>(if k then .keep else .drop) :: f x
 | []=>[]
def dD:List Mk -> List Mk -> List Mk
 | [],x=>x
 | .put c :: y,x=>.put c :: dD y x
 | .keep :: y,x=>fC true (dD y) x
 | .drop :: y,x=>fC false (dD y) x
def jg (k:Bool) (f:List Mk -> List Mk):List Mk -> List Mk
 | .put c :: a=>.put c :: jg k f a
 | .keep :: a=>if k then .keep :: f a else f a
 | .drop :: a=>if k then .drop :: f a else f a
 | []=>[]
def fP:List Mk -> List Mk -> List Mk
 | [],a=>a
 | .put _ :: s,a=>.keep :: fP s a
 | .keep :: s,a=>jg true (fP s) a
 | .drop :: s,a=>jg false (fP s) a
def lD:List Mk -> List Nat -> List Nat
 | [],r=>r
 | .put c :: l,r=>c :: lD l r
 | .keep :: l,p :: r=>p :: lD l r
 | .drop :: l,_ :: r=>lD l r
 | .keep :: _,[]=>[]
 | .drop :: _,[]=>[]
theorem kP (w:Nat -> Nat):∀ (y x:List Mk),bg x = bV y -> bV (dD y x) = bV x /\ bg (dD y x) = bg y /\ pz w (dD y x) <= pz w x + pz w y
 | [],x,h=>⟨rfl,h,by simp only [dD,pz];omega⟩
 | .put c :: y,x,h=>by
   have:=kP w y x h
   simp only [dD,bV,bg,pz];omega
 | .keep :: y,x,h=>by
   simp only [dD]
   induction x with
   | nil=>simp [bg,bV] at h
   | cons a x ih =>
     cases a with
     | drop=>have:=ih h;simp only [fC,bV,bg,pz] at this ⊢;omega
     | put c=>have:=kP w y x (by simp only [bg,bV] at h;omega);simp only [fC,if_true,bV,bg,pz];omega
     | keep=>have:=kP w y x (by simp only [bg,bV] at h;omega);simp only [fC,if_true,bV,bg,pz];omega
 | .drop :: y,x,h=>by
   simp only [dD]
   induction x with
   | nil=>simp [bg,bV] at h
   | cons a x ih =>
     cases a with
     | drop=>have:=ih h;simp only [fC,bV,bg,pz] at this ⊢;omega
     | put c=>have:=kP w y x (by simp only [bg,bV] at h;omega);simp only [fC,Bool.false_eq_true,if_false,bV,bg,pz];omega
     | keep=>have:=kP w y x (by simp only [bg,bV] at h;omega);simp only [fC,Bool.false_eq_true,if_false,bV,bg,pz];omega
theorem jw:∀ (z y x:List Mk),bg x = bV y -> bg y = bV z -> dD z (dD y x) = dD (dD z y) x
 | [],y,x,h1,h2=>rfl
 | .put c :: z,y,x,h1,h2=>by simp only [dD];rw [jw z y x h1 h2]
 | .keep :: z,y,x,h1,h2=>by
   simp only [dD]
   induction y generalizing x with
   | nil=>simp [bg,bV] at h2
   | cons b y ihy =>
     cases b with
     | put c=>simp only [dD,fC,if_true];rw [jw z y x h1 (by simp only [bg,bV] at h2;omega)]
     | drop =>
       simp only [dD,fC]
       induction x with
       | nil=>simp [bg,bV] at h1
       | cons a x ihx =>
         cases a with
         | drop=>simp only [fC];rw [ihx h1]
         | put c=>simp only [fC,Bool.false_eq_true,if_false];exact ihy x (by simp only [bg,bV] at h1;omega) h2
         | keep=>simp only [fC,Bool.false_eq_true,if_false];rw [ihy x (by simp only [bg,bV] at h1;omega) h2]
     | keep =>
       simp only [dD,fC,if_true]
       induction x with
       | nil=>simp [bg,bV] at h1
       | cons a x ihx =>
         cases a with
         | drop=>simp only [fC];rw [ihx h1]
         | put c=>simp only [fC,if_true];rw [jw z y x (by simp only [bg,bV] at h1;omega) (by simp only [bg,bV] at h2;omega)]
         | keep=>simp only [fC,if_true];rw [jw z y x (by simp only [bg,bV] at h1;omega) (by simp only [bg,bV] at h2;omega)]
 | .drop :: z,y,x,h1,h2=>by
   simp only [dD]
   induction y generalizing x with
   | nil=>simp [bg,bV] at h2
   | cons b y ihy =>
     cases b with
     | put c=>simp only [dD,fC,Bool.false_eq_true,if_false];exact jw z y x h1 (by simp only [bg,bV] at h2;omega)
     | drop =>
       simp only [dD,fC]
       induction x with
       | nil=>simp [bg,bV] at h1
       | cons a x ihx =>
         cases a with
         | drop=>simp only [fC];rw [ihx h1]
         | put c=>simp only [fC,Bool.false_eq_true,if_false];exact ihy x (by simp only [bg,bV] at h1;omega) h2
         | keep=>simp only [fC,Bool.false_eq_true,if_false];rw [ihy x (by simp only [bg,bV] at h1;omega) h2]
     | keep =>
       simp only [dD,fC,Bool.false_eq_true,if_false]
       induction x with
       | nil=>simp [bg,bV] at h1
       | cons a x ihx =>
         cases a with
         | drop=>simp only [fC];rw [ihx h1]
         | put c=>simp only [fC,if_true,Bool.false_eq_true,if_false];exact jw z y x (by simp only [bg,bV] at h1;omega) (by simp only [bg,bV] at h2;omega)
         | keep=>simp only [fC,if_true,Bool.false_eq_true,if_false];rw [jw z y x (by simp only [bg,bV] at h1;omega) (by simp only [bg,bV] at h2;omega)]
theorem lX (w:Nat -> Nat):∀ (s a:List Mk),bV a = bV s -> bV (fP s a) = bg s /\ pz w (fP s a) = pz w a /\ bg (fP s a) + bV a <= bg a + bg s + bV a
 | [],a,h=>⟨h,rfl,by simp only [fP,bg];omega⟩
 | .put c :: s,a,h=>by
   have:=lX w s a h
   simp only [fP,bV,bg,pz];omega
 | .keep :: s,a,h=>by
   simp only [fP]
   induction a with
   | nil=>simp [bV] at h
   | cons b a ih =>
     cases b with
     | put c=>have:=ih h;simp only [jg,bV,bg,pz] at this ⊢;omega
     | keep=>have:=lX w s a (by simp only [bV] at h;omega);simp only [jg,if_true,bV,bg,pz];omega
     | drop=>have:=lX w s a (by simp only [bV] at h;omega);simp only [jg,if_true,bV,bg,pz];omega
 | .drop :: s,a,h=>by
   simp only [fP]
   induction a with
   | nil=>simp [bV] at h
   | cons b a ih =>
     cases b with
     | put c=>have:=ih h;simp only [jg,bV,bg,pz] at this ⊢;omega
     | keep=>have:=lX w s a (by simp only [bV] at h;omega);simp only [jg,Bool.false_eq_true,if_false,bV,bg,pz];omega
     | drop=>have:=lX w s a (by simp only [bV] at h;omega);simp only [jg,Bool.false_eq_true,if_false,bV,bg,pz];omega
theorem mQ:∀ (t s a:List Mk),bg s = bV t -> bV a = bV s -> fP (dD t s) a = fP t (fP s a)
 | [],s,a,h1,h2=>rfl
 | .put c :: t,s,a,h1,h2=>by simp only [dD,fP];rw [mQ t s a h1 h2]
 | .keep :: t,s,a,h1,h2=>by
   simp only [dD]
   induction s generalizing a with
   | nil=>simp [bg,bV] at h1
   | cons b s ihs =>
     cases b with
     | put c=>simp only [fC,if_true,fP,jg];rw [mQ t s a (by simp only [bg,bV] at h1;omega) h2]
     | drop =>
       simp only [fC,fP]
       induction a with
       | nil=>simp [bV] at h2
       | cons q a iha =>
         cases q with
         | put c=>simp only [jg];rw [iha h2]
         | keep=>simp only [jg,Bool.false_eq_true,if_false];exact ihs a h1 (by simp only [bV] at h2;omega)
         | drop=>simp only [jg,Bool.false_eq_true,if_false];exact ihs a h1 (by simp only [bV] at h2;omega)
     | keep =>
       simp only [fC,if_true,fP]
       induction a with
       | nil=>simp [bV] at h2
       | cons q a iha =>
         cases q with
         | put c=>simp only [jg];rw [iha h2]
         | keep=>simp only [jg,if_true];rw [mQ t s a (by simp only [bg,bV] at h1;omega) (by simp only [bV] at h2;omega)]
         | drop=>simp only [jg,if_true];rw [mQ t s a (by simp only [bg,bV] at h1;omega) (by simp only [bV] at h2;omega)]
 | .drop :: t,s,a,h1,h2=>by
   simp only [dD]
   induction s generalizing a with
   | nil=>simp [bg,bV] at h1
   | cons b s ihs =>
     cases b with
     | put c=>simp only [fC,Bool.false_eq_true,if_false,fP,jg];exact mQ t s a (by simp only [bg,bV] at h1;omega) h2
     | drop =>
       simp only [fC,fP]
       induction a with
       | nil=>simp [bV] at h2
       | cons q a iha =>
         cases q with
         | put c=>simp only [jg];rw [iha h2]
         | keep=>simp only [jg,Bool.false_eq_true,if_false];exact ihs a h1 (by simp only [bV] at h2;omega)
         | drop=>simp only [jg,Bool.false_eq_true,if_false];exact ihs a h1 (by simp only [bV] at h2;omega)
     | keep =>
       simp only [fC,Bool.false_eq_true,if_false,fP]
       induction a with
       | nil=>simp [bV] at h2
       | cons q a iha =>
         cases q with
         | put c=>simp only [jg];rw [iha h2]
         | keep=>simp only [jg,Bool.false_eq_true,if_false,if_true];exact mQ t s a (by simp only [bg,bV] at h1;omega) (by simp only [bV] at h2;omega)
         | drop=>simp only [jg,Bool.false_eq_true,if_false,if_true];exact mQ t s a (by simp only [bg,bV] at h1;omega) (by simp only [bV] at h2;omega)
theorem rU:∀ (y x:List Mk) (r:List Nat),bV x = r.length -> bg x = bV y -> lD (dD y x) r = lD y (lD x r)
 | [],x,r,h1,h2=>rfl
 | .put c :: y,x,r,h1,h2=>by simp only [dD,lD];rw [rU y x r h1 h2]
 | .keep :: y,x,r,h1,h2=>by
   simp only [dD]
   induction x generalizing r with
   | nil=>simp [bg,bV] at h2
   | cons a x ih =>
     cases a with
     | put c=>simp only [fC,if_true,lD];rw [rU y x r h1 (by simp only [bg,bV] at h2;omega)]
     | drop=>cases r with
       | nil=>simp [bV] at h1
       | cons p r=>simp only [fC,lD];exact ih r (by simpa [bV] using h1) h2
     | keep=>cases r with
       | nil=>simp [bV] at h1
       | cons p r=>simp only [fC,if_true,lD];rw [rU y x r (by simpa [bV] using h1) (by simp only [bg,bV] at h2;omega)]
 | .drop :: y,x,r,h1,h2=>by
   simp only [dD]
   induction x generalizing r with
   | nil=>simp [bg,bV] at h2
   | cons a x ih =>
     cases a with
     | put c=>simp only [fC,Bool.false_eq_true,if_false,lD];exact rU y x r h1 (by simp only [bg,bV] at h2;omega)
     | drop=>cases r with
       | nil=>simp [bV] at h1
       | cons p r=>simp only [fC,lD];exact ih r (by simpa [bV] using h1) h2
     | keep=>cases r with
       | nil=>simp [bV] at h1
       | cons p r=>simp only [fC,Bool.false_eq_true,if_false,lD];exact rU y x r (by simpa [bV] using h1) (by simp only [bg,bV] at h2;omega)
def dQ (n:Nat):List Mk:=List.replicate n .keep
theorem rV:∀ n,bV (dQ n) = n
 | 0=>rfl
 | n + 1=>by simp only [dQ,List.replicate_succ,bV];rw [<- dQ,rV n]
theorem kQ:∀ n,bg (dQ n) = n
 | 0=>rfl
 | n + 1=>by simp only [dQ,List.replicate_succ,bg];rw [<- dQ,kQ n]
theorem lY:∀ (y:List Mk),dD y (dQ (bV y)) = y
 | []=>rfl
 | .put c :: y=>by simp only [dD,bV];rw [lY y]
 | .keep :: y=>by simp only [dD,bV,dQ,List.replicate_succ,fC,if_true];rw [<- dQ,lY y]
 | .drop :: y=>by simp only [dD,bV,dQ,List.replicate_succ,fC,Bool.false_eq_true,if_false];rw [<- dQ,lY y]
theorem Vg:∀ (x:List Mk),dD (dQ (bg x)) x = x:=by
 intro x
 induction x with
 | nil=>rfl
 | cons a x ih =>
   cases a with
   | put c=>simp only [bg,dQ,List.replicate_succ,dD,fC,if_true];rw [<- dQ,ih]
   | keep=>simp only [bg,dQ,List.replicate_succ,dD,fC,if_true];rw [<- dQ,ih]
   | drop =>
     simp only [bg]
     cases hn:bg x with
     | zero=>rw [hn] at ih;rfl
     | succ n=>rw [hn] at ih;simp only [dQ,List.replicate_succ,dD,fC] at ih ⊢;rw [ih]
theorem Vh:∀ (a:List Mk),fP (dQ (bV a)) a = a:=by
 intro a
 induction a with
 | nil=>rfl
 | cons b a ih =>
   cases b with
   | put c =>
     simp only [bV]
     cases hn:bV a with
     | zero=>rw [hn] at ih;rfl
     | succ n=>rw [hn] at ih;simp only [dQ,List.replicate_succ,fP,jg] at ih ⊢;rw [ih]
   | keep=>simp only [bV,dQ,List.replicate_succ,fP,jg,if_true];rw [<- dQ,ih]
   | drop=>simp only [bV,dQ,List.replicate_succ,fP,jg,if_true];rw [<- dQ,ih]
theorem IK:∀ (r:List Nat),lD (dQ r.length) r = r
 | []=>rfl
 | p :: r=>by simp only [List.length_cons,dQ,List.replicate_succ,lD];rw [<- dQ,IK r]
end Go.Proofs.YtadlnaljicikfaaDoor.aB
namespace Go.Proofs.YtadlnaljicikfaaDoor.aB
open Go Go.Lib
def nS (s:Sp):List Mk:=if s.k = 2 then (pts s.t.data.toList).map Mk.put else if s.k = 1 then List.replicate s.n.toNat Mk.keep else List.replicate s.n.toNat Mk.drop
def dO (l:List Sp):List Mk:=l.flatMap nS
theorem iH:dO [] = []:=rfl
theorem aS (s:Sp) (l:List Sp):dO (s :: l) = nS s ++ dO l:=rfl
theorem adT (s:Sp):dO [s] = nS s:=by simp [dO]
abbrev bJ (l:List Sp):Prop:=∀ s ∈ l,cu s
theorem bJ.tail {s:Sp} {l:List Sp} (h:bJ (s :: l)):bJ l:=fun x hx=>h x (by simp [hx])
theorem bJ.head {s:Sp} {l:List Sp} (h:bJ (s :: l)):cu s:=h s (by simp)
theorem bJ.cons {s:Sp} {l:List Sp} (h:cu s) (h':bJ l):bJ (s :: l):=fun x hx=>by
 rcases List.mem_cons.1 hx with rfl | hx
 · exact h
 · exact h' x hx
theorem bJ.app {a b:List Sp} (h:bJ a) (h':bJ b):bJ (a ++ b):=fun x hx=>by
 rcases List.mem_append.1 hx with hx | hx
 · exact h x hx
 · exact h' x hx
theorem bJ.nil:bJ []:=fun x hx=>by simp at hx
theorem jy (n:Nat):bV (List.replicate n Mk.keep) = n /\ bg (List.replicate n Mk.keep) = n:=⟨rV n,kQ n⟩
theorem lq:∀ n:Nat,bV (List.replicate n Mk.drop) = n /\ bg (List.replicate n Mk.drop) = 0
 | 0=>⟨rfl,rfl⟩
 | n + 1=>by have:=lq n;simp only [List.replicate_succ,bV,bg];omega
theorem qA:∀ l:List Nat,bV (l.map Mk.put) = 0 /\ bg (l.map Mk.put) = l.length
 | []=>⟨rfl,rfl⟩
 | c :: l=>by have:=qA l;simp only [List.map_cons,bV,bg,List.length_cons];omega
theorem dN {s:Sp} (h:s.k = 2):nS s = (pts s.t.data.toList).map Mk.put:=if_pos h
theorem dZ {s:Sp} (h:s.k = 1):nS s = List.replicate s.n.toNat Mk.keep:=by unfold nS;rw [if_neg (by omega),if_pos h]
theorem dR {s:Sp} (h:s.k = 3):nS s = List.replicate s.n.toNat Mk.drop:=by unfold nS;rw [if_neg (by omega),if_neg (by omega)]
theorem ae6{G:Prop}(h:G:=by (rcases h.cases with ⟨a | a,b,c,d⟩ | ⟨a,b,c⟩);all_goals(rcases(⟨_⟩:PLift _)with⟨h⟩;exact h)):G:=h
theorem jY {s:Sp} (h:cu s):(bV (nS s):Int) = dV s /\ (bg (nS s):Int) = dK s:=by
 refine' ae6
 · rw [dZ a];have:=jy s.n.toNat
   unfold dV dK qo kW;rw [if_pos (.inl a),if_pos a];omega
 · rw [dR a];have:=lq s.n.toNat
   unfold dV dK qo kW;rw [if_pos (.inr a),if_neg (by omega),if_neg (by omega)];omega
 · rw [dN a];have:=qA (pts s.t.data.toList)
   unfold dV dK qo kW;rw [if_neg (by omega),if_neg (by omega),if_pos a,bU c];omega
theorem bI:∀ {l:List Sp},bJ l -> (bV (dO l):Int) = bC dV l /\ (bg (dO l):Int) = bC dK l
 | [],_=>⟨rfl,rfl⟩
 | s :: l,h=>by
   have h1:=jY h.head
   have h2:=bI h.tail
   rw [aS,eY,gW,bZ,bZ];omega
theorem adU {a b:Sp} (ha:cu a) (hb:cu b) (hk:b.k = a.k) (hs:dV a + dV b <= 1048576):nS (mrg a b) = nS a ++ nS b:=by
 obtain ⟨m1,m2,m3,m4,m5⟩:=JM ha hb hk hs
 have ek:(mrg a b).k = a.k:=rfl
 rcases ha.cases with ⟨a1 | a1,a2,a3,a4⟩ | ⟨a1,a2,a3⟩
 · have:=hb.cases
   rw [dZ (ek.trans a1),dZ a1,dZ (hk.trans a1),m5,List.replicate_append_replicate]
   congr 1;omega
 · have:=hb.cases
   rw [dR (ek.trans a1),dR a1,dR (hk.trans a1),m5,List.replicate_append_replicate]
   congr 1;omega
 · rw [dN (ek.trans a1),dN a1,dN (hk.trans a1),<- List.map_append]
   congr 1
   show pts (a.t ++ b.t).data.toList = _
   rw [wP,QD _ a3]
theorem CG {s:Sp} (h:emptyS s = true):nS s = []:=by
 obtain ⟨h1,h2⟩:=nO.1 h
 unfold nS;rw [h1,h2]
 split
 · rfl
 · split <;> rfl
theorem wY:∀ (l:List Sp) (cur:Sp),cu cur -> bJ l -> dV cur + bC dV l <= 1048576 -> dO (fK cur l) = nS cur ++ dO l
 | [],cur,_,_,_=>by simp [fK,dO]
 | s :: l,cur,hc,hl,hs=>by
   have h1:=hl.head
   have h3:0 <= bC dV l:=(kH dV 1048576 l (fun x hx=>(hl.tail x hx).dV)).1
   have h4:=h1.dV;have h5:=hc.dV
   rw [bZ] at hs
   simp only [fK]
   by_cases he:emptyS s = true
   · rw [if_pos he,aS,CG he,List.nil_append]
     exact wY l cur hc hl.tail (by omega)
   · rw [if_neg he]
     by_cases hk:s.k = cur.k
     · rw [if_pos hk]
       obtain ⟨m1,m2,m3,m4,_⟩:=JM hc h1 hk (by omega)
       rw [wY l (mrg cur s) m1 hl.tail (by omega),adU hc h1 hk (by omega),aS,List.append_assoc]
     · rw [if_neg hk,aS,wY l s h1 hl.tail (by omega),aS]
theorem AB:∀ {l:List Sp},bJ l -> bC dV l <= 1048576 -> dO (norm l) = dO l
 | [],_,_=>rfl
 | s :: l,hl,hs=>by
   have h1:=hl.head
   rw [bZ] at hs
   simp only [norm]
   by_cases he:emptyS s = true
   · rw [if_pos he,aS,CG he,List.nil_append]
     exact AB hl.tail (by have:=(vN he).1;omega)
   · rw [if_neg he,wY l s h1 hl.tail hs,aS]
def IL:Mk -> Int
 | .put _=>2
 | .keep=>1
 | .drop=>3
theorem rW {s:Sp} (h:cu s):∀ m ∈ nS s,IL m = s.k:=by
 intro m hm
 refine' ae6
 · rw [dZ a] at hm;rw [(List.mem_replicate.1 hm).2,a];rfl
 · rw [dR a] at hm;rw [(List.mem_replicate.1 hm).2,a];rfl
 · rw [dN a] at hm;obtain ⟨c,_,rfl⟩:=List.mem_map.1 hm;rw [a];rfl
theorem yM {s:Sp} (h:cu s) (he:emptyS s = false):nS s ≠ []:=by
 intro h0
 have he':¬ (s.n = 0 /\ s.t = ⟨#[]⟩):=fun x=>by rw [nO.2 x] at he;cases he
 refine' ae6
 · rw [dZ a] at h0;have:=congrArg List.length h0;rw [List.length_replicate] at this;simp at this;exact he' ⟨by omega,d⟩
 · rw [dR a] at h0;have:=congrArg List.length h0;rw [List.length_replicate] at this;simp at this;exact he' ⟨by omega,d⟩
 · rw [dN a] at h0
   have:=List.map_eq_nil_iff.1 h0
   refine he' ⟨b,QE.2 ?_⟩
   refine Decidable.byContradiction fun hne=>aja hne this
theorem FQ {k:Int}:∀ {A A' B B':List Mk},A ++ B = A' ++ B' -> (∀ m ∈ A,IL m = k) -> (∀ m ∈ A',IL m = k) -> (∀ m ∈ B.head?,IL m ≠ k) -> (∀ m ∈ B'.head?,IL m ≠ k) -> A = A' /\ B = B'
 | [],[],B,B',h,_,_,_,_=>⟨rfl,h⟩
 | [],m :: A',B,B',h,_,h2,h3,_=>by
   rw [List.nil_append,List.cons_append] at h
   rw [h] at h3
   exact absurd (h2 m (by simp)) (h3 m (by simp))
 | m :: A,[],B,B',h,h1,_,_,h4=>by
   rw [List.nil_append,List.cons_append] at h
   rw [<- h] at h4
   exact absurd (h1 m (by simp)) (h4 m (by simp))
 | m :: A,m' :: A',B,B',h,h1,h2,h3,h4=>by
   rw [List.cons_append,List.cons_append] at h
   obtain ⟨e1,e2⟩:=List.cons.inj h
   obtain ⟨i1,i2⟩:=FQ e2 (fun x hx=>h1 x (by simp [hx])) (fun x hx=>h2 x (by simp [hx])) h3 h4
   exact ⟨by rw [e1,i1],i2⟩
theorem Nc:∀ {l:List Sp} {k:Int},bJ l -> oW (some k) l = true -> ∀ m ∈ (dO l).head?,IL m ≠ k
 | [],k,_,_,m,hm=>by simp [dO] at hm
 | s :: l,k,h,hn,m,hm=>by
   simp only [oW,Bool.and_eq_true,Bool.not_eq_true',decide_eq_false_iff_not,Option.some.injEq] at hn
   have hne:=yM h.head hn.1.1
   rw [aS] at hm
   cases hA:nS s with
   | nil=>exact absurd hA hne
   | cons x A =>
     rw [hA] at hm
     simp only [List.cons_append,List.head?_cons,Option.mem_def,Option.some.injEq] at hm
     subst hm
     rw [rW h.head x (by rw [hA];simp)]
     exact fun e=>hn.1.2 e.symm
theorem ad6{G:Prop}(h:G:=by
 have:=congrArg List.length h;rw [List.length_replicate,List.length_replicate] at this
 simp only at this
 have:n = n':=by omega
 rw [this,d,d']):G:=h
theorem adV {s u:Sp} (hs:cu s) (hu:cu u) (hk:s.k = u.k) (h:nS s = nS u):s = u:=by
 obtain ⟨k,n,t⟩:=s
 obtain ⟨k',n',t'⟩:=u
 simp only at hk
 subst hk
 rcases hs.cases with ⟨a | a,b,c,d⟩ | ⟨a,b,c⟩
 · rcases hu.cases with ⟨a',b',c',d'⟩ | ⟨a',b',c'⟩
   · simp only at a b c d a' b' c' d'
     rw [dZ a,dZ a] at h
     refine' ad6
   · simp only at a a';omega
 · rcases hu.cases with ⟨a',b',c',d'⟩ | ⟨a',b',c'⟩
   · simp only at a b c d a' b' c' d'
     rw [dR a,dR a] at h
     refine' ad6
   · simp only at a a';omega
 · rcases hu.cases with ⟨a',b',c',d'⟩ | ⟨a',b',c'⟩
   · simp only at a a';omega
   · simp only at a b c a' b' c'
     rw [dN a,dN a] at h
     have:=(List.map_inj_right (fun x y e=>by cases e;rfl)).1 h
     simp only at this
     have:t = t':=by rw [<- uD c,<- uD c',this]
     rw [this,b,b']
theorem Kr:∀ {l m:List Sp} {p q:Option Int},bJ l -> bJ m -> oW p l = true -> oW q m = true -> dO l = dO m -> l = m
 | [],[],_,_,_,_,_,_,_=>rfl
 | [],u :: m,_,_,_,h2,_,h4,h=>by
   simp only [oW,Bool.and_eq_true,Bool.not_eq_true'] at h4
   rw [iH,aS] at h
   exact absurd (List.append_eq_nil_iff.1 h.symm).1 (yM h2.head h4.1.1)
 | s :: l,[],_,_,h1,_,h3,_,h=>by
   simp only [oW,Bool.and_eq_true,Bool.not_eq_true'] at h3
   rw [iH,aS] at h
   exact absurd (List.append_eq_nil_iff.1 h).1 (yM h1.head h3.1.1)
 | s :: l,u :: m,_,_,h1,h2,h3,h4,h=>by
   simp only [oW,Bool.and_eq_true,Bool.not_eq_true'] at h3 h4
   rw [aS,aS] at h
   have hk:s.k = u.k:=by
     have n1:=yM h1.head h3.1.1
     have n2:=yM h2.head h4.1.1
     cases hA:nS s with
     | nil=>exact absurd hA n1
     | cons x A =>
       cases hB:nS u with
       | nil=>exact absurd hB n2
       | cons y B =>
         rw [hA,hB,List.cons_append,List.cons_append] at h
         obtain ⟨e,_⟩:=List.cons.inj h
         rw [<- rW h1.head x (by rw [hA];simp),<- rW h2.head y (by rw [hB];simp),e]
   obtain ⟨e1,e2⟩:=FQ h (rW h1.head) (fun m hm=>by rw [hk];exact rW h2.head m hm) (Nc h1.tail h3.2) (by rw [hk];exact Nc h2.tail h4.2)
   rw [adV h1.head h2.head hk e1,Kr h1.tail h2.tail h3.2 h4.2 e2]
def spM:Mk -> Sp
 | .put c=>⟨2,0,txt [c]⟩
 | .keep=>⟨1,1,⟨#[]⟩⟩
 | .drop=>⟨3,1,⟨#[]⟩⟩
def Dv (A:List Mk):Prop:=∀ c,.put c ∈ A -> GL c
def VE (A:List Mk):List Sp:=norm (A.map spM)
theorem ajD {m:Mk} (h:∀ c,m = .put c -> GL c):cu (spM m) /\ nS (spM m) = [m]:=by
 cases m with
 | put c =>
   obtain ⟨h1,h2⟩:=nR [c] (by simpa using h c rfl)
   refine ⟨cu.put rfl rfl (by rw [show (spM (.put c)).t = txt [c] from rfl,fH];exact h1),?_⟩
   rw [dN rfl,show (spM (.put c)).t = txt [c] from rfl,fH,h2];rfl
 | keep=>exact ⟨cu.keep (.inl rfl) (by decide) rfl,by rw [dZ rfl];rfl⟩
 | drop=>exact ⟨cu.keep (.inr rfl) (by decide) rfl,by rw [dR rfl];rfl⟩
theorem Dv.tail {m:Mk} {A:List Mk} (h:Dv (m :: A)):Dv A:=fun c hc=>h c (by simp [hc])
theorem Rl:∀ {A:List Mk},Dv A -> bJ (A.map spM) /\ dO (A.map spM) = A
 | [],_=>⟨bJ.nil,rfl⟩
 | m :: A,h=>by
   obtain ⟨h1,h2⟩:=ajD (m:=m) (fun c hc=>h c (by simp [hc]))
   obtain ⟨i1,i2⟩:=Rl h.tail
   rw [List.map_cons]
   exact ⟨bJ.cons h1 i1,by rw [aS,h2,i2];rfl⟩
theorem Rn {A:List Mk} (h:Dv A) (hn:bV A <= 1048576):bJ (VE A) /\ GH (VE A) = true /\ dO (VE A) = A:=by
 obtain ⟨h1,h2⟩:=Rl h
 have hs:bC dV (A.map spM) <= 1048576:=by have:=(bI h1).1;rw [h2] at this;omega
 exact ⟨(kX _ h1 hs).1,qZ _ h1 hs,by unfold VE;rw [AB h1 hs,h2]⟩
theorem Em {l:List Sp} (h:bJ l):Dv (dO l):=by
 intro c hc
 obtain ⟨s,hs,hm⟩:=List.mem_flatMap.1 hc
 rcases (h s hs).cases with ⟨a | a,b,c,d⟩ | ⟨a,b,c⟩
 · rw [dZ a] at hm;cases (List.mem_replicate.1 hm).2
 · rw [dR a] at hm;cases (List.mem_replicate.1 hm).2
 · rw [dN a] at hm
   obtain ⟨d,hd,e⟩:=List.mem_map.1 hm
   cases e
   exact (jv _ c).2 _ hd
theorem Nh {l:List Sp} (h:bJ l) (hs:bC dV l <= 1048576):norm l = VE (dO l):=by
 have hi:bV (dO l) <= 1048576:=by have:=(bI h).1;omega
 obtain ⟨h1,h2,h3⟩:=Rn (Em h) hi
 exact Kr (kX _ h hs).1 h1 (qZ _ h hs) h2 (by rw [AB h hs,h3])
theorem Dv.cons {m:Mk} {A:List Mk} (h:∀ c,m = .put c -> GL c) (h':Dv A):Dv (m :: A):=fun c hc=>by
 rcases List.mem_cons.1 hc with e | hc
 · exact h c e.symm
 · exact h' c hc
theorem wZ:∀ (y x:List Mk),Dv y -> Dv x -> Dv (dD y x)
 | [],x,hy,hx=>hx
 | .put c :: y,x,hy,hx=>Dv.cons (fun d e=>hy d (by rw [<- e];simp)) (wZ y x hy.tail hx)
 | .keep :: y,x,hy,hx=>by
   simp only [dD]
   induction x with
   | nil=>exact hx
   | cons a x ih =>
     cases a with
     | drop=>exact Dv.cons (fun d e=>by cases e) (ih hx.tail)
     | put c=>simp only [fC,if_true];exact Dv.cons (fun d e=>hx d (by rw [<- e];simp)) (wZ y x hy.tail hx.tail)
     | keep=>simp only [fC,if_true];exact Dv.cons (fun d e=>by cases e) (wZ y x hy.tail hx.tail)
 | .drop :: y,x,hy,hx=>by
   simp only [dD]
   induction x with
   | nil=>exact hx
   | cons a x ih =>
     cases a with
     | drop=>exact Dv.cons (fun d e=>by cases e) (ih hx.tail)
     | put c=>simp only [fC,Bool.false_eq_true,if_false];exact wZ y x hy.tail hx.tail
     | keep=>simp only [fC,Bool.false_eq_true,if_false];exact Dv.cons (fun d e=>by cases e) (wZ y x hy.tail hx.tail)
theorem xg:∀ (s a:List Mk),Dv a -> Dv (fP s a)
 | [],a,ha=>ha
 | .put c :: s,a,ha=>Dv.cons (fun d e=>by cases e) (xg s a ha)
 | .keep :: s,a,ha=>by
   simp only [fP]
   induction a with
   | nil=>exact ha
   | cons b a ih =>
     cases b with
     | put c=>exact Dv.cons (fun d e=>ha d (by rw [<- e];simp)) (ih ha.tail)
     | keep=>simp only [jg,if_true];exact Dv.cons (fun d e=>by cases e) (xg s a ha.tail)
     | drop=>simp only [jg,if_true];exact Dv.cons (fun d e=>by cases e) (xg s a ha.tail)
 | .drop :: s,a,ha=>by
   simp only [fP]
   induction a with
   | nil=>exact ha
   | cons b a ih =>
     cases b with
     | put c=>exact Dv.cons (fun d e=>ha d (by rw [<- e];simp)) (ih ha.tail)
     | keep=>simp only [jg,Bool.false_eq_true,if_false];exact xg s a ha.tail
     | drop=>simp only [jg,Bool.false_eq_true,if_false];exact xg s a ha.tail
theorem AL:∀ (a b:List Mk) (r:List Nat),bV a <= r.length -> lD (a ++ b) r = lD a (r.take (bV a)) ++ lD b (r.drop (bV a))
 | [],b,r,h=>by simp [lD,bV]
 | .put c :: a,b,r,h=>by simp only [List.cons_append,lD,bV];rw [AL a b r h]
 | .keep :: a,b,[],h=>by simp [bV] at h
 | .keep :: a,b,p :: r,h=>by simp only [List.cons_append,lD,bV,List.take_succ_cons,List.drop_succ_cons];rw [AL a b r (by simpa [bV] using h)]
 | .drop :: a,b,[],h=>by simp [bV] at h
 | .drop :: a,b,p :: r,h=>by simp only [List.cons_append,lD,bV,List.take_succ_cons,List.drop_succ_cons];rw [AL a b r (by simpa [bV] using h)]
theorem Nj:∀ (l:List Nat),lD (l.map Mk.put) [] = l
 | []=>rfl
 | c :: l=>by simp only [List.map_cons,lD];rw [Nj l]
theorem IQ:∀ (r:List Nat),lD (List.replicate r.length Mk.drop) r = []
 | []=>rfl
 | p :: r=>by simp only [List.length_cons,List.replicate_succ,lD];exact IQ r
theorem FT:∀ (l:List Sp) (r:List Nat),bJ l -> bC dV l = r.length -> fQ l r = lD (dO l) r
 | [],r,h,hr=>by
   have:r = []:=List.length_eq_zero_iff.1 (by simp [bC] at hr;omega)
   subst this;rfl
 | s :: l,r,h,hr=>by
   have hs:=h.head
   have h1:=jY hs
   have h3:=Ej h.tail
   rw [bZ] at hr
   rw [rO,aS,AL _ _ _ (by omega)]
   rcases jJ hs with ⟨a,b,c,d⟩ | ⟨a,b,c,d⟩
   · have e0:bV (nS s) = 0:=by omega
     rw [e0,b]
     simp only [Int.toNat_zero,List.drop_zero,List.take_zero]
     rw [FT l r h.tail (by omega),dN a,Nj]
     unfold x9;rw [if_pos a]
   · have e0:bV (nS s) = s.n.toNat:=by omega
     rw [e0,FT l _ h.tail (by rw [List.length_drop];omega)]
     congr 1
     have hl:(r.take s.n.toNat).length = s.n.toNat:=by rw [List.length_take];omega
     unfold x9
     rcases a with a | a
     · rw [dZ a,if_neg (by omega),if_pos a]
       have:=IK (r.take s.n.toNat)
       rw [hl] at this;exact this.symm
     · rw [dR a,if_neg (by omega),if_neg (by omega)]
       have:=IQ (r.take s.n.toNat)
       rw [hl] at this;exact this.symm
def adW:List Mk -> Prop
 | .put _ :: _=>False
 | _=>True
theorem CJ:∀ (l:List Nat) (Y X:List Mk),dD (l.map Mk.put ++ Y) X = l.map Mk.put ++ dD Y X
 | [],_,_=>rfl
 | c :: l,Y,X=>by simp only [List.map_cons,List.cons_append,dD];rw [CJ l]
theorem yN:∀ (n:Nat) (Y X:List Mk),adW Y -> dD Y (List.replicate n Mk.drop ++ X) = List.replicate n Mk.drop ++ dD Y X
 | 0,Y,X,_=>rfl
 | n + 1,[],X,h=>rfl
 | n + 1,.put c :: Y,X,h=>h.elim
 | n + 1,.keep :: Y,X,h=>by have:=yN n (.keep :: Y) X h;simp only [List.replicate_succ,List.cons_append,dD,fC] at this ⊢;rw [this]
 | n + 1,.drop :: Y,X,h=>by have:=yN n (.drop :: Y) X h;simp only [List.replicate_succ,List.cons_append,dD,fC] at this ⊢;rw [this]
theorem FU:∀ (l:List Nat) (Y X:List Mk),dD (List.replicate l.length Mk.keep ++ Y) (l.map Mk.put ++ X) = l.map Mk.put ++ dD Y X
 | [],_,_=>rfl
 | c :: l,Y,X=>by simp only [List.length_cons,List.map_cons,List.replicate_succ,List.cons_append,dD,fC,if_true];rw [FU l]
theorem FV:∀ (n:Nat) (Y X:List Mk),dD (List.replicate n Mk.keep ++ Y) (List.replicate n Mk.keep ++ X) = List.replicate n Mk.keep ++ dD Y X
 | 0,_,_=>rfl
 | n + 1,Y,X=>by simp only [List.replicate_succ,List.cons_append,dD,fC,if_true];rw [FV n]
theorem FW:∀ (n:Nat) (Y X:List Mk),dD (List.replicate n Mk.drop ++ Y) (List.replicate n Mk.keep ++ X) = List.replicate n Mk.drop ++ dD Y X
 | 0,_,_=>rfl
 | n + 1,Y,X=>by simp only [List.replicate_succ,List.cons_append,dD,fC,Bool.false_eq_true,if_false];rw [FW n]
theorem FX:∀ (l:List Nat) (Y X:List Mk),dD (List.replicate l.length Mk.drop ++ Y) (l.map Mk.put ++ X) = dD Y X
 | [],_,_=>rfl
 | c :: l,Y,X=>by simp only [List.length_cons,List.map_cons,List.replicate_succ,List.cons_append,dD,fC,Bool.false_eq_true,if_false];exact FX l Y X
theorem CO:∀ (l:List Nat) (S A:List Mk),fP (l.map Mk.put ++ S) A = List.replicate l.length Mk.keep ++ fP S A
 | [],_,_=>rfl
 | c :: l,S,A=>by simp only [List.length_cons,List.map_cons,List.replicate_succ,List.cons_append,fP];rw [CO l]
theorem CP:∀ (l:List Nat) (S A:List Mk),adW S -> fP S (l.map Mk.put ++ A) = l.map Mk.put ++ fP S A
 | [],_,_,_=>rfl
 | c :: l,[],A,h=>rfl
 | c :: l,.put _ :: S,A,h=>h.elim
 | c :: l,.keep :: S,A,h=>by have:=CP l (.keep :: S) A h;simp only [List.map_cons,List.cons_append,fP,jg] at this ⊢;rw [this]
 | c :: l,.drop :: S,A,h=>by have:=CP l (.drop :: S) A h;simp only [List.map_cons,List.cons_append,fP,jg] at this ⊢;rw [this]
theorem yO:∀ (n:Nat) (m:Mk) (S A:List Mk),(m = .keep ∨ m = .drop) -> fP (List.replicate n Mk.keep ++ S) (List.replicate n m ++ A) = List.replicate n m ++ fP S A
 | 0,_,_,_,_=>rfl
 | n + 1,m,S,A,h=>by
   rcases h with rfl | rfl
   · simp only [List.replicate_succ,List.cons_append,fP,jg,if_true];rw [yO n _ S A (.inl rfl)]
   · simp only [List.replicate_succ,List.cons_append,fP,jg,if_true];rw [yO n _ S A (.inr rfl)]
theorem yP:∀ (n:Nat) (m:Mk) (S A:List Mk),(m = .keep ∨ m = .drop) -> fP (List.replicate n Mk.drop ++ S) (List.replicate n m ++ A) = fP S A
 | 0,_,_,_,_=>rfl
 | n + 1,m,S,A,h=>by
   rcases h with rfl | rfl
   · simp only [List.replicate_succ,List.cons_append,fP,jg,Bool.false_eq_true,if_false];exact yP n _ S A (.inl rfl)
   · simp only [List.replicate_succ,List.cons_append,fP,jg,Bool.false_eq_true,if_false];exact yP n _ S A (.inr rfl)
def eu (s:Sp):Nat:=if s.k = 2 then (pts s.t.data.toList).length else s.n.toNat
def eF (s:Sp) (n:Nat):Sp:=if s.k = 2 then ⟨2,0,txt ((pts s.t.data.toList).take n)⟩ else ⟨s.k,n,⟨#[]⟩⟩
def dI (s:Sp) (n:Nat):Sp:=if s.k = 2 then ⟨2,0,txt ((pts s.t.data.toList).drop n)⟩ else ⟨s.k,s.n - n,⟨#[]⟩⟩
def bf (s:Sp) (n:Nat) (l:List Sp):List Sp:=if eu s = n then l else dI s n :: l
theorem mg {s:Sp} (h:cu s):(nS s).length = eu s:=by
 unfold eu
 refine' ae6
 · rw [dZ a,List.length_replicate,if_neg (by omega)]
 · rw [dR a,List.length_replicate,if_neg (by omega)]
 · rw [dN a,List.length_map,if_pos a]
theorem xk {s:Sp} (h:s.k = 2):eu s = (pts s.t.data.toList).length:=if_pos h
theorem iy {s:Sp} (h:s.k ≠ 2):eu s = s.n.toNat:=if_neg h
theorem vT {s:Sp} (n:Nat) (h:s.k ≠ 2):eF s n = ⟨s.k,n,⟨#[]⟩⟩:=if_neg h
theorem FY {s:Sp} (n:Nat) (h:s.k ≠ 2):dI s n = ⟨s.k,s.n - n,⟨#[]⟩⟩:=if_neg h
theorem mD {s:Sp} (h:cu s) {n:Nat} (hn:n <= eu s):cu (eF s n) /\ cu (dI s n) /\ nS (eF s n) = (nS s).take n /\ nS (dI s n) = (nS s).drop n /\ (eF s n).t.size + (dI s n).t.size = s.t.size /\ (eF s n).k = s.k /\ (dI s n).k = s.k:=by
 rcases h.cases with ⟨a,b,c,d⟩ | ⟨a,b,c⟩
 · have hk:s.k ≠ 2:=by omega
   rw [iy hk] at hn
   rw [vT n hk,FY n hk,d]
   refine ⟨cu.keep a (by simp only;omega) rfl,cu.keep a (by simp only;omega) rfl,?_,?_,rfl,rfl,rfl⟩
   · rcases a with a | a
     · rw [dZ a,dZ (s:=⟨s.k,n,⟨#[]⟩⟩) a,List.take_replicate];congr 1;simp only;omega
     · rw [dR a,dR (s:=⟨s.k,n,⟨#[]⟩⟩) a,List.take_replicate];congr 1;simp only;omega
   · rcases a with a | a
     · rw [dZ a,dZ (s:=⟨s.k,s.n - n,⟨#[]⟩⟩) a,List.drop_replicate];congr 1;simp only;omega
     · rw [dR a,dR (s:=⟨s.k,s.n - n,⟨#[]⟩⟩) a,List.drop_replicate];congr 1;simp only;omega
 · have hp:=(jv _ c).2
   have e1:eF s n = ⟨2,0,txt ((pts s.t.data.toList).take n)⟩:=if_pos a
   have e2:dI s n = ⟨2,0,txt ((pts s.t.data.toList).drop n)⟩:=if_pos a
   obtain ⟨s1,s2⟩:=nR ((pts s.t.data.toList).take n) (fun p hp'=>hp p (List.mem_of_mem_take hp'))
   obtain ⟨s3,s4⟩:=nR ((pts s.t.data.toList).drop n) (fun p hp'=>hp p (List.mem_of_mem_drop hp'))
   rw [e1,e2]
   refine ⟨cu.put rfl rfl (by simp only;rw [fH];exact s1),cu.put rfl rfl (by simp only;rw [fH];exact s3),?_,?_,?_,a.symm,a.symm⟩
   · rw [dN rfl,dN a];simp only;rw [fH,s2,List.map_take]
   · rw [dN rfl,dN a];simp only;rw [fH,s4,List.map_drop]
   · simp only
     have:txt ((pts s.t.data.toList).take n) ++ txt ((pts s.t.data.toList).drop n) = s.t:=by rw [J9,List.take_append_drop,uD c]
     rw [<- MC,this]
theorem pF {s:Sp} {l:List Sp} (h:cu s) (hl:bJ l) {n:Nat} (hn:n <= eu s):bJ (bf s n l) /\ dO (bf s n l) = (nS s).drop n ++ dO l /\ (bf s n l).length <= l.length + 1 /\ (eu s = n -> (bf s n l).length = l.length) /\ (eF s n).t.size + dw (bf s n l) <= s.t.size + dw l:=by
 obtain ⟨h1,h2,h3,h4,h5,_,_⟩:=mD h hn
 unfold bf
 by_cases hz:eu s = n
 · rw [if_pos hz]
   refine ⟨hl,?_,by omega,fun _=>rfl,by omega⟩
   rw [List.drop_of_length_le (by rw [mg h];omega),List.nil_append]
 · rw [if_neg hz]
   exact ⟨bJ.cons h2 hl,by rw [aS,h4],by simp,fun e=>absurd e hz,by rw [aQ];omega⟩
theorem iP {s:Sp} (h:cu s) {n:Nat} (hn:n <= eu s):(s.k = 1 /\ (nS s).take n = List.replicate n Mk.keep) ∨ (s.k = 3 /\ (nS s).take n = List.replicate n Mk.drop) ∨ (s.k = 2 /\ ∃ l:List Nat,l.length = n /\ (nS s).take n = l.map Mk.put):=by
 refine' ae6
 · rw [iy (by omega)] at hn
   refine .inl ⟨a,?_⟩
   rw [dZ a,List.take_replicate];congr 1;omega
 · rw [iy (by omega)] at hn
   refine .inr (.inl ⟨a,?_⟩)
   rw [dR a,List.take_replicate];congr 1;omega
 · rw [xk a] at hn
   refine .inr (.inr ⟨a,(pts s.t.data.toList).take n,by rw [List.length_take];omega,?_⟩)
   rw [dN a,List.map_take]
theorem Yp:∀ {l:List Sp},bJ l -> (∀ s ∈ l.head?,s.k ≠ 2 /\ nS s ≠ []) -> adW (dO l)
 | [],_,_=>trivial
 | s :: l,h,hk=>by
   have hs:=h.head
   obtain ⟨h2,h3⟩:=hk s (by simp)
   have hkk:=rW hs
   rw [aS]
   cases hA:nS s with
   | nil=>exact absurd hA h3
   | cons m A =>
     rw [hA] at hkk
     have:=hkk m (by simp)
     cases m with
     | put c=>exact absurd this.symm h2
     | keep=>trivial
     | drop=>trivial
def Ob (l:List Sp):Prop:=∀ s ∈ l,emptyS s = false
theorem Ob.tail {s:Sp} {l:List Sp} (h:Ob (s :: l)):Ob l:=fun x hx=>h x (by simp [hx])
theorem Nk:∀ {l:List Sp} {p:Option Int},oW p l = true -> Ob l
 | [],_,_=>fun x hx=>by simp at hx
 | s :: l,p,h=>by
   simp only [oW,Bool.and_eq_true,Bool.not_eq_true'] at h
   intro x hx
   rcases List.mem_cons.1 hx with rfl | hx
   · exact h.1.1
   · exact Nk h.2 x hx
theorem kR {s:Sp} {l:List Sp} (h:cu s) (hl:Ob l) {n:Nat} (hn:n <= eu s):Ob (bf s n l):=by
 unfold bf
 by_cases hz:eu s = n
 · rw [if_pos hz];exact hl
 · rw [if_neg hz]
   intro x hx
   rcases List.mem_cons.1 hx with rfl | hx
   · obtain ⟨h1,h2,h3,h4,_⟩:=mD h hn
     cases he:emptyS (dI s n) with
     | false=>rfl
     | true =>
       have:=CG he
       rw [h4] at this
       have:=congrArg List.length this
       rw [List.length_drop,mg h] at this
       simp at this;omega
   · exact hl x hx
theorem AO {s:Sp} (h:cu s) (he:emptyS s = false):0 < eu s:=by
 rw [<- mg h];exact List.length_pos_iff.2 (yM h he)
def lF:Nat -> List Sp -> List Sp -> List Sp
 | 0,_,_=>[]
 | f + 1,[],[]=>[]
 | f + 1,u :: x,[]=>u :: lF f x []
 | f + 1,[],v :: y=>if v.k = 2 then v :: lF f [] y else []
 | f + 1,u :: x,v :: y =>
   if v.k = 2 then v :: lF f (u :: x) y else
   if u.k = 3 then u :: lF f x (v :: y) else
   (if v.k = 1 then [eF u (min (eu u) (eu v))] else if u.k = 1 then [eF v (min (eu u) (eu v))] else []) ++ lF f (bf u (min (eu u) (eu v)) x) (bf v (min (eu u) (eu v)) y)
theorem nT {s:Sp} {l:List Sp} (h:cu s) (hl:bJ l) {n:Nat} (hn:n <= eu s):dO (s :: l) = (nS s).take n ++ dO (bf s n l):=by
 rw [(pF h hl hn).2.1,aS,<- List.append_assoc,List.take_append_drop]
theorem CQ {s:Sp} (h:s.k = 2):bV (nS s) = 0:=by rw [dN h];exact (qA _).1
theorem Nl {s:Sp} (h:s.k = 3):bg (nS s) = 0:=by rw [dR h];exact (lq _).2
theorem Np {l:List Sp} (h:bJ l) (hf:Ob l) (hk:∀ s ∈ l.head?,s.k ≠ 2):adW (dO l) :=
 Yp h fun s hs=>⟨hk s hs,by
   cases l with
   | nil=>simp at hs
   | cons x l=>simp only [List.head?_cons,Option.mem_def,Option.some.injEq] at hs;subst hs;exact yM h.head (hf _ (by simp))⟩
theorem rX:∀ (f:Nat) (x y:List Sp),x.length + y.length <= f -> bJ x -> bJ y -> Ob x -> Ob y -> bg (dO x) = bV (dO y) ->
   dO (lF f x y) = dD (dO y) (dO x) /\ bJ (lF f x y) /\ (lF f x y).length <= x.length + y.length /\ dw (lF f x y) <= dw x + dw y
 | 0,x,y,hf,hx,hy,_,_,_=>by
   obtain rfl:x = []:=List.length_eq_zero_iff.1 (by omega)
   obtain rfl:y = []:=List.length_eq_zero_iff.1 (by omega)
   exact ⟨rfl,bJ.nil,Nat.le_refl _,Nat.le_refl _⟩
 | f + 1,[],[],hf,hx,hy,_,_,_=>⟨rfl,bJ.nil,Nat.le_refl _,Nat.le_refl _⟩
 | f + 1,u :: x,[],hf,hx,hy,fx,fy,ho=>by
   rw [aS,gW,iH] at ho
   simp only [bV] at ho
   obtain ⟨i1,i2,i3,i4⟩:=rX f x [] (by simp at hf ⊢;omega) hx.tail hy fx.tail fy (by rw [iH];simp only [bV];omega)
   simp only [lF]
   refine ⟨?_,bJ.cons hx.head i2,by simp at i3 ⊢;omega,by rw [aQ,aQ];omega⟩
   rw [aS,i1,iH,aS];rfl
 | f + 1,[],v :: y,hf,hx,hy,fx,fy,ho=>by
   rw [aS,eY,iH] at ho
   simp only [bg] at ho
   have hv2:v.k = 2:=by
     refine Decidable.byContradiction fun hk=>?_
     have h1:=(jY hy.head).1
     have h2:=AO hy.head (fy v (by simp))
     rw [iy hk] at h2
     rcases jJ hy.head with ⟨a,_⟩ | ⟨a,b,c,d⟩
     · exact hk a
     · omega
   simp only [lF];rw [if_pos hv2]
   obtain ⟨i1,i2,i3,i4⟩:=rX f [] y (by simp at hf ⊢;omega) hx hy.tail fx fy.tail (by rw [iH];simp only [bg];omega)
   refine ⟨?_,bJ.cons hy.head i2,by simp at i3 ⊢;omega,by rw [aQ,aQ];omega⟩
   rw [aS,i1,aS,dN hv2,CJ]
 | f + 1,u :: x,v :: y,hf,hx,hy,fx,fy,ho=>by
   simp only [lF]
   by_cases hv2:v.k = 2
   · rw [if_pos hv2]
     have hv0:=CQ hv2
     rw [aS v,eY] at ho
     obtain ⟨i1,i2,i3,i4⟩:=rX f (u :: x) y (by simp at hf ⊢;omega) hx hy.tail fx fy.tail (by omega)
     refine ⟨?_,bJ.cons hy.head i2,by simp at i3 ⊢;omega,by rw [aQ,aQ v];omega⟩
     rw [aS,i1,aS v,dN hv2,CJ]
   · rw [if_neg hv2]
     by_cases hu3:u.k = 3
     · rw [if_pos hu3]
       have hu0:=Nl hu3
       rw [aS u,gW] at ho
       obtain ⟨i1,i2,i3,i4⟩:=rX f x (v :: y) (by simp at hf ⊢;omega) hx.tail hy fx.tail fy (by omega)
       refine ⟨?_,bJ.cons hx.head i2,by simp at i3 ⊢;omega,by rw [aQ,aQ u];omega⟩
       rw [aS u,i1,aS u,dR hu3,yN _ _ _ (Np hy fy (fun s hs=>by simp at hs;subst hs;exact hv2))]
     · rw [if_neg hu3]
       have hn1:min (eu u) (eu v) <= eu u:=Nat.min_le_left ..
       have hn2:min (eu u) (eu v) <= eu v:=Nat.min_le_right ..
       have hone:eu u = min (eu u) (eu v) ∨ eu v = min (eu u) (eu v):=by omega
       generalize min (eu u) (eu v) = n at *
       obtain ⟨a1,a2,a3,a4,a5⟩:=pF hx.head hx.tail hn1
       obtain ⟨b1,b2,b3,b4,b5⟩:=pF hy.head hy.tail hn2
       obtain ⟨p1,p2,p3,p4,p5,p6,p7⟩:=mD hx.head hn1
       obtain ⟨q1,q2,q3,q4,q5,q6,q7⟩:=mD hy.head hn2
       have mx:=nT hx.head hx.tail hn1
       have my:=nT hy.head hy.tail hn2
       have hlen:(bf u n x).length + (bf v n y).length <= x.length + y.length + 1:=by
         rcases hone with h | h
         · have:=a4 h;omega
         · have:=b4 h;omega
       have hom:bg ((nS u).take n) = n /\ bV ((nS v).take n) = n:=by
         refine ⟨?_,?_⟩
         · rcases iP hx.head hn1 with ⟨_,e⟩ | ⟨e,_⟩ | ⟨_,l,e1,e2⟩
           · rw [e];exact (jy n).2
           · exact absurd e hu3
           · rw [e2,<- e1];exact (qA l).2
         · rcases iP hy.head hn2 with ⟨_,e⟩ | ⟨_,e⟩ | ⟨e,_⟩
           · rw [e];exact (jy n).1
           · rw [e];exact (lq n).1
           · exact absurd e hv2
       rw [mx,my,gW,eY] at ho
       simp only [List.length_cons] at hf
       obtain ⟨i1,i2,i3,i4⟩:=rX f _ _ (by omega) a1 b1 (kR hx.head fx.tail hn1) (kR hy.head fy.tail hn2) (by omega)
       rw [mx,my,aQ,aQ]
       simp only [List.length_cons]
       rcases iP hy.head hn2 with ⟨hk,e⟩ | ⟨hk,e⟩ | ⟨e,_⟩
       · rw [if_pos hk]
         refine ⟨?_,bJ.app (bJ.cons p1 bJ.nil) i2,by simp only [List.singleton_append,List.length_cons];omega,by rw [List.singleton_append,aQ];omega⟩
         rw [List.singleton_append,aS,p3,i1,e]
         rcases iP hx.head hn1 with ⟨_,e'⟩ | ⟨e',_⟩ | ⟨_,l,e1,e2⟩
         · rw [e',FV]
         · exact absurd e' hu3
         · rw [e2,<- e1,FU]
       · rw [if_neg (by omega)]
         rcases iP hx.head hn1 with ⟨hk',e'⟩ | ⟨e',_⟩ | ⟨hk',l,e1,e2⟩
         · rw [if_pos hk']
           have ht:(eF v n).t.size = 0:=by rw [vT n hv2];rfl
           refine ⟨?_,bJ.app (bJ.cons q1 bJ.nil) i2,by simp only [List.singleton_append,List.length_cons];omega,by rw [List.singleton_append,aQ];omega⟩
           rw [List.singleton_append,aS,q3,i1,e,e',FW]
         · exact absurd e' hu3
         · rw [if_neg (by omega),List.nil_append]
           refine ⟨?_,i2,by omega,by omega⟩
           rw [i1,e,e2,<- e1,FX]
       · exact absurd e hv2
def kpO (s:Sp):Sp:=⟨1,dK s,⟨#[]⟩⟩
def lZ:Nat -> List Sp -> List Sp -> List Sp
 | 0,_,_=>[]
 | f + 1,[],[]=>[]
 | f + 1,u :: a,[]=>u :: lZ f a []
 | f + 1,[],v :: s=>if v.k = 2 then kpO v :: lZ f [] s else []
 | f + 1,u :: a,v :: s =>
   if v.k = 2 then kpO v :: lZ f (u :: a) s else
   if u.k = 2 then u :: lZ f a (v :: s) else
   (if v.k = 1 then [eF u (min (eu u) (eu v))] else []) ++ lZ f (bf u (min (eu u) (eu v)) a) (bf v (min (eu u) (eu v)) s)
theorem Yq {v:Sp} (h:cu v) (hk:v.k = 2) (ho:dK v <= 1048576):cu (kpO v) /\ nS (kpO v) = List.replicate (pts v.t.data.toList).length Mk.keep /\ (kpO v).t.size = 0:=by
 have h2:=(jY h).2
 rw [dN hk,(qA _).2] at h2
 refine ⟨cu.keep (.inl rfl) (by show 0 <= dK v /\ dK v <= 1048576;omega) rfl,?_,rfl⟩
 rw [dZ rfl];congr 1;show (dK v).toNat = _;omega
theorem rY:∀ (f:Nat) (a s:List Sp),a.length + s.length <= f -> bJ a -> bJ s -> Ob a -> Ob s -> bV (dO a) = bV (dO s) -> bg (dO s) <= 1048576 ->
   dO (lZ f a s) = fP (dO s) (dO a) /\ bJ (lZ f a s) /\ (lZ f a s).length <= a.length + s.length /\ dw (lZ f a s) <= dw a
 | 0,x,y,hf,hx,hy,_,_,_,_=>by
   obtain rfl:x = []:=List.length_eq_zero_iff.1 (by omega)
   obtain rfl:y = []:=List.length_eq_zero_iff.1 (by omega)
   exact ⟨rfl,bJ.nil,Nat.le_refl _,Nat.le_refl _⟩
 | f + 1,[],[],hf,hx,hy,_,_,_,_=>⟨rfl,bJ.nil,Nat.le_refl _,Nat.le_refl _⟩
 | f + 1,u :: x,[],hf,hx,hy,fx,fy,ho,hb=>by
   rw [aS,eY,iH] at ho
   simp only [bV] at ho
   obtain ⟨i1,i2,i3,i4⟩:=rY f x [] (by simp at hf ⊢;omega) hx.tail hy fx.tail fy (by rw [iH];simp only [bV];omega) hb
   simp only [lZ]
   refine ⟨?_,bJ.cons hx.head i2,by simp at i3 ⊢;omega,by rw [aQ,aQ];omega⟩
   rw [aS,i1,iH,aS];rfl
 | f + 1,[],v :: y,hf,hx,hy,fx,fy,ho,hb=>by
   rw [aS,eY,iH] at ho
   rw [aS,gW] at hb
   simp only [bV] at ho
   have hv2:v.k = 2:=by
     refine Decidable.byContradiction fun hk=>?_
     have h1:=(jY hy.head).1
     have h2:=AO hy.head (fy v (by simp))
     rw [iy hk] at h2
     rcases jJ hy.head with ⟨a,_⟩ | ⟨a,b,c,d⟩
     · exact hk a
     · omega
   simp only [lZ];rw [if_pos hv2]
   obtain ⟨k1,k2,k3⟩:=Yq hy.head hv2 (by have:=(jY hy.head).2;omega)
   obtain ⟨i1,i2,i3,i4⟩:=rY f [] y (by simp at hf ⊢;omega) hx hy.tail fx fy.tail (by rw [iH];simp only [bV];omega) (by omega)
   refine ⟨?_,bJ.cons k1 i2,by simp at i3 ⊢;omega,by rw [aQ];omega⟩
   rw [aS,i1,aS,dN hv2,CO,k2]
 | f + 1,u :: x,v :: y,hf,hx,hy,fx,fy,ho,hb=>by
   simp only [lZ]
   by_cases hv2:v.k = 2
   · rw [if_pos hv2]
     have hv0:=CQ hv2
     rw [aS v,eY] at ho
     rw [aS v,gW] at hb
     obtain ⟨k1,k2,k3⟩:=Yq hy.head hv2 (by have:=(jY hy.head).2;omega)
     obtain ⟨i1,i2,i3,i4⟩:=rY f (u :: x) y (by simp at hf ⊢;omega) hx hy.tail fx fy.tail (by omega) (by omega)
     refine ⟨?_,bJ.cons k1 i2,by simp at i3 ⊢;omega,by rw [aQ];omega⟩
     rw [aS,i1,aS v,dN hv2,CO,k2]
   · rw [if_neg hv2]
     by_cases hu2:u.k = 2
     · rw [if_pos hu2]
       have hu0:=CQ hu2
       rw [aS u,eY] at ho
       obtain ⟨i1,i2,i3,i4⟩:=rY f x (v :: y) (by simp at hf ⊢;omega) hx.tail hy fx.tail fy (by omega) hb
       refine ⟨?_,bJ.cons hx.head i2,by simp at i3 ⊢;omega,by rw [aQ,aQ u];omega⟩
       rw [aS u,i1,aS u,dN hu2,CP _ _ _ (Np hy fy (fun s hs=>by simp at hs;subst hs;exact hv2))]
     · rw [if_neg hu2]
       have hn1:min (eu u) (eu v) <= eu u:=Nat.min_le_left ..
       have hn2:min (eu u) (eu v) <= eu v:=Nat.min_le_right ..
       have hone:eu u = min (eu u) (eu v) ∨ eu v = min (eu u) (eu v):=by omega
       generalize min (eu u) (eu v) = n at *
       obtain ⟨a1,a2,a3,a4,a5⟩:=pF hx.head hx.tail hn1
       obtain ⟨b1,b2,b3,b4,b5⟩:=pF hy.head hy.tail hn2
       obtain ⟨p1,p2,p3,p4,p5,p6,p7⟩:=mD hx.head hn1
       have mx:=nT hx.head hx.tail hn1
       have my:=nT hy.head hy.tail hn2
       have hlen:(bf u n x).length + (bf v n y).length <= x.length + y.length + 1:=by
         rcases hone with h | h
         · have:=a4 h;omega
         · have:=b4 h;omega
       have tk:∃ m,(m = Mk.keep ∨ m = Mk.drop) /\ (nS u).take n = List.replicate n m /\ bV (List.replicate n m) = n:=by
         rcases iP hx.head hn1 with ⟨_,e⟩ | ⟨_,e⟩ | ⟨e,_⟩
         · exact ⟨_,.inl rfl,e,(jy n).1⟩
         · exact ⟨_,.inr rfl,e,(lq n).1⟩
         · exact absurd e hu2
       obtain ⟨m,hm,e',hin⟩:=tk
       have hom:bV ((nS v).take n) = n:=by
         rcases iP hy.head hn2 with ⟨_,e⟩ | ⟨_,e⟩ | ⟨e,_⟩
         · rw [e];exact (jy n).1
         · rw [e];exact (lq n).1
         · exact absurd e hv2
       rw [mx,my,eY,eY,e'] at ho
       rw [my,gW] at hb
       simp only [List.length_cons] at hf
       obtain ⟨i1,i2,i3,i4⟩:=rY f _ _ (by omega) a1 b1 (kR hx.head fx.tail hn1) (kR hy.head fy.tail hn2) (by omega) (by omega)
       rw [mx,my,aQ]
       simp only [List.length_cons]
       rcases iP hy.head hn2 with ⟨hk,e⟩ | ⟨hk,e⟩ | ⟨e,_⟩
       · rw [if_pos hk]
         refine ⟨?_,bJ.app (bJ.cons p1 bJ.nil) i2,by simp only [List.singleton_append,List.length_cons];omega,by rw [List.singleton_append,aQ];omega⟩
         rw [List.singleton_append,aS,p3,i1,e,e',yO _ _ _ _ hm]
       · rw [if_neg (by omega),List.nil_append]
         refine ⟨?_,i2,by omega,by omega⟩
         rw [i1,e,e',yP _ _ _ _ hm]
       · exact absurd e hv2
structure qM (l:List Sp):Prop where
 all:bJ l
 bnd:bC dV l <= 1048576
theorem qM.of {l:List Sp} (h:aH l = 0) (hl:l.length <= 1000000000):qM l /\ jV l = bC dV l:=by
 obtain ⟨h1,h2⟩:=(gG l).1 h
 have h3:=ku h1 hl
 exact ⟨⟨h1,by omega⟩,h3⟩
theorem qM.may {l:List Sp} (h:qM l) (hl:l.length <= 1000000000):aH l = 0 /\ jV l = bC dV l:=by
 have h3:=ku h.all hl
 exact ⟨(gG l).2 ⟨h.all,by rw [h3];exact h.bnd⟩,h3⟩
theorem qM.norm {l:List Sp} (h:qM l):qM (norm l) /\ GH (norm l) = true /\ dO (norm l) = dO l /\ bC dV (norm l) = bC dV l /\ bC dK (norm l) = bC dK l /\ dw (norm l) = dw l /\ (norm l).length <= l.length /\ Ob (norm l):=by
 obtain ⟨a,b,c,d,e⟩:=kX l h.all h.bnd
 have hn:=qZ l h.all h.bnd
 exact ⟨⟨a,by rw [b];exact h.bnd⟩,hn,AB h.all h.bnd,b,c,d,e,Nk hn⟩
def jR (a b:List Sp):List Sp:=VE (dD (dO b) (dO a))
def qN (a s:List Sp):List Sp:=VE (fP (dO s) (dO a))
structure IU (l:List Sp):Prop where
 ops:qM l
 nf:GH l = true
theorem IU.inj {l m:List Sp} (h:IU l) (h':IU m) (he:dO l = dO m):l = m:=Kr h.ops.all h'.ops.all h.nf h'.nf he
theorem Ro {A:List Mk} (h:Dv A) (hn:bV A <= 1048576):IU (VE A) /\ dO (VE A) = A:=by
 obtain ⟨h1,h2,h3⟩:=Rn h hn
 exact ⟨⟨⟨h1,by have:=(bI h1).1;rw [h3] at this;omega⟩,h2⟩,h3⟩
theorem pG {a b:List Sp} (ha:qM a) (hb:qM b) (ho:bC dK a = bC dV b) :
   IU (jR a b) /\ dO (jR a b) = dD (dO b) (dO a) /\ bC dV (jR a b) = bC dV a /\ bC dK (jR a b) = bC dK b /\
   aB.norm (lF ((aB.norm a).length + (aB.norm b).length) (aB.norm a) (aB.norm b)) = jR a b /\ bJ (lF ((aB.norm a).length + (aB.norm b).length) (aB.norm a) (aB.norm b)) /\
   bC dV (lF ((aB.norm a).length + (aB.norm b).length) (aB.norm a) (aB.norm b)) <= 1048576 /\ (lF ((aB.norm a).length + (aB.norm b).length) (aB.norm a) (aB.norm b)).length <= a.length + b.length /\
   dw (lF ((aB.norm a).length + (aB.norm b).length) (aB.norm a) (aB.norm b)) <= dw a + dw b /\ (jR a b).length <= a.length + b.length /\ dw (jR a b) <= dw a + dw b:=by
 obtain ⟨a1,a2,a3,a4,a5,a6,a7,a8⟩:=ha.norm
 obtain ⟨b1,b2,b3,b4,b5,b6,b7,b8⟩:=hb.norm
 have ma:=bI ha.all
 have mb:=bI hb.all
 have hm:bg (dO a) = bV (dO b):=by omega
 obtain ⟨i1,i2,i3,i4⟩:=rX _ _ _ (Nat.le_refl _) a1.all b1.all a8 b8 (by rw [a3,b3];exact hm)
 rw [a3,b3] at i1
 have hsz:=kP (fun _=>0) (dO b) (dO a) hm
 have hab:=ha.bnd
 obtain ⟨o1,o2⟩:=Ro (wZ _ _ (Em hb.all) (Em ha.all)) (by omega:bV (dD (dO b) (dO a)) <= 1048576)
 have hc:=bI i2
 rw [i1] at hc
 have hd:=bI o1.ops.all
 rw [o2] at hd
 have hbn:bC dV (lF ((aB.norm a).length + (aB.norm b).length) (aB.norm a) (aB.norm b)) <= 1048576:=by omega
 have he:aB.norm (lF ((aB.norm a).length + (aB.norm b).length) (aB.norm a) (aB.norm b)) = jR a b:=by rw [Nh i2 hbn,i1];rfl
 obtain ⟨n1,n2,n3,n4,n5⟩:=kX _ i2 hbn
 rw [he] at n1 n2 n3 n4 n5
 exact ⟨o1,o2,by show bC dV (VE _) = _;omega,by show bC dK (VE _) = _;omega,he,i2,hbn,by omega,by omega,by omega,by omega⟩
theorem FZ {a s:List Sp} (ha:qM a) (hs:qM s) (ho:bC dV a = bC dV s) (hb:bC dK s <= 1048576) :
   IU (qN a s) /\ dO (qN a s) = fP (dO s) (dO a) /\ bC dV (qN a s) = bC dK s /\
   aB.norm (lZ ((aB.norm a).length + (aB.norm s).length) (aB.norm a) (aB.norm s)) = qN a s /\ bJ (lZ ((aB.norm a).length + (aB.norm s).length) (aB.norm a) (aB.norm s)) /\
   bC dV (lZ ((aB.norm a).length + (aB.norm s).length) (aB.norm a) (aB.norm s)) <= 1048576 /\ (lZ ((aB.norm a).length + (aB.norm s).length) (aB.norm a) (aB.norm s)).length <= a.length + s.length /\
   dw (lZ ((aB.norm a).length + (aB.norm s).length) (aB.norm a) (aB.norm s)) <= dw a /\ (qN a s).length <= a.length + s.length /\ dw (qN a s) <= dw a:=by
 obtain ⟨a1,a2,a3,a4,a5,a6,a7,a8⟩:=ha.norm
 obtain ⟨b1,b2,b3,b4,b5,b6,b7,b8⟩:=hs.norm
 have ma:=bI ha.all
 have mb:=bI hs.all
 have hm:bV (dO a) = bV (dO s):=by omega
 obtain ⟨i1,i2,i3,i4⟩:=rY _ _ _ (Nat.le_refl _) a1.all b1.all a8 b8 (by rw [a3,b3];exact hm) (by rw [b3];omega)
 rw [a3,b3] at i1
 have hsz:=lX (fun _=>0) (dO s) (dO a) hm
 obtain ⟨o1,o2⟩:=Ro (xg _ _ (Em ha.all)) (by omega:bV (fP (dO s) (dO a)) <= 1048576)
 have hc:=bI i2
 rw [i1] at hc
 have hd:=bI o1.ops.all
 rw [o2] at hd
 have hbn:bC dV (lZ ((aB.norm a).length + (aB.norm s).length) (aB.norm a) (aB.norm s)) <= 1048576:=by omega
 have he:aB.norm (lZ ((aB.norm a).length + (aB.norm s).length) (aB.norm a) (aB.norm s)) = qN a s:=by rw [Nh i2 hbn,i1];rfl
 obtain ⟨n1,n2,n3,n4,n5⟩:=kX _ i2 hbn
 rw [he] at n1 n2 n3 n4 n5
 exact ⟨o1,o2,by show bC dV (VE _) = _;omega,he,i2,hbn,by omega,by omega,by omega,by omega⟩
end Go.Proofs.YtadlnaljicikfaaDoor.aB
