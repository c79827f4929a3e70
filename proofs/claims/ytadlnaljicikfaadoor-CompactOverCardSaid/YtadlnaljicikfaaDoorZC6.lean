/- A part of the proof: a calculus over values, and contracts of functions. No condition. -/
import Derived.Test.YtadlnaljicikfaaDoorZC5
set_option linter.unusedVariables false
set_option linter.unusedSimpArgs false
namespace Go.Proofs.YtadlnaljicikfaaDoor.aB
open Go
set_option maxRecDepth 100000
attribute [local irreducible] Ev.iE Ev.iG Ev.bW Ev.runK Ev.bY Ev.gq Ev.Side Ev.Wp Ev.Again Ev.To Ev.Fin
open Go.Lib Go.RowKit
theorem acW:∀ c,Tryd.f106.body = some c -> comp c = (.seq (.reg 0 [I.n 0 4 (I.si 0)]) (.seq (.reg 1 [I.n 0 5 (I.si 0)]) (.seq (.seq (.reg 2 [I.n 0 8 (I.mv 0),I.n 1 9 (I.ln 8 25),I.n 2 10 (.move (.const (Value.int .i64 0)))]) (.block 0 (.loop (.seq (.reg 3 [I.n 0 11 (I.bo .lss 3 10 9 3)]) (.seq (.cond (.tmp 11) .skip (.exit 0)) (.seq (.block 1 (.seq (.reg 4 [I.n 0 12 (I.mv 10),I.n 1 13 (I.ia 25 8 10),I.n 2 14 (I.ld 3 13),I.n 3 6 (I.sa 12),I.n 4 7 (I.sa 14)]) (.seq (.seq (.reg 5 [I.n 0 15 (I.mv 7),I.n 1 16 (I.mv 1),I.n 2 17 (I.bo .gtr 3 15 16 3)]) (.cond (.tmp 17) (.exit 0) .skip)) (.reg 6 [I.n 0 18 (I.mv 6),I.n 1 5 (I.sa 18)])))) (.reg 7 [I.n 0 19 (I.bc .add 3 10 1 3),I.n 1 10 (I.mv 19)]))))))) (.seq (.reg 8 [I.n 0 20 (I.mv 5),I.n 1 4 (I.sa 20)]) .ret)))):=by
 intro c h
 have:c = Tryd.f106.body.get rfl:=by rw [<- Option.some_inj,<- h];rfl
 rw [this];rfl
def Ap (rs:List Int) (f:Int):Nat:=(rs.takeWhile (fun r=>decide (r <= f))).length
def dh (rs:List Int) (f:Int):Nat:=Ap rs f - 1
theorem JU {f:Int}:∀ (rs:List Int) (i:Nat),i <= rs.length -> (∀ x ∈ rs.take i,x <= f) -> (∀ h:i < rs.length,¬ rs[i] <= f) -> (rs.takeWhile (fun r=>decide (r <= f))).length = i
 | [],i,h,_,_=>by simp at h;subst h;rfl
 | r :: rs,0,_,_,h=>by
   have:¬ r <= f:=h (by simp)
   rw [List.takeWhile_cons,if_neg (by simpa using this)];rfl
 | r :: rs,i + 1,h,ha,hn=>by
   have h1:r <= f:=ha r (by simp)
   rw [List.takeWhile_cons,if_pos (by simpa using h1),List.length_cons,JU rs i (by simpa using h) (fun x hx=>ha x (by simp [hx])) (fun h'=>hn (by simpa using h'))]
theorem aas{G:Prop}(h:G:=by (repeat' (first | (with_reducible refine Ev.aV hii ?_) | (with_reducible refine Ev.aP hii ?_) | refine' Ev.zP | refine' Ev.zS | refine' Ev.zK | refine' Ev.zT | fail));all_goals(rcases(⟨_⟩:PLift _)with⟨h⟩;exact h)):G:=h
theorem adn{G:Prop}(h:G:=by (obtain ⟨k',rfl⟩:∃ k',k = k' + 1:=⟨k - 1,by omega⟩);all_goals(rcases(⟨_⟩:PLift _)with⟨h⟩;exact h)):G:=h
theorem FB (rs:List Int) (f:Int) (hl:rs.length <= 100000000):aA env 106 [.lst 1 (ints rs),.v (.int .i64 f)] (fun r hs=>r = .v (.int .i64 (dh rs f)) /\ hs = []):=by
 have hil:=bP rs
 refine Ev.fn [0,1,4,5,6,7,8,9,10,11,17] 0 [.tmp 4] Tryd.func106 (acW _ rfl) ?_
 refine' Ev.zV
 refine Ev.loop (fun k s=>∃ (i c:Nat),s = ⟨[(1,.v (.int .i64 f)),(5,.v (.int .i64 ((i - 1:Nat):Int))),(8,.lst 1 (ints rs)),(9,.v (.int .i64 rs.length)),(10,.v (.int .i64 i))],[],c⟩ /\ k + i = rs.length /\ ∀ x ∈ rs.take i,x <= f) ?_ ?_
 · refine Ev.zB ⟨rs.length,0,?_,rfl,?_⟩
   exact ⟨by omega,by simp⟩
 rintro k s1 ⟨i,c,rfl,hk,hf⟩
 by_cases hi:i < rs.length
 · have hii:(i:Int) < (rs.length:Int):=by omega
   refine' adn
   by_cases hr:rs[i] <= f
   · have hrr:¬ f < rs[i]:=by omega
     repeat' (first | (with_reducible refine Ev.aV hrr ?_) | (with_reducible refine Ev.aP hrr ?_) | (with_reducible refine Ev.aK hii ?_) | (with_reducible refine Ev.aJ hii ?_) | refine' Ev.zP | refine' Ev.zS | refine' Ev.zK | refine' Ev.zT | fail)
     refine Ev.zA (k') ⟨i + 1,?_,rfl,?_⟩
     refine ⟨by omega,fun x hx=>?_⟩
     rw [List.take_succ_eq_append_getElem hi] at hx
     rcases List.mem_append.1 hx with hx | hx
     · exact hf x hx
     · simp at hx;subst hx;exact hr
   · have hrr:f < rs[i]:=by omega
     repeat' (first | (with_reducible refine Ev.aK hrr ?_) | (with_reducible refine Ev.aJ hrr ?_) | (with_reducible refine Ev.aK hii ?_) | (with_reducible refine Ev.aJ hii ?_) | refine' Ev.zP | refine' Ev.zS | refine' Ev.zK | refine' Ev.zT | fail)
     unfold dh Ap
     rw [JU rs i (by omega) hf (fun _=>hr)]
     exact ⟨rfl,rfl⟩
 · have hii:¬ (i:Int) < (rs.length:Int):=by omega
   refine' aas
   unfold dh Ap
   rw [JU rs i (by omega) hf (fun h=>absurd h hi)]
   exact ⟨rfl,rfl⟩
theorem ajg:∀ c,Tryd.f64.body = some c -> comp c = (.seq (.reg 0 [I.n 0 3 (.box 3 (.tmp 1)),I.n 1 4 (I.si 0),I.n 2 5 (I.si 0),I.n 3 6 (I.si 0)]) (.seq (.reg 1 [I.n 0 9 (I.mv 0),I.n 1 10 (I.ln 9 25),I.n 2 7 (I.sa 10)]) (.seq (.reg 2 [I.n 0 11 (I.mv 0),I.n 1 12 (.makeFunc (.func 115) #[] #[.tmp 3]),I.n 2 13 (I.c2 114 11 12 25 109),I.n 3 8 (I.sa 13)]) (.seq (.seq (.reg 3 [I.n 0 14 (I.mv 8),I.n 1 15 (I.bc .lss 3 14 0 3)]) (.cond (.tmp 15) (.reg 4 [I.n 0 16 (I.mv 7),I.n 1 8 (I.sa 16)]) .skip)) (.seq (.block 0 (.seq (.seq (.reg 5 [I.n 0 18 (I.mv 7),I.n 1 19 (I.bc .eql 3 18 0 3),I.n 2 17 (I.sa 19)]) (.cond (.tmp 17) .skip (.draw 6 [I.n 0 20 (I.mv 8),I.n 1 21 (I.mv 7),I.n 2 22 (I.bo .eql 3 20 21 3),I.n 3 23 (I.mv 22),I.w 4 24 (I.mv 0) 23 true,I.w 5 25 (I.mv 7) 23 true,I.w 6 26 (I.bc .sub 3 25 1 3) 23 true,I.w 7 27 (I.ia 25 24 26) 23 true,I.w 8 28 (I.ld 3 27) 23 true,I.w 9 29 (I.ld 3 3) 23 true,I.w 10 30 (I.bo .neq 3 28 29 3) 23 true,I.n 11 31 (I.pc 23 30 false),I.n 12 17 (I.sa 31)] [[],[],[0,1],[2],[3],[3],[5,3],[4,6,3],[7,3],[3],[8,9,3],[3,10],[11,3]]))) (.cond (.tmp 17) (.seq (.reg 7 [I.n 0 4 (I.si 0),I.n 1 5 (I.si 0),I.n 2 6 (I.si 6)]) .ret) (.seq (.reg 8 [I.n 0 33 (I.mv 8),I.n 1 34 (I.bc .eql 3 33 0 3),I.n 2 32 (I.sa 34)]) (.cond (.tmp 32) (.seq (.reg 9 [I.n 0 4 (I.si 0),I.n 1 5 (I.si 0),I.n 2 6 (I.si 11)]) .ret) .skip))))) (.seq (.reg 10 [I.n 0 35 (I.mv 8),I.n 1 36 (I.bc .sub 3 35 1 3),I.n 2 4 (I.sa 36)]) (.seq (.reg 11 [I.n 0 37 (I.mv 0),I.n 1 38 (I.mv 4),I.n 2 39 (I.ia 25 37 38),I.n 3 40 (I.ld 3 39),I.n 4 5 (I.sa 40)]) (.seq (.seq (.reg 12 [I.n 0 41 (I.mv 5),I.n 1 42 (I.ld 3 3),I.n 2 43 (I.bo .neq 3 41 42 3)]) (.cond (.tmp 43) (.reg 13 [I.n 0 6 (I.si 10)]) .skip)) (.seq (.reg 14 [I.n 0 44 (I.mv 4),I.n 1 45 (I.mv 5),I.n 2 46 (I.mv 6),I.n 3 4 (I.sa 44),I.n 4 5 (I.sa 45),I.n 5 6 (I.sa 46)]) .ret))))))))):=by
 intro c h
 have:c = Tryd.f64.body.get rfl:=by rw [<- Option.some_inj,<- h];rfl
 rw [this];rfl
theorem Ee:∀ c,Tryd.f115.body = some c -> comp c = (.seq (.reg 0 [I.n 0 3 (I.sb false)]) (.seq (.reg 1 [I.n 0 4 (I.mv 0),I.n 1 5 (I.ld 3 1),I.n 2 6 (I.bo .gtr 3 4 5 3),I.n 3 3 (I.sa 6)]) .ret)):=by
 intro c h
 have:c = Tryd.f115.body.get rfl:=by rw [<- Option.some_inj,<- h];rfl
 rw [this];rfl
theorem acX:∀ c,Tryd.f114.body = some c -> comp c = (.seq (.reg 0 [I.n 0 4 (I.si 0)]) (.seq (.seq (.reg 1 [I.n 0 6 (I.mv 0),I.n 1 7 (I.ln 6 25),I.n 2 8 (.move (.const (Value.int .i64 0)))]) (.block 0 (.loop (.seq (.reg 2 [I.n 0 9 (I.bo .lss 3 8 7 3)]) (.seq (.cond (.tmp 9) .skip (.exit 0)) (.seq (.block 1 (.seq (.reg 3 [I.n 0 10 (I.mv 8),I.n 1 5 (I.sa 10)]) (.seq (.reg 4 [I.n 0 11 (I.mv 1),I.n 1 12 (I.mv 0),I.n 2 13 (I.mv 5),I.n 3 14 (I.ia 25 12 13),I.n 4 15 (I.ld 3 14),I.n 5 16 (.call { callee:=.value (.tmp 11),args:=#[.tmp 15],argTypes:=#[3] })]) (.cond (.tmp 16) (.seq (.reg 5 [I.n 0 17 (I.mv 5),I.n 1 4 (I.sa 17)]) .ret) .skip)))) (.reg 6 [I.n 0 18 (I.bc .add 3 8 1 3),I.n 1 8 (I.mv 18)]))))))) (.seq (.reg 7 [I.n 0 4 (.assign (.const (Value.int .i64 (-1))))]) .ret))):=by
 intro c h
 have:c = Tryd.f114.body.get rfl:=by rw [<- Option.some_inj,<- h];rfl
 rw [this];rfl
theorem acY:∀ c,Tryd.f150.body = some c -> comp c = (.seq (.reg 0 [I.n 0 4 (I.si 0)]) (.seq (.reg 1 [I.n 0 5 (I.si 0)]) (.seq (.seq (.reg 2 [I.n 0 6 (I.si 0)]) (.block 0 (.loop (.seq (.seq (.reg 3 [I.n 0 7 (I.mv 6),I.n 1 8 (I.mv 0),I.n 2 9 (I.ln 8 25),I.n 3 10 (I.bo .lss 3 7 9 3)]) (.cond (.tmp 10) .skip (.exit 0))) (.seq (.block 1 (.seq (.reg 5 [I.n 0 13 (I.mv 0),I.n 1 14 (I.mv 6),I.n 2 15 (I.ia 25 13 14),I.n 3 16 (I.ld 3 15),I.n 4 17 (I.mv 1),I.n 5 18 (I.bo .leq 3 16 17 3)]) (.cond (.tmp 18) (.reg 6 [I.n 0 19 (I.mv 6),I.n 1 5 (I.sa 19)]) .skip))) (.reg 4 [I.n 0 11 (I.mv 6),I.n 1 12 (I.bc .add 3 11 1 3),I.n 2 6 (I.sa 12)])))))) (.seq (.reg 7 [I.n 0 20 (I.mv 5),I.n 1 4 (I.sa 20)]) .ret)))):=by
 intro c h
 have:c = Tryd.f150.body.get rfl:=by rw [<- Option.some_inj,<- h];rfl
 rw [this];rfl
theorem acZ:∀ c,Tryd.f151.body = some c -> comp c = (.seq (.reg 0 [I.n 0 4 (I.sb false)]) (.seq (.seq (.reg 1 [I.n 0 5 (I.si 0)]) (.block 0 (.loop (.seq (.seq (.reg 2 [I.n 0 6 (I.mv 5),I.n 1 7 (I.mv 0),I.n 2 8 (I.ln 7 25),I.n 3 9 (I.bo .lss 3 6 8 3)]) (.cond (.tmp 9) .skip (.exit 0))) (.seq (.block 1 (.seq (.reg 4 [I.n 0 12 (I.mv 0),I.n 1 13 (I.mv 5),I.n 2 14 (I.ia 25 12 13),I.n 3 15 (I.ld 3 14),I.n 4 16 (I.mv 1),I.n 5 17 (I.bo .eql 3 15 16 3)]) (.cond (.tmp 17) (.seq (.reg 5 [I.n 0 4 (I.sb true)]) .ret) .skip))) (.reg 3 [I.n 0 10 (I.mv 5),I.n 1 11 (I.bc .add 3 10 1 3),I.n 2 5 (I.sa 11)])))))) (.seq (.reg 6 [I.n 0 4 (I.sb false)]) .ret))):=by
 intro c h
 have:c = Tryd.f151.body.get rfl:=by rw [<- Option.some_inj,<- h];rfl
 rw [this];rfl
theorem adA:∀ c,Tryd.f108.body = some c -> comp c = (.seq (.reg 0 [I.n 0 6 I.sn]) (.seq (.reg 1 [I.n 0 10 (.buildSlice 25 0 #[]),I.n 1 7 (I.sa 10)]) (.seq (.reg 2 [I.n 0 11 (I.mv 0),I.n 1 12 (I.mv 2),I.n 2 13 (I.c2 150 11 12 25 3),I.n 3 8 (I.sa 13)]) (.seq (.seq (.reg 3 [I.n 0 14 (I.mv 8),I.n 1 9 (I.sa 14)]) (.block 0 (.loop (.seq (.seq (.reg 4 [I.n 0 15 (I.mv 9),I.n 1 16 (I.mv 0),I.n 2 17 (I.ln 16 25),I.n 3 18 (I.bo .lss 3 15 17 3)]) (.cond (.tmp 18) .skip (.exit 0))) (.seq (.block 1 (.seq (.reg 6 [I.n 0 21 (I.mv 9),I.n 1 22 (I.mv 8),I.n 2 23 (I.bo .eql 3 21 22 3),I.n 3 24 (I.mv 23),I.w 4 25 (I.mv 9) 24 false,I.w 5 26 (I.mv 0) 24 false,I.w 6 27 (I.ln 26 25) 24 false,I.w 7 28 (I.bc .sub 3 27 1 3) 24 false,I.w 8 29 (I.bo .eql 3 25 28 3) 24 false,I.n 9 30 (I.pb 24 true 29),I.n 10 31 (I.mv 30),I.w 11 32 (I.mv 1) 31 false,I.w 12 33 (I.mv 0) 31 false,I.w 13 34 (I.mv 9) 31 false,I.w 14 35 (I.ia 25 33 34) 31 false,I.w 15 36 (I.ld 3 35) 31 false,I.w 16 37 (I.c2 151 32 36 25 3) 31 false,I.n 17 38 (I.pb 31 true 37)]) (.cond (.tmp 38) (.reg 7 [I.n 0 39 (I.mv 7),I.n 1 40 (I.mv 0),I.n 2 41 (I.mv 9),I.n 3 42 (I.ia 25 40 41),I.n 4 43 (I.ld 3 42),I.n 5 44 (I.b1 25 43),I.n 6 45 (I.ap 39 44 25 25),I.n 7 7 (I.sa 45)]) .skip))) (.reg 5 [I.n 0 19 (I.mv 9),I.n 1 20 (I.bc .add 3 19 1 3),I.n 2 9 (I.sa 20)])))))) (.seq (.reg 8 [I.n 0 46 (I.mv 7),I.n 1 6 (I.sa 46)]) .ret))))):=by
 intro c h
 have:c = Tryd.f108.body.get rfl:=by rw [<- Option.some_inj,<- h];rfl
 rw [this];rfl
theorem adB:∀ c,Tryd.f109.body = some c -> comp c = (.seq (.reg 0 [I.n 0 4 (I.si 0),I.n 1 5 (I.si 0),I.n 2 6 (I.si 0)]) (.seq (.reg 1 [I.n 0 10 (I.mv 0),I.n 1 11 (I.ln 10 25),I.n 2 7 (I.sa 11)]) (.seq (.seq (.reg 2 [I.n 0 12 (I.mv 7),I.n 1 13 (I.bc .eql 3 12 0 3),I.n 2 14 (I.mv 13),I.w 3 15 (I.mv 1) 14 false,I.w 4 16 (I.mv 0) 14 false,I.w 5 17 (I.mv 7) 14 false,I.w 6 18 (I.bc .sub 3 17 1 3) 14 false,I.w 7 19 (I.ia 25 16 18) 14 false,I.w 8 20 (I.ld 3 19) 14 false,I.w 9 21 (I.bo .gtr 3 15 20 3) 14 false,I.n 10 22 (I.pb 14 true 21)]) (.cond (.tmp 22) (.seq (.reg 3 [I.n 0 4 (I.si 0),I.n 1 5 (I.si 0),I.n 2 6 (I.si 6)]) .ret) .skip)) (.seq (.seq (.reg 4 [I.n 0 23 (I.mv 1),I.n 1 24 (I.mv 0),I.n 2 25 (I.ic 25 24 0),I.n 3 26 (I.ld 3 25),I.n 4 27 (I.bo .lss 3 23 26 3)]) (.cond (.tmp 27) (.seq (.reg 5 [I.n 0 4 (I.si 0),I.n 1 5 (I.si 0),I.n 2 6 (I.si 11)]) .ret) .skip)) (.seq (.reg 6 [I.n 0 8 (I.si 0)]) (.seq (.seq (.reg 7 [I.n 0 9 (I.si 0)]) (.block 0 (.loop (.seq (.seq (.reg 8 [I.n 0 28 (I.mv 9),I.n 1 29 (I.mv 7),I.n 2 30 (I.bo .lss 3 28 29 3)]) (.cond (.tmp 30) .skip (.exit 0))) (.seq (.block 1 (.seq (.reg 10 [I.n 0 33 (I.mv 0),I.n 1 34 (I.mv 9),I.n 2 35 (I.ia 25 33 34),I.n 3 36 (I.ld 3 35),I.n 4 37 (I.mv 1),I.n 5 38 (I.bo .leq 3 36 37 3)]) (.cond (.tmp 38) (.reg 11 [I.n 0 39 (I.mv 9),I.n 1 8 (I.sa 39)]) .skip))) (.reg 9 [I.n 0 31 (I.mv 9),I.n 1 32 (I.bc .add 3 31 1 3),I.n 2 9 (I.sa 32)])))))) (.seq (.seq (.reg 12 [I.n 0 40 (I.mv 0),I.n 1 41 (I.mv 8),I.n 2 42 (I.ia 25 40 41),I.n 3 43 (I.ld 3 42),I.n 4 44 (I.mv 1),I.n 5 45 (I.bo .eql 3 43 44 3)]) (.cond (.tmp 45) (.seq (.reg 13 [I.n 0 46 (I.mv 8),I.n 1 47 (I.mv 1),I.n 2 4 (I.sa 46),I.n 3 5 (I.sa 47),I.n 4 6 (I.si 0)]) .ret) .skip)) (.seq (.draw 14 [I.n 0 48 (I.mv 8),I.n 1 49 (I.mv 0),I.n 2 50 (I.mv 8),I.n 3 51 (I.ia 25 49 50),I.n 4 52 (I.ld 3 51),I.n 5 4 (I.sa 48),I.n 6 5 (I.sa 52),I.n 7 6 (I.si 10)] [[],[],[],[1,2],[3],[0,0],[4,5,0,1,2,3,4,5],[6,0,1,2,3,4,5,6]]) .ret)))))))):=by
 intro c h
 have:c = Tryd.f109.body.get rfl:=by rw [<- Option.some_inj,<- h];rfl
 rw [this];rfl
theorem vO {rs:List Int} {r:Int} {i:Nat} (hi:i <= rs.length) (hf:∀ x ∈ rs.take i,x <= r) (hn:∀ h:i < rs.length,¬ rs[i] <= r):Ap rs r = i:=JU rs i hi hf hn
theorem uo (rs:List Int) (r:Int):Ap rs r <= rs.length:=(List.takeWhile_sublist _).length_le
def JV (rs:List Int) (r:Int):Int × Int × Int :=
 if rs.length = 0 ∨ (Ap rs r = rs.length /\ rs.getD (rs.length - 1) 0 ≠ r) then (0,0,6) else if Ap rs r = 0 then (0,0,11) else (((Ap rs r - 1:Nat):Int),rs.getD (Ap rs r - 1) 0,if rs.getD (Ap rs r - 1) 0 = r then 0 else 10)
def tri (x:Int × Int × Int):AV:=.dB [.v (.int .i64 x.1),.v (.int .i64 x.2.1),.v (.int .i64 x.2.2)]
theorem wV {rs:List Int} {r:Int} (h:rs.length = 0 ∨ (Ap rs r = rs.length /\ rs.getD (rs.length - 1) 0 ≠ r)):JV rs r = (0,0,6):=if_pos h
theorem QJ {rs:List Int} {r:Int} (h:0 < rs.length) (h0:Ap rs r = 0):JV rs r = (0,0,11):=by
 unfold JV;rw [if_neg (by omega),if_pos h0]
theorem PV {rs:List Int} {r:Int} {m:Nat} (hm:0 < m) (hab:Ap rs r = m) (h:m < rs.length ∨ rs.getD (m - 1) 0 = r):JV rs r = (((m - 1:Nat):Int),rs.getD (m - 1) 0,if rs.getD (m - 1) 0 = r then 0 else 10):=by
 have:=uo rs r
 unfold JV;rw [hab,if_neg (by rintro (h1 | ⟨h1,h2⟩);omega;rcases h with h | h;omega;rw [h1] at h;exact h2 h),if_neg (by omega)]
theorem Aq {rs:List Int} {N:Int} {m:Nat} (hN:N = m) (hm:0 < m /\ m <= 1000000000) (h:(IntKind.i64.wrap (N - 1)).toNat < rs.length):rs[(IntKind.i64.wrap (N - 1)).toNat] = rs.getD (m - 1) 0:=by
 subst hN
 have e:IntKind.i64.wrap ((m:Int) - 1) = ((m - 1:Nat):Int):=by rw [aU (by omega)];omega
 have e2:(IntKind.i64.wrap ((m:Int) - 1)).toNat = m - 1:=by rw [e];rfl
 rw [List.getD_eq_getElem?_getD,<- e2,List.getElem?_eq_getElem h];rfl
theorem JW {rs:List Int} {r:Int} {N e:Int} {m:Nat} (hab:Ap rs r = m) (hN:N = m) (hm:0 < m /\ m <= 1000000000) (h:(IntKind.i64.wrap (N - 1)).toNat < rs.length) (hl:m < rs.length ∨ rs[(IntKind.i64.wrap (N - 1)).toNat] = r)
   (he:(if rs[(IntKind.i64.wrap (N - 1)).toNat] = r then 0 else 10) = e):AV.dB [.v (.int .i64 (IntKind.i64.wrap (N - 1))),.v (.int .i64 (rs[(IntKind.i64.wrap (N - 1)).toNat])),.v (.int .i64 e)] = tri (JV rs r):=by
 have e1:=Aq hN hm h
 rw [e1] at hl he ⊢
 rw [PV hm.1 hab hl,he,hN,aU (by omega),show (m:Int) - 1 = ((m - 1:Nat):Int) by omega];rfl
set_option maxHeartbeats 1000000 in
theorem U5 (rs:List Int) (r:Int) (hl:rs.length <= 100000000):aA env 64 [.lst 1 (ints rs),.v (.int .i64 r)] (fun x hs=>x = tri (JV rs r) /\ hs = []):=by
  have hil:=bP rs
  refine Ev.fn [0,1,3,4,5,6,7,8,15,17,32,43] 0 [.tmp 4,.tmp 5,.tmp 6] Tryd.func64 (ajg _ rfl) ?_
  repeat' (first | refine' Ev.zS | ((with_reducible refine Ev.kr (hs:=[114,115]) (fun Q hQ=>?_));refine' Ev.zR) | ((with_reducible refine Ev.Ac 114 ?_);refine Ev.il 114 [0,1,4,5,7,8,9,16] [.tmp 4] Tryd.func114 (acX _ rfl) (fun bF=>?_)) | ((with_reducible refine Ev.Ac 115 ?_);refine Ev.il 115 [0,1,3] [.tmp 3] Tryd.func115 (Ee _ rfl) (fun bF=>?_)) | ((with_reducible refine Ev.dG ?_);(first | refine Ev.dr 6 [114,115] [0,1,2,3,4,5,9,6,7,8,10,11,12] ?_);intro Q hQ;(simp only [Ev.ak,Ev.au]);conv=>whnf) | refine' Ev.zT | fail)
  refine Ev.loop (fun k s=>∃ (i c:Nat),s = ⟨[(0,.lst 1 (ints rs)),(1,.clo (.func 115) [] [.ptr 0 0 0 0]),(7,.v (.int .i64 rs.length)),(8,.v (.int .i64 i))],[(0,⟨1,3,0,0,true,[[.v (.int .i64 r)]]⟩)],c⟩ /\ k + i = rs.length /\ ∀ x ∈ rs.take i,x <= r) ?_ ?_
  · refine Ev.zB ⟨rs.length,0,?_,rfl,?_⟩
    exact ⟨by omega,by simp⟩
  rintro k s1 ⟨i,c,rfl,hk,hf⟩
  by_cases hi:i < rs.length
  · have hii:(i:Int) < (rs.length:Int):=by omega
    obtain ⟨k',rfl⟩:∃ k',k = k' + 1:=⟨k - 1,by omega⟩
    by_cases hr:rs[i] <= r
    · have hrr:¬ r < rs[i]:=by omega
      repeat' (first | (with_reducible first | refine Ev.aK hrr ?_ | refine Ev.aV hrr ?_ | refine Ev.aJ hrr ?_ | refine Ev.aP hrr ?_) | (with_reducible first | refine Ev.aK hii ?_ | refine Ev.aV hii ?_ | refine Ev.aJ hii ?_ | refine Ev.aP hii ?_) | refine' Ev.zP | refine' Ev.zS | ((with_reducible refine Ev.kr (hs:=[115]) (fun Q hQ=>?_));refine' Ev.zR) | ((with_reducible refine Ev.Ac 115 ?_);refine Ev.il 115 [0,1,3] [.tmp 3] Tryd.func115 (Ee _ rfl) (fun bF=>?_)) | ((with_reducible refine Ev.dG ?_);(first | refine Ev.dr 6 [115] [0,1,2,3,4,5,9,6,7,8,10,11,12] ?_);intro Q hQ;(simp only [Ev.ak,Ev.au]);conv=>whnf) | refine' Ev.zT | fail)
      refine Ev.zA (k') ⟨i + 1,?_,rfl,?_⟩
      refine ⟨by omega,fun x hx=>?_⟩
      rw [List.take_succ_eq_append_getElem hi] at hx
      rcases List.mem_append.1 hx with hx | hx
      · exact hf x hx
      · simp at hx;subst hx;exact hr
    · have hrr:r < rs[i]:=by omega
      have hab:=vO (Nat.le_of_lt hi) hf (fun _=>hr)
      have f1:¬ (i:Int) < 0:=by omega
      have f2:¬ ((ints rs).length:Int) = 0:=by omega
      have f3:¬ (i:Int) = ((ints rs).length:Int):=by omega
      repeat' (first | (with_reducible first | refine Ev.aK hrr ?_ | refine Ev.aV hrr ?_ | refine Ev.aJ hrr ?_ | refine Ev.aP hrr ?_) | (with_reducible first | refine Ev.aK hii ?_ | refine Ev.aV hii ?_ | refine Ev.aJ hii ?_ | refine Ev.aP hii ?_) | (with_reducible first | refine Ev.aK f1 ?_ | refine Ev.aV f1 ?_ | refine Ev.aJ f1 ?_ | refine Ev.aP f1 ?_) | (with_reducible first | refine Ev.aK f2 ?_ | refine Ev.aV f2 ?_ | refine Ev.aJ f2 ?_ | refine Ev.aP f2 ?_) | (with_reducible first | refine Ev.aK f3 ?_ | refine Ev.aV f3 ?_ | refine Ev.aJ f3 ?_ | refine Ev.aP f3 ?_) | refine' Ev.zP | refine' Ev.zS | ((with_reducible refine Ev.kr (hs:=[115]) (fun Q hQ=>?_));refine' Ev.zR) | ((with_reducible refine Ev.Ac 115 ?_);refine Ev.il 115 [0,1,3] [.tmp 3] Tryd.func115 (Ee _ rfl) (fun bF=>?_)) | ((with_reducible refine Ev.dG ?_);(first | refine Ev.dr 6 [115] [0,1,2,3,4,5,9,6,7,8,10,11,12] ?_);intro Q hQ;(simp only [Ev.ak,Ev.au]);conv=>whnf) | refine' Ev.zT | fail)
      · exact ⟨by rw [QJ (by omega) (by omega)];rfl,rfl⟩
      · exact ⟨JW hab rfl (by omega) _ (.inl (by assumption)) (if_pos (by assumption)),rfl⟩
      · exact ⟨JW hab rfl (by omega) _ (.inl (by assumption)) (if_neg (by assumption)),rfl⟩
      · refine Ev.Side.of ?_
        show (IntKind.i64.wrap ((i:Int) - 1)).toNat < _
        rw [aU (by omega)];omega
  · have hii:¬ (i:Int) < (rs.length:Int):=by omega
    have hab:=vO (by omega) hf (fun h=>absurd h hi)
    have f3:((ints rs).length:Int) = ((ints rs).length:Int):=rfl
    repeat' (first | (with_reducible first | refine Ev.aK hii ?_ | refine Ev.aV hii ?_ | refine Ev.aJ hii ?_ | refine Ev.aP hii ?_) | (with_reducible first | refine Ev.aK f3 ?_ | refine Ev.aV f3 ?_ | refine Ev.aJ f3 ?_ | refine Ev.aP f3 ?_) | refine' Ev.zP | refine' Ev.zS | ((with_reducible refine Ev.kr (hs:=[115]) (fun Q hQ=>?_));refine' Ev.zR) | ((with_reducible refine Ev.Ac 115 ?_);refine Ev.il 115 [0,1,3] [.tmp 3] Tryd.func115 (Ee _ rfl) (fun bF=>?_)) | ((with_reducible refine Ev.dG ?_);(first | refine Ev.dr 6 [115] [0,1,2,3,4,5,9,6,7,8,10,11,12] ?_);intro Q hQ;(simp only [Ev.ak,Ev.au]);conv=>whnf) | refine' Ev.zT | fail)
    all_goals first
      | exact ⟨by rw [wV (.inl (by omega))];rfl,rfl⟩
      | exact ⟨JW hab (by omega) (by omega) _ (.inr (by assumption)) (if_pos (by assumption)),rfl⟩
      | (exfalso;omega)
      | (refine Ev.Side.of ?_;show (IntKind.i64.wrap (((ints rs).length:Int) - 1)).toNat < _;rw [aU (by omega)];omega)
      | (rename_i h;refine ⟨?_,rfl⟩;rw [wV (.inr ⟨by omega,fun h'=>h ((Aq (by omega) (by omega) _).trans h')⟩)];rfl)
      | skip
theorem X0 (rs:List Int) (x f:Int):Ap (rs ++ [x]) f = if Ap rs f = rs.length /\ x <= f then rs.length + 1 else Ap rs f:=by
 unfold Ap
 induction rs with
 | nil=>by_cases h:x <= f <;> simp [List.takeWhile,h]
 | cons r rs ih =>
   rw [List.cons_append,List.takeWhile_cons,List.takeWhile_cons]
   by_cases h:r <= f
   · simp only [h,decide_true,if_true,List.length_cons];rw [ih];split <;> split <;> omega
   · simp [h]
theorem QK {rs:List Int} (hs:rs.Pairwise (· < ·)) (f:Int) (i:Nat) (hi:i < rs.length):(rs[i] <= f -> dh (rs.take (i + 1)) f = i) /\ (¬ rs[i] <= f -> dh (rs.take (i + 1)) f = dh (rs.take i) f):=by
 unfold dh
 rw [List.take_succ_eq_append_getElem hi,X0]
 refine ⟨fun h=>?_,fun h=>by rw [if_neg (fun h'=>h h'.2)]⟩
 rw [if_pos]
 · rw [List.length_take];omega
 · refine ⟨vO (Nat.le_refl _) (fun x hx=>?_) (fun h=>absurd h (Nat.lt_irrefl _)),h⟩
   rw [List.take_length] at hx
   obtain ⟨j,hj,rfl⟩:=List.getElem_of_mem hx
   rw [List.getElem_take]
   rw [List.length_take] at hj
   have:=List.pairwise_iff_getElem.1 hs j i (by omega) hi (by omega)
   omega
theorem ab5{G:Prop}(h:G:=by
 refine Ev.zA (k - 1) ⟨i + 1,?_,rfl,?_⟩ (by refine' Ev.zp <;> first | (first | exact wrap_succ (by omega) | (rw [(hst i (by omega)).1 (by assumption)];done) | rfl) | rfl | (refine' Ev.ze;(first | exact wrap_succ (by omega) | (rw [(hst i (by omega)).1 (by assumption)];done) | rfl)) | fail)
 omega):G:=h
theorem ace{G:Prop}(h:G:=by
 refine Ev.zA (k - 1) ⟨i + 1,?_,rfl,?_⟩ (by refine' Ev.zp <;> first | (first | exact wrap_succ (by omega) | (rw [(hst i (by omega)).2 (by assumption)];done) | rfl) | rfl | (refine' Ev.ze;(first | exact wrap_succ (by omega) | (rw [(hst i (by omega)).2 (by assumption)];done) | rfl)) | fail)
 omega):G:=h
theorem GI (rs:List Int) (f:Int) (hl:rs.length <= 100000000) (hs:rs.Pairwise (· < ·)):aA env 150 [.lst 1 (ints rs),.v (.int .i64 f)] (fun r hs=>r = .v (.int .i64 (dh rs f)) /\ hs = []):=by
 have hil:=bP rs
 have hst:=QK hs f
 refine Ev.fn [0,1,4,5,6,10,18] 0 [.tmp 4] Tryd.func150 (acY _ rfl) ?_
 refine' Ev.zW
 refine Ev.loop (fun k s=>∃ (i c:Nat),s = ⟨[(0,.lst 1 (ints rs)),(1,.v (.int .i64 f)),(5,.v (.int .i64 (dh (rs.take i) f:Nat))),(6,.v (.int .i64 i))],[],c⟩ /\ k + i = rs.length) ?_ ?_
 · refine Ev.zB ⟨rs.length,0,?_,rfl,?_⟩
   omega
 rintro k s1 ⟨i,c,rfl,hk⟩
 refine' Ev.zW
 · refine' ab5
 · refine' ace
 · rw [List.take_of_length_le (by omega)];exact ⟨rfl,rfl⟩
theorem PW (l:List Int) (n:Int) (hl:l.length <= 100000000):aA env 151 [.lst 1 (ints l),.v (.int .i64 n)] (fun r hs=>r = .v (.bool (decide (n ∈ l))) /\ hs = []):=by
 have hil:=bP l
 refine Ev.fn [0,1,4,5,9,17] 0 [.tmp 4] Tryd.func151 (acZ _ rfl) ?_
 refine' Ev.zW
 refine Ev.loop (fun k s=>∃ (i c:Nat),s = ⟨[(0,.lst 1 (ints l)),(1,.v (.int .i64 n)),(5,.v (.int .i64 i))],[],c⟩ /\ k + i = l.length /\ n ∉ l.take i) ?_ ?_
 · refine Ev.zB ⟨l.length,0,?_,rfl,?_⟩
   exact ⟨by omega,by simp⟩
 rintro k s1 ⟨i,c,rfl,hk,hn⟩
 refine' Ev.zW
 · rename_i h
   rw [decide_eq_true (by rw [<- h];exact List.getElem_mem _)];exact ⟨rfl,rfl⟩
 · rename_i hi h
   refine Ev.zA (k - 1) ⟨i + 1,?_,rfl,?_⟩
   refine ⟨by omega,fun hx=>?_⟩
   rw [List.take_succ_eq_append_getElem (by omega)] at hx
   rcases List.mem_append.1 hx with hx | hx
   · exact hn hx
   · simp at hx;exact h hx.symm
 · rw [List.take_of_length_le (by omega)] at hn
   rw [decide_eq_false hn];exact ⟨rfl,rfl⟩
theorem X3 {rs:List Int} {r:Int} (hs:rs.Pairwise (· < ·)) (h:rs.getD (rs.length - 1) 0 <= r):Ap rs r = rs.length:=by
 refine vO (Nat.le_refl _) (fun x hx=>?_) (fun h=>absurd h (Nat.lt_irrefl _))
 rw [List.take_length] at hx
 obtain ⟨j,hj,rfl⟩:=List.getElem_of_mem hx
 rw [List.getD_eq_getElem?_getD,List.getElem?_eq_getElem (by omega)] at h
 simp only [Option.getD_some] at h
 by_cases e:j = rs.length - 1
 · subst e;exact h
 · have:=List.pairwise_iff_getElem.1 hs j (rs.length - 1) hj (by omega) (by omega);omega
theorem X4 {rs:List Int} {r:Int} (h0:0 < rs.length) (h:Ap rs r = rs.length):rs.getD (rs.length - 1) 0 <= r:=by
 have:∀ (l:List Int),(l.takeWhile (fun x=>decide (x <= r))).length = l.length -> ∀ x ∈ l,x <= r:=by
   intro l
   induction l with
   | nil=>simp
   | cons a l ih =>
     rw [List.takeWhile_cons]
     by_cases ha:a <= r
     · simp only [ha,decide_true,if_true,List.length_cons]
       intro h x hx
       rcases List.mem_cons.1 hx with rfl | hx
       · exact ha
       · exact ih (by omega) x hx
     · simp [ha]
 rw [List.getD_eq_getElem?_getD,List.getElem?_eq_getElem (by omega)]
 exact this rs h _ (List.getElem_mem _)
theorem aa6{G:Prop}(h:G:=by
 refine Ev.fn [0,1,4,5,6,7,8,9,22,27,30,38,45] 0 [.tmp 4,.tmp 5,.tmp 6] Tryd.func109 (adB _ rfl) ?_
 repeat' (first | (with_reducible first | refine Ev.aK f0 ?_ | refine Ev.aV f0 ?_ | refine Ev.aJ f0 ?_ | refine Ev.aP f0 ?_) | refine' Ev.zS | refine' Ev.zK | ((with_reducible refine Ev.dG ?_);(first | refine Ev.dr 14 [] [0,1,2,3,4,5,6,7] ?_);intro Q hQ;(simp only [Ev.ak,Ev.au]);conv=>whnf) | refine' Ev.zT | fail)
 all_goals(rcases(⟨_⟩:PLift _)with⟨h⟩;exact h)):G:=h
theorem acj{G:Prop}(h:G:=by (repeat' (first | (with_reducible first | refine Ev.aK hii ?_ | refine Ev.aV hii ?_ | refine Ev.aJ hii ?_ | refine Ev.aP hii ?_) | refine' Ev.zS | refine' Ev.zK | ((with_reducible refine Ev.dG ?_);(first | refine Ev.dr 14 [] [0,1,2,3,4,5,6,7] ?_);intro Q hQ;(simp only [Ev.ak,Ev.au]);conv=>whnf) | refine' Ev.zT | fail));all_goals(rcases(⟨_⟩:PLift _)with⟨h⟩;exact h)):G:=h
theorem X5 (rs:List Int) (r:Int) (hl:rs.length <= 100000000) (hs:rs.Pairwise (· < ·)):aA env 109 [.lst 1 (ints rs),.v (.int .i64 r)] (fun x hs=>x = tri (JV rs r) /\ hs = []):=by
 have hil:=bP rs
 have hst:=QK hs r
 by_cases h0:rs.length = 0
 · have f0:((ints rs).length:Int) = 0:=by omega
   refine' aa6
   all_goals exact ⟨by rw [wV (.inl h0)];rfl,rfl⟩
 have f0:¬ ((ints rs).length:Int) = 0:=by omega
 refine' aa6
 · rename_i h
   have h1:=Aq (N:=((ints rs).length:Int)) (m:=rs.length) (by omega) (by omega) hi
   have h2:rs.getD (rs.length - 1) 0 < r:=by rw [<- h1];exact h
   exact ⟨by rw [wV (.inr ⟨X3 hs (by omega),by omega⟩)];rfl,rfl⟩
 · have h1:r < rs[0]:=by assumption
   exact ⟨by rw [QJ (by omega) (vO (Nat.zero_le _) (by simp) (fun h'=>by omega))];rfl,rfl⟩
 · rename_i hi0 h h2
   have h1:=Aq (N:=((ints rs).length:Int)) (m:=rs.length) (by omega) (by omega) hi0
   have h3:¬ rs.getD (rs.length - 1) 0 < r:=by rw [<- h1];exact h
   have hz:Ap rs r ≠ 0:=by
     intro hz
     cases rs with
     | nil=>simp at h0
     | cons a l =>
       have:¬ r < a:=h2
       unfold Ap at hz
       rw [List.takeWhile_cons,if_pos (by simp;omega)] at hz
       simp at hz
   have hle:=uo rs r
   have hfl:dh rs r = Ap rs r - 1:=rfl
   have hlt:Ap rs r < rs.length ∨ rs.getD (Ap rs r - 1) 0 = r:=by
     by_cases e:Ap rs r = rs.length
     · have:=X4 (by omega) e
       right;rw [e];omega
     · omega
   have hfr:=PV (m:=Ap rs r) (by omega) rfl hlt
   have hgd:∀ h:dh rs r < rs.length,rs.getD (Ap rs r - 1) 0 = rs[dh rs r]:=fun h=>by
     rw [List.getD_eq_getElem?_getD,<- hfl,List.getElem?_eq_getElem h];rfl
   refine Ev.loop (fun k s=>∃ (i c:Nat),s = ⟨[(0,.lst 1 (ints rs)),(1,.v (.int .i64 r)),(7,.v (.int .i64 rs.length)),(8,.v (.int .i64 (dh (rs.take i) r:Nat))),(9,.v (.int .i64 i))],[],c⟩ /\ k + i = rs.length) ?_ ?_
   · refine Ev.zB ⟨rs.length,0,?_,rfl,?_⟩
     omega
   rintro k s1 ⟨i,c,rfl,hk⟩
   by_cases hi:i < rs.length
   · have hii:(i:Int) < (rs.length:Int):=by omega
     refine' acj
     · refine' ab5
     · refine' ace
   · have hii:¬ (i:Int) < (rs.length:Int):=by omega
     rw [List.take_of_length_le (by omega)]
     refine' acj
     · have e:rs[dh rs r] = r:=by assumption
       rw [hfr,hgd (by omega),if_pos e,e];exact ⟨rfl,rfl⟩
     · have e:¬ rs[dh rs r] = r:=by assumption
       rw [hfr,hgd (by omega),if_neg e];exact ⟨rfl,rfl⟩
 · refine Ev.Side.of ?_
   show (IntKind.i64.wrap (((ints rs).length:Int) - 1)).toNat < _
   rw [aU (by omega)];omega
def Gs (rs set:List Int) (fr i:Nat):Bool:=decide (i = fr) || (decide (i = rs.length - 1) || decide (rs.getD i 0 ∈ set))
def uq (rs set:List Int) (fr i:Nat):List Nat:=((List.range i).drop fr).filter (Gs rs set fr)
def rC (rs:List Int) (K:List Nat):List Int:=K.map fun i=>rs.getD i 0
theorem X6 (rs set:List Int) {fr i:Nat} (h:fr <= i):uq rs set fr (i + 1) = if Gs rs set fr i = true then uq rs set fr i ++ [i] else uq rs set fr i:=by
 unfold uq
 rw [List.range_succ,List.drop_append_of_le_length (by simpa using h),List.filter_append]
 by_cases e:Gs rs set fr i = true
 · rw [if_pos e,List.filter_cons,if_pos e,List.filter_nil]
 · rw [if_neg e,List.filter_cons,if_neg e,List.filter_nil,List.append_nil]
theorem adC (rs:List Int) (K:List Nat) (i:Nat):rC rs (K ++ [i]) = rC rs K ++ [rs.getD i 0]:=by simp [rC]
theorem aav{G:Prop}(h:G:=by
 refine Ev.zA (k - 1) ⟨i + 1,?_,?_,rfl,?_⟩ (by refine' Ev.zp <;> first | (first | exact g1 | exact congrArg (fun e=>aG.mk 1 3 _ 0 false e) g2 | exact wrap_succ (by omega) | rfl) | rfl | (refine' Ev.ze;(first | exact g1 | exact congrArg (fun e=>aG.mk 1 3 _ 0 false e) g2 | exact wrap_succ (by omega) | rfl)) | fail)
 omega):G:=h
theorem abf{G:Prop}(h:G:=by (repeat' (first | (with_reducible first | refine Ev.aK hii ?_ | refine Ev.aV hii ?_ | refine Ev.aJ hii ?_ | refine Ev.aP hii ?_) | (with_reducible first | refine Ev.aK h1 ?_ | refine Ev.aV h1 ?_ | refine Ev.aJ h1 ?_ | refine Ev.aP h1 ?_) | (with_reducible first | refine Ev.aK h2 ?_ | refine Ev.aV h2 ?_ | refine Ev.aJ h2 ?_ | refine Ev.aP h2 ?_) | (with_reducible first | refine Ev.aK h3 ?_ | refine Ev.aV h3 ?_ | refine Ev.aJ h3 ?_ | refine Ev.aP h3 ?_) | refine' Ev.zS | refine' Ev.zK | ((with_reducible refine Ev.ca0 ?_);(first | refine Ev.aT (hI _) rfl rfl ?_ | refine Ev.ca (hI _) ?_);conv=>whnf) | refine' Ev.zT | fail));all_goals(rcases(⟨_⟩:PLift _)with⟨h⟩;exact h)):G:=h
theorem PX (rs set:List Int) (f:Int) (hl:rs.length <= 100000000) (hl2:set.length <= 100000000) (hs:rs.Pairwise (· < ·)):aA env 108 [.lst 1 (ints rs),.lst 1 (ints set),.v (.int .i64 f)] (fun r hs=>r = .lst 1 (ints (rC rs (uq rs set (dh rs f) rs.length))) /\ hs = []):=by
 have hil:=bP rs
 have hF:=GI rs f hl hs
 have hfl:dh rs f <= rs.length:=by have:=uo rs f;unfold dh;omega
 have hI:=fun n=>PW set n hl2
 generalize dh rs f = fr at hF hfl
 refine Ev.fn [0,1,2,6,7,8,9,18,38] 0 [.tmp 6] Tryd.func108 (adA _ rfl) ?_
 repeat' (first | refine' Ev.zS | refine' Ev.zK | ((with_reducible refine Ev.ca0 ?_);(first | refine Ev.ca (hF) ?_);conv=>whnf) | refine' Ev.zT | fail)
 refine Ev.loop (fun k s=>∃ (i c v:Nat),s = ⟨[(0,.lst 1 (ints rs)),(1,.lst 1 (ints set)),(7,.own 512 v 0 (uq rs set fr i).length),(8,.v (.int .i64 fr)),(9,.v (.int .i64 i))],[(512,⟨1,3,v,0,false,ints (rC rs (uq rs set fr i))⟩)],c⟩ /\ k + i = rs.length /\ fr <= i) ?_ ?_
 · have h0:uq rs set fr fr = []:=by unfold uq;rw [List.drop_of_length_le (by simp)];rfl
   refine Ev.zB ⟨rs.length - fr,fr,8,0,rfl,?_⟩ (by refine' Ev.zp <;> first | (first | (rw [h0];rfl) | rfl) | rfl | (refine' Ev.ze;(first | (rw [h0];rfl) | rfl)) | fail)
   omega
 rintro k s1 ⟨i,c,v,rfl,hk,hfi⟩
 have hln:(ints (rC rs (uq rs set fr i))).length = (uq rs set fr i).length:=by simp [rC]
 have hcap:(uq rs set fr i).length <= i:=by
   have h1:=List.length_filter_le (Gs rs set fr) ((List.range i).drop fr)
   have h2:((List.range i).drop fr).length <= i:=by rw [List.length_drop,List.length_range];omega
   exact Nat.le_trans h1 h2
 by_cases hi:i < rs.length
 · have hii:(i:Int) < ((ints rs).length:Int):=by omega
   have hs:=X6 rs set hfi
   have hg:rs.getD i 0 = rs[i]:=by rw [List.getD_eq_getElem?_getD,List.getElem?_eq_getElem hi];rfl
   have hyes:Gs rs set fr i = true -> (uq rs set fr i).length + 1 = (uq rs set fr (i + 1)).length /\ ints (rC rs (uq rs set fr i)) ++ [[.v (.int .i64 rs[i])]] = ints (rC rs (uq rs set fr (i + 1))):=fun h=>by
     rw [hs,if_pos h,adC,hg,List.length_append];exact ⟨rfl,by simp [ints]⟩
   have hno:¬ Gs rs set fr i = true -> uq rs set fr (i + 1) = uq rs set fr i:=fun h=>by rw [hs,if_neg h]
   have hw:IntKind.i64.wrap (((ints rs).length:Int) - 1) = ((rs.length - 1:Nat):Int):=by rw [aU (by omega)];omega
   by_cases h1:(i:Int) = fr
   · obtain ⟨g1,g2⟩:=hyes (by unfold Gs;rw [decide_eq_true (show i = fr by omega)];rfl)
     repeat' (first | (with_reducible first | refine Ev.aK hii ?_ | refine Ev.aV hii ?_ | refine Ev.aJ hii ?_ | refine Ev.aP hii ?_) | (with_reducible first | refine Ev.aK h1 ?_ | refine Ev.aV h1 ?_ | refine Ev.aJ h1 ?_ | refine Ev.aP h1 ?_) | refine' Ev.zS | refine' Ev.zK | ((with_reducible refine Ev.ca0 ?_);(first | refine Ev.aT (hI _) rfl rfl ?_ | refine Ev.ca (hI _) ?_);conv=>whnf) | refine' Ev.zT | fail)
     · refine' aav
   · by_cases h2:(i:Int) = IntKind.i64.wrap (((ints rs).length:Int) - 1)
     · obtain ⟨g1,g2⟩:=hyes (by unfold Gs;rw [decide_eq_true (show i = rs.length - 1 by omega)];simp)
       repeat' (first | (with_reducible first | refine Ev.aK hii ?_ | refine Ev.aV hii ?_ | refine Ev.aJ hii ?_ | refine Ev.aP hii ?_) | (with_reducible first | refine Ev.aK h1 ?_ | refine Ev.aV h1 ?_ | refine Ev.aJ h1 ?_ | refine Ev.aP h1 ?_) | (with_reducible first | refine Ev.aK h2 ?_ | refine Ev.aV h2 ?_ | refine Ev.aJ h2 ?_ | refine Ev.aP h2 ?_) | refine' Ev.zS | refine' Ev.zK | ((with_reducible refine Ev.ca0 ?_);(first | refine Ev.aT (hI _) rfl rfl ?_ | refine Ev.ca (hI _) ?_);conv=>whnf) | refine' Ev.zT | fail)
       · refine' aav
     · by_cases h3:rs[i] ∈ set
       · obtain ⟨g1,g2⟩:=hyes (by unfold Gs;rw [hg,decide_eq_true h3];simp)
         refine' abf
         · refine' aav
       · have g:=hno (by unfold Gs;rw [hg,decide_eq_false h3,decide_eq_false (show ¬ i = fr by omega),decide_eq_false (show ¬ i = rs.length - 1 by omega)];simp)
         refine' abf
         refine Ev.zA (k - 1) ⟨i + 1,?_,?_,rfl,?_⟩ (by refine' Ev.zp <;> first | (first | (rw [g];done) | exact wrap_succ (by omega) | rfl) | rfl | (refine' Ev.ze;(first | (rw [g];done) | exact wrap_succ (by omega) | rfl)) | fail)
         omega
 · have hii:¬ (i:Int) < ((ints rs).length:Int):=by omega
   obtain rfl:i = rs.length:=by omega
   repeat' (first | (with_reducible first | refine Ev.aK hii ?_ | refine Ev.aV hii ?_ | refine Ev.aJ hii ?_ | refine Ev.aP hii ?_) | refine' Ev.zS | refine' Ev.zK | refine' Ev.zT | fail)
   exact ⟨congrArg (AV.lst 1) (List.take_of_length_le (by rw [List.drop_zero];omega)),rfl⟩
end Go.Proofs.YtadlnaljicikfaaDoor.aB
