/- A part of the proof: a calculus over values, and contracts of functions. No condition. -/
import Derived.Test.YtadlnaljicikfaaDoorZHistoryRuns11
set_option linter.unusedVariables false
set_option linter.unusedSimpArgs false
namespace Go.Proofs.YtadlnaljicikfaaDoor.aB
open Go
set_option maxRecDepth 100000
attribute [local irreducible] Ev.gV Ev.iy Ev.bC Ev.runK Ev.bD Ev.fD Ev.Side Ev.Wp Ev.Again Ev.To Ev.Fin
open Go.Lib Go.RowKit
theorem abB:∀ c,Tryd.f28.body = some c -> comp c = (.seq (.reg 0 [I.n 0 2 (.box 27 (.tmp 0)),I.n 1 3 (.box 27 (.tmp 1)),I.n 2 4 (I.sb false)]) (.seq (.seq (.reg 1 [I.n 0 6 (I.fa 27 2 0),I.n 1 7 (I.ld 9 6),I.n 2 8 (I.fa 27 3 0),I.n 3 9 (I.ld 9 8),I.n 4 10 (I.bo .neq 9 7 9 9),I.n 5 11 (I.mv 10),I.w 6 12 (I.fa 27 2 2) 11 false,I.w 7 13 (I.ld 22 12) 11 false,I.w 8 14 (I.ln 13 22) 11 false,I.w 9 15 (I.fa 27 3 2) 11 false,I.w 10 16 (I.ld 22 15) 11 false,I.w 11 17 (I.ln 16 22) 11 false,I.w 12 18 (I.bo .neq 3 14 17 3) 11 false,I.n 13 19 (I.pb 11 true 18),I.n 14 20 (I.mv 19),I.w 15 21 (I.fa 27 2 1) 20 false,I.w 16 22 (I.ld 25 21) 20 false,I.w 17 23 (I.fa 27 3 1) 20 false,I.w 18 24 (I.ld 25 23) 20 false,I.w 19 25 (I.c2 76 22 24 25 25) 20 false,I.w 20 26 (.unOp .not 4 (.tmp 25)) 20 false,I.n 21 27 (I.pb 20 true 26)]) (.cond (.tmp 27) (.seq (.reg 2 [I.n 0 4 (I.sb false)]) .ret) .skip)) (.seq (.seq (.reg 3 [I.n 0 5 (I.si 0)]) (.block 0 (.loop (.seq (.seq (.reg 4 [I.n 0 28 (I.mv 5),I.n 1 29 (I.fa 27 2 2),I.n 2 30 (I.ld 22 29),I.n 3 31 (I.ln 30 22),I.n 4 32 (I.bo .lss 3 28 31 3)]) (.cond (.tmp 32) .skip (.exit 0))) (.seq (.block 1 (.seq (.draw 6 [I.n 0 35 (I.fa 27 2 2),I.n 1 36 (I.ld 22 35),I.n 2 37 (I.mv 5),I.n 3 38 (I.ia 22 36 37),I.n 4 39 (I.ld 23 38),I.n 5 40 (I.fa 27 3 2),I.n 6 41 (I.ld 22 40),I.n 7 42 (I.mv 5),I.n 8 43 (I.ia 22 41 42),I.n 9 44 (I.ld 23 43),I.n 10 45 (I.c2 34 39 44 23 23),I.n 11 46 (.unOp .not 4 (.tmp 45))] [[],[0],[],[1,2],[3],[],[5],[],[6,7],[8],[4,9],[10]]) (.cond (.tmp 46) (.seq (.reg 7 [I.n 0 4 (I.sb false)]) .ret) .skip))) (.reg 5 [I.n 0 33 (I.mv 5),I.n 1 34 (I.bc .add 3 33 1 3),I.n 2 5 (I.sa 34)])))))) (.seq (.reg 8 [I.n 0 4 (I.sb true)]) .ret)))):=by
 intro c h
 have:c = Tryd.f28.body.get rfl:=by rw [<- Option.some_inj,<- h];rfl
 rw [this];rfl
def TR (c d:Lg):Bool:=decide (c.base = d.base /\ c.revs = d.revs /\ c.aA = d.aA)
theorem Ie (c:Lg):TR c c = true:=decide_eq_true ⟨rfl,rfl,rfl⟩
set_option maxHeartbeats 1000000 in
theorem Ig (c d:Lg) (hc:LgS c):aH env 28 [Xz c,Xz d] (fun r hs=>r = .v (.bool (TR c d)) /\ hs = []):=by
  have hR:=ES c.revs d.revs (by have:=hc.2.1;omega)
  have h1:=bK c.aA
  have h2:=bK d.aA
  have hcl:=hc.2.2.1
  refine Ev.fn [0,1,2,3,4,5,27,32,46] 0 [.tmp 4] Tryd.func28 (abB _ rfl) ?_
  repeat' (first | refine' Ev.zP | refine' Ev.zS | refine' Ev.zK | ((with_reducible refine Ev.ca0 ?_);(first | refine Ev.ca (hR) ?_);conv=>whnf) | ((with_reducible refine Ev.jO ?_);(first | refine Ev.dr 6 [] [0,1,2,3,4,5,6,7,8,9,10,11] ?_);intro Q hQ;(simp only [Ev.aK,Ev.aT]);conv=>whnf) | refine' Ev.zT | fail)
  · rename_i e1 e2 e3
    have hlen:c.aA.length = d.aA.length:=by omega
    refine Ev.loop (fun k s=>∃ i ct:Nat,s = ⟨[(2,.ptr 0 0 0 0),(3,.ptr 8 8 0 0),(4,.v (.bool false)),(5,.v (.int .i64 i))],[(8,⟨3,27,8,0,true,[[.v (.string d.base),.lst 1 (ints d.revs),.lst 1 (aJ d.aA)]]⟩),(0,⟨3,27,0,0,true,[[.v (.string c.base),.lst 1 (ints c.revs),.lst 1 (aJ c.aA)]]⟩)],ct⟩ /\ k + i = c.aA.length /\ c.aA.take i = d.aA.take i) ?_ ?_
    · refine Ev.zB ⟨c.aA.length,0,?_,rfl,?_⟩
      exact ⟨by omega,rfl⟩
    rintro k s1 ⟨i,ct,rfl,hk,hf⟩
    by_cases hi:i < c.aA.length
    · have hi2:(i:Int) < ((aJ c.aA).length:Int):=by omega
      have hid:i < d.aA.length:=by omega
      have hic:=hi
      have hS:=Ox c.aA[i] d.aA[i] (by have:=(hc.2.2.2 _ (List.getElem_mem hi)).1;omega)
      repeat' (first | refine' Ev.zP | (((with_reducible refine Ev.dR hi2 ?_);conv=>whnf)) | (with_reducible refine Ev.bQ hi2 ?_) | refine' Ev.zS | refine' Ev.zK | ((with_reducible refine Ev.ca0 ?_);(first | refine Ev.ca (hS) ?_);conv=>whnf) | ((with_reducible refine Ev.jO ?_);(first | refine Ev.dr 6 [] [0,1,2,3,4,5,6,7,8,9,10,11] ?_);intro Q hQ;(simp only [Ev.aK,Ev.aT]);conv=>whnf) | refine' Ev.zT | fail)
      · rename_i heq
        refine Ev.zA (k - 1) ⟨i + 1,?_,rfl,?_⟩
        exact ⟨by omega,by rw [List.take_succ_eq_append_getElem hic,List.take_succ_eq_append_getElem hid,hf,heq]⟩
      · rename_i hne
        exact ⟨Ev.jS (decide_eq_false (fun h=>hne (by simp only [h.2.2]))).symm,rfl⟩
    · have hi2:¬ (i:Int) < ((aJ c.aA).length:Int):=by omega
      repeat' (first | refine' Ev.zP | (((with_reducible refine Ev.bW hi2 ?_);conv=>whnf)) | (with_reducible refine Ev.bT hi2 ?_) | refine' Ev.zS | refine' Ev.zK | ((with_reducible refine Ev.jO ?_);(first | refine Ev.dr 6 [] [0,1,2,3,4,5,6,7,8,9,10,11] ?_);intro Q hQ;(simp only [Ev.aK,Ev.aT]);conv=>whnf) | refine' Ev.zT | fail)
      rw [List.take_of_length_le (by omega),List.take_of_length_le (by omega)] at hf
      exact ⟨Ev.jS (decide_eq_true ⟨e1,e3,hf⟩).symm,rfl⟩
  · rename_i e1 e2 e3
    exact ⟨Ev.jS (decide_eq_false (fun h=>e3 h.2.1)).symm,rfl⟩
  · rename_i e1 e2
    exact ⟨Ev.jS (decide_eq_false (fun h=>e2 (by rw [h1,h2,h.2.2]))).symm,rfl⟩
  · rename_i e1
    exact ⟨Ev.jS (decide_eq_false (fun h=>e1 h.1)).symm,rfl⟩
def pz:Ev.Pl:=(.one 0 false (.one 1 false (.one 2 false (.one 3 false (.one 4 false (.one 5 false (.two 6 (.one 7 false (.one 8 false (.one 9 false (.one 10 false .fin)))) 7 (.one 6 false (.one 8 false (.one 9 false (.one 10 false .fin)))))))))))
theorem abC:∀ c,Tryd.f12.body = some c -> comp c = (.seq (.reg 0 [I.n 0 4 (I.sb false)]) (.seq (.reg 1 [I.n 0 26 (I.c0 22),I.n 1 5 (I.sa 26)]) (.seq (.reg 2 [I.n 0 27 (I.mv 0),I.n 1 28 (I.mv 1),I.n 2 29 (I.mv 1),I.n 3 30 (I.ln 29 22),I.n 4 31 (.call { callee:=.builtin .min,args:=#[.tmp 30,.const (Value.int .i64 8)],argTypes:=#[3,3] }),I.n 5 32 (.slice 22 (.tmp 28) none (some (.tmp 31)) none),I.n 6 33 (I.c2 23 27 32 9 22),I.n 7 6 (.alloc 27),I.u 8 (I.st 27 6 33)]) (.seq (.reg 3 [I.n 0 35 (I.fa 27 6 0),I.n 1 36 (I.ld 9 35),I.n 2 37 (I.c1 24 36 9),I.n 3 34 (I.mv 37),I.n 4 38 (I.ex 34 0),I.n 5 39 (I.ex 34 1),I.n 6 7 (I.sa 38),I.n 7 8 (I.sa 39)]) (.seq (.seq (.reg 4 [I.n 0 40 (I.mv 5),I.n 1 41 (.unOp .not 4 (.tmp 40)),I.n 2 42 (I.mv 41),I.w 3 43 (I.mv 7) 42 false,I.w 4 44 (.binOp .eql 29 (.tmp 43) (.const (Value.pointer none)) 29) 42 false,I.n 5 45 (I.pb 42 true 44),I.n 6 46 (I.mv 45),I.w 7 47 (I.mv 8) 46 false,I.w 8 48 (I.bc .neq 30 47 0 30) 46 false,I.n 9 49 (I.pb 46 true 48)]) (.cond (.tmp 49) (.seq (.reg 5 [I.n 0 4 (I.sb false)]) .ret) .skip)) (.seq (.seq (.reg 6 [I.n 0 9 (I.si 0)]) (.block 0 (.loop (.seq (.seq (.reg 7 [I.n 0 50 (I.mv 9),I.n 1 51 (I.fa 27 6 2),I.n 2 52 (I.ld 22 51),I.n 3 53 (I.ln 52 22),I.n 4 54 (I.bo .lss 3 50 53 3)]) (.cond (.tmp 54) .skip (.exit 0))) (.seq (.block 1 (.seq (.reg 9 [I.n 0 57 (I.mv 7),I.n 1 58 (I.fa 27 6 2),I.n 2 59 (I.ld 22 58),I.n 3 60 (I.mv 9),I.n 4 61 (I.ia 22 59 60),I.n 5 62 (I.ld 23 61),I.n 6 63 (I.c2 25 57 62 29 23),I.n 7 64 (I.bc .neq 30 63 0 30)]) (.cond (.tmp 64) (.seq (.reg 10 [I.n 0 4 (I.sb false)]) .ret) .skip))) (.reg 8 [I.n 0 55 (I.mv 9),I.n 1 56 (I.bc .add 3 55 1 3),I.n 2 9 (I.sa 56)])))))) (.seq (.seq (.reg 11 [I.n 0 10 (I.si 0)]) (.block 2 (.loop (.seq (.seq (.reg 12 [I.n 0 65 (I.mv 10),I.n 1 66 (I.mv 7),I.n 2 67 (I.nc 66),I.n 3 68 (I.fa 44 67 0),I.n 4 69 (I.c1 29 68 42),I.n 5 70 (I.bo .leq 3 65 69 3)]) (.cond (.tmp 70) .skip (.exit 2))) (.seq (.block 3 (.seq (.reg 14 [I.n 0 74 (I.mv 7),I.n 1 75 (I.mv 10),I.n 2 76 (I.c2 30 74 75 29 3),I.n 3 73 (I.mv 76),I.n 4 77 (I.ex 73 0),I.n 5 78 (I.ex 73 1),I.n 6 11 (I.sa 77),I.n 7 12 (I.sa 78)]) (.seq (.reg 15 [I.n 0 79 (I.mv 10),I.n 1 13 (I.sa 79)]) (.block 4 (.loop (.seq (.seq (.reg 16 [I.n 0 80 (I.mv 13),I.n 1 81 (I.mv 7),I.n 2 82 (I.nc 81),I.n 3 83 (I.fa 44 82 0),I.n 4 84 (I.c1 29 83 42),I.n 5 85 (I.bo .leq 3 80 84 3)]) (.cond (.tmp 85) .skip (.exit 4))) (.seq (.block 5 (.seq (.reg 18 [I.n 0 89 (I.mv 7),I.n 1 90 (I.mv 10),I.n 2 91 (I.mv 13),I.n 3 92 (.call { callee:=.value (.func 38),args:=#[.tmp 89,.tmp 90,.tmp 91],argTypes:=#[29,3,3] }),I.n 4 88 (I.mv 92),I.n 5 93 (I.ex 88 0),I.n 6 94 (I.ex 88 1),I.n 7 14 (I.sa 93),I.n 8 15 (I.sa 94)]) (.seq (.reg 19 [I.n 0 96 (I.mv 7),I.n 1 97 (I.mv 13),I.n 2 98 (I.c2 30 96 97 29 3),I.n 3 95 (I.mv 98),I.n 4 99 (I.ex 95 0),I.n 5 100 (I.ex 95 1),I.n 6 16 (I.sa 99),I.n 7 17 (I.sa 100)]) (.seq (.reg 20 [I.n 0 102 (I.mv 14),I.n 1 103 (I.mv 11),I.n 2 104 (I.c2 56 102 103 23 9),I.n 3 101 (I.mv 104),I.n 4 105 (I.ex 101 0),I.n 5 106 (I.ex 101 1),I.n 6 18 (I.sa 105),I.n 7 19 (I.sa 106)]) (.seq (.reg 21 [I.n 0 108 (I.mv 7),I.n 1 109 (I.mv 13),I.n 2 110 (I.mv 7),I.n 3 111 (I.nc 110),I.n 4 112 (I.fa 44 111 0),I.n 5 113 (I.c1 29 112 42),I.n 6 114 (.call { callee:=.value (.func 38),args:=#[.tmp 108,.tmp 109,.tmp 113],argTypes:=#[29,3,3] }),I.n 7 107 (I.mv 114),I.n 8 115 (I.ex 107 0),I.n 9 116 (I.ex 107 1),I.n 10 20 (I.sa 115),I.n 11 21 (I.sa 116)]) (.seq (.reg 22 [I.n 0 118 (I.mv 11),I.n 1 119 (I.mv 14),I.n 2 120 (I.mv 20),I.n 3 121 (.buildSlice 22 2 #[(0,.tmp 119),(1,.tmp 120)]),I.n 4 122 (I.c2 57 118 121 9 22),I.n 5 117 (I.mv 122),I.n 6 123 (I.ex 117 0),I.n 7 124 (I.ex 117 1),I.n 8 22 (I.sa 123),I.n 9 23 (I.sa 124)]) (.seq (.reg 23 [I.n 0 126 (I.mv 7),I.n 1 127 (I.mv 7),I.n 2 128 (I.nc 127),I.n 3 129 (I.fa 44 128 0),I.n 4 130 (I.c1 29 129 42),I.n 5 131 (I.c2 30 126 130 29 3),I.n 6 125 (I.mv 131),I.n 7 132 (I.ex 125 0),I.n 8 133 (I.ex 125 1),I.n 9 24 (I.sa 132),I.n 10 25 (I.sa 133)]) (.seq (.reg 24 [I.n 0 134 (I.mv 12),I.n 1 135 (I.bc .neq 30 134 0 30),I.n 2 136 (I.mv 135),I.w 3 137 (I.mv 15) 136 false,I.w 4 138 (I.bc .neq 30 137 0 30) 136 false,I.n 5 139 (I.pb 136 true 138),I.n 6 140 (I.mv 139),I.w 7 141 (I.mv 17) 140 false,I.w 8 142 (I.bc .neq 30 141 0 30) 140 false,I.n 9 143 (I.pb 140 true 142),I.n 10 144 (I.mv 143),I.w 11 145 (I.mv 19) 144 false,I.w 12 146 (I.bc .neq 30 145 0 30) 144 false,I.n 13 147 (I.pb 144 true 146),I.n 14 148 (I.mv 147),I.w 15 149 (I.mv 21) 148 false,I.w 16 150 (I.bc .neq 30 149 0 30) 148 false,I.n 17 151 (I.pb 148 true 150),I.n 18 152 (I.mv 151),I.w 19 153 (I.mv 23) 152 false,I.w 20 154 (I.bc .neq 30 153 0 30) 152 false,I.n 21 155 (I.pb 152 true 154),I.n 22 156 (I.mv 155),I.w 23 157 (I.mv 25) 156 false,I.w 24 158 (I.bc .neq 30 157 0 30) 156 false,I.n 25 159 (I.pb 156 true 158),I.n 26 160 (I.mv 159),I.w 27 161 (I.mv 16) 160 false,I.w 28 162 (I.mv 18) 160 false,I.w 29 163 (I.bo .neq 9 161 162 9) 160 false,I.n 30 164 (I.pb 160 true 163),I.n 31 165 (I.mv 164),I.w 32 166 (I.mv 22) 165 false,I.w 33 167 (I.mv 24) 165 false,I.w 34 168 (I.bo .neq 9 166 167 9) 165 false,I.n 35 169 (I.pb 165 true 168)]) (.cond (.tmp 169) (.seq (.reg 25 [I.n 0 4 (I.sb false)]) .ret) .skip))))))))) (.reg 17 [I.n 0 86 (I.mv 13),I.n 1 87 (I.bc .add 3 86 1 3),I.n 2 13 (I.sa 87)])))))))) (.reg 13 [I.n 0 71 (I.mv 10),I.n 1 72 (I.bc .add 3 71 1 3),I.n 2 10 (I.sa 72)])))))) (.seq (.draw 26 [I.n 0 170 (I.mv 7),I.n 1 171 (I.c1 26 170 29),I.n 2 172 (I.c1 46 171 27),I.n 3 173 (I.bc .eql 30 172 0 30),I.n 4 174 (I.mv 173),I.w 5 175 (I.mv 7) 174 true,I.w 6 176 (I.c1 26 175 29) 174 true,I.w 7 177 (I.ld 27 6) 174 true,I.w 8 178 (I.c2 28 176 177 27 27) 174 true,I.n 9 179 (I.pc 174 178 false),I.n 10 4 (I.sa 179)] [[],[0],[1,1],[2],[3,2],[4],[5,4,4],[4],[6,7,6,4],[4,8],[9,8,0,1,2,3,4,5,6,7,8,9]]) .ret)))))))):=by
 intro c h
 have:c = Tryd.f12.body.get rfl:=by rw [<- Option.some_inj,<- h];rfl
 rw [this];rfl
theorem TS (t:ByteArray) (l:List (List Sp)):(kZ t l).revs = gJ (kZ t l).aA.length:=by
 show (List.range (_ + 1)).map (fun (i:Nat)=>(i:Int)) = gJ ((OL l _).map norm).length
 rw [List.length_map];rfl
theorem XE {nm ct:Nat} {hp:List (Nat × au)} {K:AV -> List (Nat × au) -> Nat -> Prop} (B L S X Y:Nat) (F:List (Nat × au)) {vb vl fl vs fs:Nat} {Ls:List (List Sp)} {Ns:List Int} {t:ByteArray} (hne:L ≠ B /\ S ≠ B /\ S ≠ L) (hx:∀ x ∈ Ls,x.length <= 100000000) (hL:Ls.length <= 1000000)
   (hs:subs hp (gQ B L S vb vl fl vs fs Ls Ns t)) (hF:subs hp F) (hB:get F B = none /\ get F L = none /\ get F S = none /\ get F X = none /\ get F Y = none)
   (hk:∀ v1 v2 c',ct + 8 <= c' -> K (.agg [.v (.string t),.own X v1 0 (Ls.length + 1),.own Y v2 0 Ls.length]) ((gQ B L S vb vl fl vs fs Ls Ns t ++ [(X,⟨1,3,v1,0,false,ints (gJ Ls.length)⟩),(Y,⟨1,23,v2,0,false,aJ Ls⟩)]) ++ F) c') :
   Ev.dU env nm 26 [.ptr B vb 0 0] hp ct K:=by
 have hc:=jA (R':=fun x h=>∃ v1 v2:Nat,x = .agg [.v (.string t),.own 66080 v1 0 (Ls.length + 1),.own 9100 v2 0 Ls.length] /\ h = gQ 7000 7001 7002 vb vl fl vs fs Ls Ns t ++ [(66080,⟨1,3,v1,0,false,ints (gJ Ls.length)⟩),(9100,⟨1,23,v2,0,false,aJ Ls⟩)])
   (O7 vb vl fl vs fs Ls Ns t hx hL) (fun x h ⟨v1,v2,a,b⟩=>⟨_,⟨v1,v2,a,rfl⟩,b⟩)
 refine xZ (TF B L S) (fun r=>if r = 66080 then X else if r = 9100 then Y else aaS B L S r) F hc (by simp [lD,H8]) (TG hne.1 hne.2.1 hne.2.2) hs hF ?_ ?_
 · intro q h
   rcases Lj h with rfl | rfl | rfl
   · exact hB.1
   · exact hB.2.1
   · exact hB.2.2.1
 · rintro r h1 ⟨v1,v2,rfl,rfl⟩
   refine ⟨?_,hk v1 v2⟩
   intro q h
   have h:get (gQ B L S vb vl fl vs fs Ls Ns t ++ [(X,(⟨1,3,v1,0,false,ints (gJ Ls.length)⟩:au)),(Y,⟨1,23,v2,0,false,aJ Ls⟩)]) q ≠ none:=h
   rw [List.cons_append,List.cons_append,List.cons_append,List.nil_append,aj,aj,aj,aj,aj,get_nil] at h
   split at h
   · rename_i e;rw [e];exact hB.1
   · split at h
     · rename_i e;rw [e];exact hB.2.1
     · split at h
       · rename_i e;rw [e];exact hB.2.2.1
       · split at h
         · rename_i e;rw [e];exact hB.2.2.2.1
         · split at h
           · rename_i e;rw [e];exact hB.2.2.2.2
           · exact absurd rfl h
theorem FH.AQ {c:Lg} {n0:Int} (hH:FH c n0) {i:Nat} (hi:i <= c.aA.length):Tz c.base c.aA i = .dD [.v (.string (Dx c i)),.v (.int .i64 0)] /\ (Dx c i).size <= 14000 /\ validD (Dx c i).data.toList = true /\ aI (Dx c i).data.toList = iT n0 (c.aA.take i) /\ kY (c.aA.take i) c.base = (0,Dx c i):=by
 have hb:=hH.bs
 have ht:=hH.tot
 have htk:=Dl c.aA i
 obtain ⟨u,u1,u2,u3,u4⟩:=Dw (c.aA.take i) n0 c.base hH.val hH.cnt (o8 hH.seg i).1 (fun x hx=>by have:=hH.each x (List.mem_of_mem_take hx);omega) (by omega)
 have e:Dx c i = u:=by unfold Dx;rw [u1]
 rw [e]
 refine ⟨?_,by omega,u2,u3,u1⟩
 unfold Tz allA OT
 rw [if_pos ⟨by omega,by omega⟩,Int.toNat_natCast,if_neg (by rw [hH.val];simp),u1]
theorem FH.yI {c:Lg} {n0:Int} (hH:FH c n0) {r k:Nat} (hr:r <= k) (hk:k <= c.aA.length) :
   ∃ A,O5 c.aA (nY n0 c.aA) r k = .dD [.lst 3 (bM A),.v (.int .i64 0)] /\ pR A (Dx c r) = 0 /\ vJ A (Dx c r) = Dx c k /\ A.length <= 261 /\ bU A <= 10000:=by
 obtain ⟨a1,a2,a3,a4,a5⟩:=hH.AQ (i:=r) (by omega)
 obtain ⟨b1,b2,b3,b4,b5⟩:=hH.AQ (i:=k) hk
 have hm:=hH.ends r (by omega)
 obtain ⟨k1,k2,k3⟩:=DC hm
 obtain ⟨k4,k5⟩:=Dy (iT n0 (c.aA.take r))
 obtain ⟨e1,e2⟩:=Ic a3 a4 hm
 have hs:=(o8 (o8 hH.seg r).2 (k - r)).1
 have l1:=(xu (c.aA.drop r) (k - r))
 have l2:=DI c.aA r
 have l3:=DJ c.aA r
 have l4:=hH.lens
 have l5:rZ c.aA <= 10000:=hH.tot
 obtain ⟨f1,f2,f3,f4,f5,f6⟩:=AP ((c.aA.drop r).take (k - r)) (eu (iT n0 (c.aA.take r))) (Dx c r) e1 (by rw [k2];exact hs) (by omega) (by omega) (by omega)
 rw [e2] at f3
 have hsp:c.aA.take k = c.aA.take r ++ (c.aA.drop r).take (k - r):=by
   have:=List.take_add (l:=c.aA) (i:=r) (j:=k - r)
   rw [show r + (k - r) = k by omega] at this
   exact this
 have hall:=Hy (c.aA.take r) ((c.aA.drop r).take (k - r)) c.base (by rw [a5])
 rw [<- hsp,a5,b5,f3] at hall
 have hT:Dx c k = vJ (fJ (eu (iT n0 (c.aA.take r))) ((c.aA.drop r).take (k - r))).1 (Dx c r):=congrArg Prod.snd hall
 refine ⟨(fJ (eu (iT n0 (c.aA.take r))) ((c.aA.drop r).take (k - r))).1,?_,f2,hT.symm,by omega,by omega⟩
 unfold O5 xY
 rw [if_pos ⟨by omega,by omega,by omega⟩,Int.toNat_natCast,Int.toNat_natCast,EP _ _ _ (by omega),f1,if_pos rfl]
set_option maxHeartbeats 4000000 in
theorem xA (t:ByteArray) (l:List (List Sp)):aH env 12 [.v (.string t),.lst 1 (aJ l)] (fun x hs=>x = .v (.bool true) /\ hs = []):=by
  have hS:=EO
  have hrl:=bK l
  have hcut:∀ k:Nat,List.take k (List.drop 0 (aJ l)) = aJ (l.take k):=fun k=>by simp [aJ]
  have Xh:=JM t (l.take ((min ((aJ l).length:Int) 8).toNat - 0))
  obtain ⟨n0,hH⟩:=TQ t (l.take ((min ((aJ l).length:Int) 8).toNat - 0))
  have hgood:=H6 t (l.take ((min ((aJ l).length:Int) 8).toNat - 0))
  have hrev:=TS t (l.take ((min ((aJ l).length:Int) 8).toNat - 0))
  rw [<- hcut] at Xh
  generalize kZ t (l.take ((min ((aJ l).length:Int) 8).toNat - 0)) = c at *
  have Xi:=OU c hgood.2.1
  have Lp:=Ig c c hgood.2.1
  rw [Ie] at Lp
  rw [hgood.1] at Xi
  unfold Xz at Xh Xi Lp
  rw [hrev] at Xh Xi Lp
  have hil:(ints (gJ c.aA.length)).length = c.aA.length + 1:=by rw [ig,DK]
  have q1:List.take (c.aA.length + 1) (List.drop 0 (ints (gJ c.aA.length))) = ints (gJ c.aA.length):=by rw [List.drop_zero,List.take_of_length_le (by omega)]
  have q2:List.take c.aA.length (List.drop 0 (aJ c.aA)) = aJ c.aA:=by rw [List.drop_zero,List.take_of_length_le (by simp)]
  have aeN:aH env 46 [.agg [.v (.string c.base),.lst 1 (List.take (c.aA.length + 1) (List.drop 0 (ints (gJ c.aA.length)))),.lst 1 (List.take c.aA.length (List.drop 0 (aJ c.aA)))]] (fun r hs=>r = .v (.int .i64 0) /\ hs = []):=by rw [q1,q2];exact Xi
  have abD:aH env 28 [.agg [.v (.string c.base),.lst 1 (List.take (c.aA.length + 1) (List.drop 0 (ints (gJ c.aA.length)))),.lst 1 (List.take c.aA.length (List.drop 0 (aJ c.aA)))],.agg [.v (.string c.base),.lst 1 (ints (gJ c.aA.length)),.lst 1 (aJ c.aA)]] (fun r hs=>r = .v (.bool true) /\ hs = []):=by rw [q1,q2];exact Lp
  have hnb:=hH.n0b
  have hbs:=hH.bs
  have hnl:=hH.nl
  have htot:=hH.tot
  have hlen:=hH.lens
  have hcnt:=hH.cnt
  have hsl:=bK c.aA
  have htb:rZ c.aA <= 10000:=hH.tot
  have hN0:newE c.base = 0:=by unfold newE O1;rw [if_neg (by omega),if_neg (by omega)]
  have hNew:=Ld c.base (by omega) hN0
  have hcb:O1 c.base = n0:=hcnt
  rw [hcb] at hNew
  refine Ev.fn [0,1,4,5,6,7,8,9,10,11,12,13,14,15,16,17,18,19,20,21,22,23,24,25,49,54,64,70,85,169] 0 [.tmp 4] Tryd.func12 (abC _ rfl) ?_
  repeat' (first | (with_reducible refine Ev.TJ 6 1552 9100 1 23 0 rfl rfl rfl ?_) | refine' Ev.zP | refine' Ev.zS | ((with_reducible refine Ev.kr (hs:=[25,38,30,26,29]) (fun Q hQ=>?_));refine' Ev.zR) | ((with_reducible refine Ev.jJ 29 ?_);refine Ev.il 29 [0,2] [.tmp 2] Tryd.func29 (fK _ rfl) (fun aN=>?_)) | ((refine Ev.zq hNew rfl (by simp) ⟨rfl,rfl,trivial⟩ ?_);conv=>whnf) | ((with_reducible refine Ev.ca0 ?_);(first | refine Ev.ca (hS) ?_ | refine Ev.ca (Xh) ?_);conv=>whnf) | ((with_reducible refine Ev.jO ?_);(first | refine Ev.FZ 26 [25,38,30,26,29] pz ?_);intro Q hQ;(simp only [Ev.dW,Ev.dF,Ev.dG,Ev.dX]);conv=>whnf) | ((with_reducible refine Ev.both ?_ ?_) <;> (conv=>whnf)) | refine' Ev.zT | fail)
  refine Ev.loop (fun k st=>∃ (i cc vb vl fl vs fs v8:Nat),st = ⟨[(6,.ptr 1080 v8 0 0),(7,.ptr 1552 vb 0 0),(9,.v (.int .i64 i))],gQ 1552 9100 1553 vb vl fl vs fs (c.aA.take i) (nY n0 (c.aA.take i)) c.base ++ [(1080,⟨3,27,v8,0,true,[[.v (.string c.base),.lst 1 (ints (gJ c.aA.length)),.lst 1 (aJ c.aA)]]⟩)],cc⟩ /\ k + i = c.aA.length) ?_ ?_
  · refine Ev.zB ⟨c.aA.length,0,?_,?_,?_,?_,?_,?_,?_,rfl,?_⟩
    omega
  rintro k s1 ⟨i,cc,vb,vl,fl,vs,fs,v8,rfl,hk⟩
  have hzl:=mD (c.aA.take i) n0
  by_cases hi:i < c.aA.length
  · have hii:(i:Int) < ((aJ c.aA).length:Int):=by omega
    obtain ⟨k',rfl⟩:∃ k',k = k' + 1:=⟨k - 1,by omega⟩
    have hw:IntKind.i64.wrap ((i:Int) + 1) = ((i + 1:Nat):Int):=by rw [aY (by omega)];omega
    obtain ⟨m0,m1,m2,m3,m4⟩:=yP (xw hH.seg hi)
    obtain ⟨x1,x2⟩:=hH.each _ (List.getElem_mem hi)
    have hap:∀ h:nY n0 (c.aA.take i) ≠ [],mJ c.aA[i] ((nY n0 (c.aA.take i)).getLast h) = 0:=fun h=>by rw [Ia];exact m4
    have hL1:c.aA.take i ++ [norm c.aA[i]] = c.aA.take (i + 1):=by rw [O9 m3,List.take_succ_eq_append_getElem hi]
    have hL2:nY n0 (c.aA.take i) ++ [outW c.aA[i]] = nY n0 (c.aA.take (i + 1)):=by rw [<- Ll,List.take_succ_eq_append_getElem hi]
    repeat' (first | (with_reducible refine Ev.bQ hii ?_) | (with_reducible refine Ev.dR hii ?_) | refine' Ev.zP | refine' Ev.zS | ((with_reducible refine Ev.kr (hs:=[25,38,30,26,29]) (fun Q hQ=>?_));refine' Ev.zR) | ((with_reducible refine Ev.jJ 29 ?_);refine Ev.il 29 [0,2] [.tmp 2] Tryd.func29 (fK _ rfl) (fun aN=>?_)) | ((((with_reducible refine Ev.gY ?_);refine JV 1552 9100 1553 [(1080,_)] (Ls:=c.aA.take i) (Ns:=nY n0 (c.aA.take i)) (t:=c.base) (w:=c.aA[i]) (by decide) (by omega) (by omega) hzl (by rw [List.length_take];omega) hap ⟨Ev.ah rfl rfl,Ev.ah rfl rfl,Ev.ah rfl rfl,trivial⟩ ⟨Ev.ah rfl rfl,trivial⟩ ⟨rfl,rfl,rfl⟩ (fun pJ vs' c' _=>?_);rw [hL1,hL2];conv=>whnf));conv=>whnf) | ((with_reducible refine Ev.jO ?_);(first | refine Ev.FZ 26 [25,38,30,26,29] pz ?_);intro Q hQ;(simp only [Ev.dW,Ev.dF,Ev.dG,Ev.dX]);conv=>whnf) | ((with_reducible refine Ev.both ?_ ?_) <;> (conv=>whnf)) | refine' Ev.zT | fail)
    refine Ev.zA (k') ⟨i + 1,?_,vb,?_,fl,?_,fs,v8,rfl,?_⟩
    omega
  have hii:¬ (i:Int) < ((aJ c.aA).length:Int):=by omega
  repeat' (first | (with_reducible refine Ev.bT hii ?_) | (with_reducible refine Ev.bW hii ?_) | refine' Ev.zP | refine' Ev.zS | ((with_reducible refine Ev.kr (hs:=[25,38,30,26,29]) (fun Q hQ=>?_));refine' Ev.zR) | ((with_reducible refine Ev.jJ 29 ?_);refine Ev.il 29 [0,2] [.tmp 2] Tryd.func29 (fK _ rfl) (fun aN=>?_)) | ((with_reducible refine Ev.jO ?_);(first | refine Ev.FZ 26 [25,38,30,26,29] pz ?_);intro Q hQ;(simp only [Ev.dW,Ev.dF,Ev.dG,Ev.dX]);conv=>whnf) | ((with_reducible refine Ev.both ?_ ?_) <;> (conv=>whnf)) | refine' Ev.zT | fail)
  have e:i = c.aA.length:=by omega
  subst e
  have hzl:=mD c.aA n0
  refine Ev.loop (fun k st=>∃ (r cc vb vl fl vs fs v8:Nat),st = ⟨[(6,.ptr 1080 v8 0 0),(7,.ptr 1552 vb 0 0),(10,.v (.int .i64 r))],gQ 1552 9100 1553 vb vl fl vs fs (c.aA) (nY n0 c.aA) c.base ++ [(1080,⟨3,27,v8,0,true,[[.v (.string c.base),.lst 1 (ints (gJ c.aA.length)),.lst 1 (aJ c.aA)]]⟩)],cc⟩ /\ k + r = c.aA.length + 1) ?_ ?_
  · refine Ev.zB ⟨c.aA.length + 1,0,?_,vb,vl,fl,vs,fs,v8,rfl,?_⟩ (by refine' Ev.zp <;> first | (first | (rw [List.take_length];done) | rfl | (simp;done)) | rfl | (refine' Ev.ze;(first | (rw [List.take_length];done) | rfl | (simp;done))) | fail)
    omega
  clear hk
  rintro k s1 ⟨r,cc,vb,vl,fl,vs,fs,v8,rfl,hk⟩
  by_cases agx:r <= c.aA.length
  · have hrr:(r:Int) <= (c.aA.length:Int):=by omega
    obtain ⟨k',rfl⟩:∃ k',k = k' + 1:=⟨k - 1,by omega⟩
    have hw:IntKind.i64.wrap ((r:Int) + 1) = ((r + 1:Nat):Int):=by rw [aY (by omega)];omega
    obtain ⟨hA,hAs,hAv,hAc,_⟩:=hH.AQ agx
    repeat' (first | (with_reducible refine Ev.bQ hrr ?_) | (with_reducible refine Ev.dR hrr ?_) | refine' Ev.zP | refine' Ev.zS | ((with_reducible refine Ev.kr (hs:=[25,38,30,26,29]) (fun Q hQ=>?_));refine' Ev.zR) | ((with_reducible refine Ev.jJ 29 ?_);refine Ev.il 29 [0,2] [.tmp 2] Tryd.func29 (fK _ rfl) (fun aN=>?_)) | ((((with_reducible refine Ev.gY ?_);refine aaU 1552 9100 1553 [(1080,_)] (Ls:=c.aA) (Ns:=nY n0 c.aA) (t:=c.base) hA (fun ρ=>rfl) (by decide) (fun y hy=>by have:=hH.each y hy;omega) (by omega) (by omega) ⟨Ev.ah rfl rfl,Ev.ah rfl rfl,Ev.ah rfl rfl,trivial⟩ ⟨Ev.ah rfl rfl,trivial⟩ ⟨rfl,rfl,rfl⟩ (fun pq c' _=>?_);conv=>whnf));conv=>whnf) | ((with_reducible refine Ev.jO ?_);(first | refine Ev.FZ 26 [25,38,30,26,29] pz ?_);intro Q hQ;(simp only [Ev.dW,Ev.dF,Ev.dG,Ev.dX]);conv=>whnf) | ((with_reducible refine Ev.both ?_ ?_) <;> (conv=>whnf)) | refine' Ev.zT | fail)
    refine Ev.loop (fun q st=>∃ (k cc vb vl fl vs fs v8:Nat),st = ⟨[(6,.ptr 1080 v8 0 0),(7,.ptr 1552 vb 0 0),(10,.v (.int .i64 r)),(11,.v (.string (Dx c r))),(12,.v (.int .i64 0)),(13,.v (.int .i64 k))],gQ 1552 9100 1553 vb vl fl vs fs (c.aA) (nY n0 c.aA) c.base ++ [(1080,⟨3,27,v8,0,true,[[.v (.string c.base),.lst 1 (ints (gJ c.aA.length)),.lst 1 (aJ c.aA)]]⟩)],cc⟩ /\ q + k = c.aA.length + 1 /\ r <= k) ?_ ?_
    · refine Ev.zB ⟨k' + 1,r,?_,vb,vl,?_,vs,fs,v8,rfl,?_⟩
      exact ⟨by omega,Nat.le_refl r⟩
    have hkr:=hk
    clear hk
    rintro q s1 ⟨k,cc,vb,vl,fl,vs,fs,v8,rfl,hk,hrk⟩
    by_cases abE:k <= c.aA.length
    · have hkk:(k:Int) <= (c.aA.length:Int):=by omega
      obtain ⟨q',rfl⟩:∃ q',q = q' + 1:=⟨q - 1,by omega⟩
      have hw2:IntKind.i64.wrap ((k:Int) + 1) = ((k + 1:Nat):Int):=by rw [aY (by omega)];omega
      obtain ⟨hA2,aiM,aiN,aiO,_⟩:=hH.AQ abE
      obtain ⟨hA3,aiP,aiQ,aiR,_⟩:=hH.AQ (Nat.le_refl c.aA.length)
      obtain ⟨A,r1,r2,r3,r4,r5⟩:=hH.yI hrk abE
      obtain ⟨D,d1,d2,d3,d4,d5⟩:=hH.yI abE (Nat.le_refl c.aA.length)
      have hTo:=KT A (Dx c r) (by omega) (by omega)
      have hto:toA A (Dx c r) = .dD [.v (.string (Dx c k)),.v (.int .i64 0)]:=by unfold toA;rw [r2,r3]
      rw [hto] at hTo
      have aeO:=G7 (Dx c r) [A,D] (by simp) (by intro x hx;simp at hx;rcases hx with rfl | rfl <;> omega) (by simp [lH];omega)
      have hal:allA (Dx c r) [A,D] = .dD [.v (.string (Dx c c.aA.length)),.v (.int .i64 0)]:=by
        unfold allA OT
        rw [if_neg (by simp)]
        simp only [kY]
        rw [if_pos r2,r3,if_pos d2,d3]
      rw [hal] at aeO
      have hss:∀ x:ByteArray,x = x:=fun _=>rfl
      repeat' (first | (with_reducible refine Ev.bQ hkk ?_) | (with_reducible refine Ev.dR hkk ?_) | (with_reducible refine Ev.bQ (hss _) ?_) | (with_reducible refine Ev.dR (hss _) ?_) | refine' Ev.zP | refine' Ev.zS | ((with_reducible refine Ev.kr (hs:=[25,38,30,26,29]) (fun Q hQ=>?_));refine' Ev.zR) | ((with_reducible refine Ev.jJ 29 ?_);refine Ev.il 29 [0,2] [.tmp 2] Tryd.func29 (fK _ rfl) (fun aN=>?_)) | ((((with_reducible refine Ev.gY ?_);refine aaU 1552 9100 1553 [(1080,_)] (Ls:=c.aA) (Ns:=nY n0 c.aA) (t:=c.base) hA2 (fun ρ=>rfl) (by decide) (fun y hy=>by have:=hH.each y hy;omega) (by omega) (by omega) ⟨Ev.ah rfl rfl,Ev.ah rfl rfl,Ev.ah rfl rfl,trivial⟩ ⟨Ev.ah rfl rfl,trivial⟩ ⟨rfl,rfl,rfl⟩ (fun pq c' _=>?_);conv=>whnf));conv=>whnf) | ((((with_reducible refine Ev.gY ?_);refine aaU 1552 9100 1553 [(1080,_)] (Ls:=c.aA) (Ns:=nY n0 c.aA) (t:=c.base) hA3 (fun ρ=>rfl) (by decide) (fun y hy=>by have:=hH.each y hy;omega) (by omega) (by omega) ⟨Ev.ah rfl rfl,Ev.ah rfl rfl,Ev.ah rfl rfl,trivial⟩ ⟨Ev.ah rfl rfl,trivial⟩ ⟨rfl,rfl,rfl⟩ (fun pq c' _=>?_);conv=>whnf));conv=>whnf) | ((((with_reducible refine Ev.gY ?_);refine aaV 1552 9100 1553 [(1080,_)] (Ls:=c.aA) (Ns:=nY n0 c.aA) (t:=c.base) r1 (fun ρ=>rfl) (by decide) hzl hH.szs (by omega) (by omega) (by omega) ⟨Ev.ah rfl rfl,Ev.ah rfl rfl,Ev.ah rfl rfl,trivial⟩ ⟨Ev.ah rfl rfl,trivial⟩ ⟨rfl,rfl,rfl⟩ (fun pq c' _=>?_);conv=>whnf));conv=>whnf) | ((((with_reducible refine Ev.gY ?_);refine aaV 1552 9100 1553 [(1080,_)] (Ls:=c.aA) (Ns:=nY n0 c.aA) (t:=c.base) d1 (fun ρ=>rfl) (by decide) hzl hH.szs (by omega) (by omega) (by omega) ⟨Ev.ah rfl rfl,Ev.ah rfl rfl,Ev.ah rfl rfl,trivial⟩ ⟨Ev.ah rfl rfl,trivial⟩ ⟨rfl,rfl,rfl⟩ (fun pq c' _=>?_);conv=>whnf));conv=>whnf) | ((with_reducible refine Ev.ca0 ?_);(first | refine Ev.ca (hTo) ?_ | refine Ev.ca (aeO) ?_);conv=>whnf) | ((with_reducible refine Ev.jO ?_);(first | refine Ev.FZ 26 [25,38,30,26,29] pz ?_);intro Q hQ;(simp only [Ev.dW,Ev.dF,Ev.dG,Ev.dX]);conv=>whnf) | ((with_reducible refine Ev.both ?_ ?_) <;> (conv=>whnf)) | refine' Ev.zT | fail)
      refine Ev.zA (q') ⟨k + 1,?_,vb,vl,?_,vs,fs,v8,rfl,?_⟩ (by refine' Ev.zp <;> first | (first | exact hw2 | (simp;done) | rfl) | rfl | (refine' Ev.ze;(first | exact hw2 | (simp;done) | rfl)) | fail)
      exact ⟨by omega,by omega⟩
    · have hkk:¬ (k:Int) <= (c.aA.length:Int):=by omega
      repeat' (first | (with_reducible refine Ev.bT hkk ?_) | (with_reducible refine Ev.bW hkk ?_) | refine' Ev.zP | refine' Ev.zS | ((with_reducible refine Ev.kr (hs:=[25,38,30,26,29]) (fun Q hQ=>?_));refine' Ev.zR) | ((with_reducible refine Ev.jJ 29 ?_);refine Ev.il 29 [0,2] [.tmp 2] Tryd.func29 (fK _ rfl) (fun aN=>?_)) | ((with_reducible refine Ev.jO ?_);(first | refine Ev.FZ 26 [25,38,30,26,29] pz ?_);intro Q hQ;(simp only [Ev.dW,Ev.dF,Ev.dG,Ev.dX]);conv=>whnf) | ((with_reducible refine Ev.both ?_ ?_) <;> (conv=>whnf)) | refine' Ev.zT | fail)
      refine Ev.zA (k') ⟨r + 1,?_,vb,vl,fl,vs,fs,v8,rfl,?_⟩
      omega
  · have hrr:¬ (r:Int) <= (c.aA.length:Int):=by omega
    repeat' (first | (with_reducible refine Ev.bT hrr ?_) | (with_reducible refine Ev.bW hrr ?_) | refine' Ev.zP | refine' Ev.zS | ((with_reducible refine Ev.kr (hs:=[25,38,30,26,29]) (fun Q hQ=>?_));refine' Ev.zR) | ((with_reducible refine Ev.jJ 29 ?_);refine Ev.il 29 [0,2] [.tmp 2] Tryd.func29 (fK _ rfl) (fun aN=>?_)) | ((((with_reducible refine Ev.gY ?_);refine XE 1552 9100 1553 20000 20001 [(1080,_)] (Ls:=c.aA) (Ns:=nY n0 c.aA) (t:=c.base) (by decide) (fun y hy=>by have:=hH.each y hy;omega) (by omega) ⟨Ev.ah rfl rfl,Ev.ah rfl rfl,Ev.ah rfl rfl,trivial⟩ ⟨Ev.ah rfl rfl,trivial⟩ ⟨rfl,rfl,rfl,rfl,rfl⟩ (fun v1 v2 c' _=>?_);conv=>whnf));conv=>whnf) | ((((with_reducible refine Ev.gY ?_);refine XE 1552 9100 1553 20002 20003 [(1080,_),(20000,_),(20001,_)] (Ls:=c.aA) (Ns:=nY n0 c.aA) (t:=c.base) (by decide) (fun y hy=>by have:=hH.each y hy;omega) (by omega) ⟨Ev.ah rfl rfl,Ev.ah rfl rfl,Ev.ah rfl rfl,trivial⟩ ⟨Ev.ah rfl rfl,Ev.ah rfl rfl,Ev.ah rfl rfl,trivial⟩ ⟨rfl,rfl,rfl,rfl,rfl⟩ (fun v1 v2 c' _=>?_);conv=>whnf));conv=>whnf) | ((with_reducible refine Ev.ca0 ?_);(first | refine Ev.ca (aeN) ?_ | refine Ev.ca (abD) ?_);conv=>whnf) | ((with_reducible refine Ev.jO ?_);(first | refine Ev.FZ 26 [25,38,30,26,29] pz ?_);intro Q hQ;(simp only [Ev.dW,Ev.dF,Ev.dG,Ev.dX]);conv=>whnf) | ((with_reducible refine Ev.both ?_ ?_) <;> (conv=>whnf)) | refine' Ev.zT | fail)
    all_goals exact ⟨rfl,rfl⟩
end Go.Proofs.YtadlnaljicikfaaDoor.aB
