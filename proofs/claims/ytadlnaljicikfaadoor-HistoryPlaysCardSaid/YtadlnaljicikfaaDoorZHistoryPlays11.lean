/- A part of the proof: a calculus over values, and contracts of functions. No condition. -/
import Derived.Test.YtadlnaljicikfaaDoorZN10
set_option linter.unusedVariables false
set_option linter.unusedSimpArgs false
namespace Go.Proofs.YtadlnaljicikfaaDoor.aI
open Go
set_option maxRecDepth 100000
attribute [local irreducible] Ev.iH Ev.iR Ev.bY Ev.runK Ev.cu Ev.gK Ev.Side Ev.Wp Ev.Again Ev.To Ev.Fin
open Go.Lib Go.RowKit
theorem acB:∀ c,Tryd.f76.body = some c -> comp c = (.seq (.reg 0 [I.n 0 4 (I.sb false)]) (.seq (.seq (.reg 1 [I.n 0 6 (I.mv 0),I.n 1 7 (I.ln 6 25),I.n 2 8 (I.mv 1),I.n 3 9 (I.ln 8 25),I.n 4 10 (I.bo .neq 3 7 9 3)]) (.cond (.tmp 10) (.seq (.reg 2 [I.n 0 4 (I.sb false)]) .ret) .skip)) (.seq (.seq (.reg 3 [I.n 0 5 (I.si 0)]) (.block 0 (.loop (.seq (.seq (.reg 4 [I.n 0 11 (I.mv 5),I.n 1 12 (I.mv 0),I.n 2 13 (I.ln 12 25),I.n 3 14 (I.bo .lss 3 11 13 3)]) (.cond (.tmp 14) .skip (.exit 0))) (.seq (.block 1 (.seq (.draw 6 [I.n 0 17 (I.mv 0),I.n 1 18 (I.mv 5),I.n 2 19 (I.ia 25 17 18),I.n 3 20 (I.ld 3 19),I.n 4 21 (I.mv 1),I.n 5 22 (I.mv 5),I.n 6 23 (I.ia 25 21 22),I.n 7 24 (I.ld 3 23),I.n 8 25 (I.bo .neq 3 20 24 3)] [[],[],[0,1],[2],[],[],[4,5],[6],[3,7]]) (.cond (.tmp 25) (.seq (.reg 7 [I.n 0 4 (I.sb false)]) .ret) .skip))) (.reg 5 [I.n 0 15 (I.mv 5),I.n 1 16 (I.bc .add 3 15 1 3),I.n 2 5 (I.sa 16)])))))) (.seq (.reg 8 [I.n 0 4 (I.sb true)]) .ret)))):=by
 intro c h
 have:c = Tryd.f76.body.get rfl:=by rw [<- Option.some_inj,<- h];rfl
 rw [this];rfl
theorem FQ (l m:List Int) (hl:l.length <= 1000000000):aO env 76 [.lst 1 (ints l),.lst 1 (ints m)] (fun r hs=>r = .v (.bool (decide (l = m))) /\ hs = []):=by
 have hsl:=iI l
 have hsm:=iI m
 refine Ev.fn [0,1,4,5,10,14,25] 0 [.tmp 4] Tryd.func76 (acB _ rfl) ?_
 refine' aar
 rotate_left
 · refine' af4
 have hlen:l.length = m.length:=by omega
 refine Ev.loop (fun k s=>∃ i:Nat,s = ⟨[(0,.lst 1 (ints l)),(1,.lst 1 (ints m)),(4,.v (.bool false)),(5,.v (.int .i64 i))],[],0⟩ /\ k + i = l.length /\ l.take i = m.take i) ?_ ?_
 · refine' adn
 rintro k s1 ⟨i,rfl,hk,hf⟩
 refine' aar
 · rename_i heq
   have hm':i < m.length:=by omega
   exact Ev.again (k - 1) ⟨[(0,_),(1,_),(4,_),(5,.v (.int .i64 ((i + 1:Nat):Int)))],[],0⟩ (by omega) ⟨rfl,rfl,rfl,Ev.eu rfl (by rw [Ev.wrap64];omega),trivial⟩ trivial (Nat.le_refl _) ⟨i + 1,rfl,by omega,by
     rw [List.take_succ_eq_append_getElem (by omega),List.take_succ_eq_append_getElem hm',hf,heq]⟩
 · refine' aeo
 · refine' ac2
end Go.Proofs.YtadlnaljicikfaaDoor.aI
