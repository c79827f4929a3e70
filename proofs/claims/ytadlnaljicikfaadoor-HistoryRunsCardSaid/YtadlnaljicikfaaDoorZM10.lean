/- A part of the proof: a calculus over values, and contracts of functions. No condition. -/
import Derived.Test.YtadlnaljicikfaaDoorZM9
set_option linter.unusedVariables false
set_option linter.unusedSimpArgs false
namespace Go.Proofs.YtadlnaljicikfaaDoor.aB
open Go Go.Lib
theorem WU (l:List Sp) (hl:l.length <= 100000000) (hb:bU l <= 1000000000):aH env 35 [.lst 3 (bM l)] (fun r hs=>∃ E:List Sp,r = .own 0 0 0 (norm l).length /\ hs = [⟨3,35,0,0,false,bM E⟩] /\ E.take (norm l).length = norm l /\ E.length = l.length):=by
 have hsl:=dw l
 have hmx:2000000003 <= maxLen:=by decide
 refine Ev.fnO [0,2,3,4,5,6,15,16,17,18,28,31] 0 [.tmp 2] Tryd.func35 (Sl _ rfl) ?_
 refine' aaq
 · refine' adz
   · refine' afn
   rintro k s1 ⟨i,c,rfl,hk,he⟩
   refine' aae
   · rename_i h;exact absurd h (by omega)
   · refine' acj
     · refine' ac0
     rintro k s1 ⟨j,c,E,rfl,hk,hE,hj,hE1,hE2⟩
     refine' ac2
     · refine' ab3
     · refine' abf
       · refine' aen
       · refine' afo
     · refine' aag
   · refine Ev.zA (k - 1) ⟨i + 1,c,rfl,?_⟩
     refine ⟨by omega,fun j hj hji=>?_⟩
     by_cases e:j = i
     · subst e;assumption
     · exact he j hj (by omega)
   · refine' ads
   · rename_i h;exact absurd rfl h
 · rintro s1 ⟨c,v,E,rfl,hF,hF1,hF2⟩
   refine' abz
   · refine' ae2
   rintro k s1 ⟨i,last,c,E,rfl,hk,hI⟩
   refine' abr
   · refine' aec
   · refine' aa2
   · refine' afk
   · refine' abo
   · refine Ev.Side.of ?_;rw [hw];show last + 1 < E.length;omega
   · have hc:=hI
     rw [show i = (full l).length by omega] at hc
     have he:=hc.end
     have hn:(norm l).length = min (last + 1) (full l).length:=by rw [<- he,List.length_take];omega
     refine Ev.LY [(528,v)] (by simp) (fun F hF=>?_)
     refine' afm
     have e1:(min (IntKind.i64.wrap ((last:Int) + 1)) ((full l).length:Int)).toNat - 0 = (norm l).length:=by rw [hn,hw];omega
     rw [e1]
     exact ⟨E,rfl,rfl,by rw [hn];exact he,hE⟩
 · refine Ev.Side.of ⟨by omega,?_,?_,uY l⟩ <;> simp
end Go.Proofs.YtadlnaljicikfaaDoor.aB
namespace Go.Proofs.YtadlnaljicikfaaDoor.aB
open Go
set_option maxRecDepth 100000
attribute [local irreducible] Ev.gV Ev.iy Ev.bC Ev.runK Ev.bD Ev.fD Ev.Side Ev.Wp Ev.Again Ev.To Ev.Fin
open Go.Lib Go.RowKit
def EI:Ev.Pl:=(.one 0 false (.one 7 false (.two 1 (.one 2 false (.one 3 false (.one 4 false (.one 5 false (.one 6 false (.one 8 false (.one 9 false (.one 10 false (.one 11 false (.one 12 true (.one 13 false .fin))))))))))) 8 (.one 9 false (.one 10 false (.one 11 false (.one 1 false (.one 2 false (.one 3 false (.one 4 false (.one 5 false (.one 6 false (.one 12 true (.one 13 false .fin))))))))))))))
def KY:Ev.Pl:=(.one 0 false (.one 1 false (.one 5 false (.one 8 false (.one 12 false (.two 2 (.one 3 false (.one 4 false (.one 6 true (.one 7 false (.one 14 false (.two 9 (.one 10 false (.two 11 (.one 13 true (.one 15 false (.one 16 false (.one 17 false (.one 18 false .fin))))) 15 (.one 11 false (.one 13 true (.one 16 false (.one 17 false (.one 18 false .fin))))))) 15 (.one 9 false (.one 10 false (.one 11 false (.one 13 true (.one 16 false (.one 17 false (.one 18 false .fin))))))))))))) 9 (.one 10 false (.two 2 (.one 3 false (.one 4 false (.one 6 true (.one 7 false (.one 14 false (.two 11 (.one 13 true (.one 15 false (.one 16 false (.one 17 false (.one 18 false .fin))))) 15 (.one 11 false (.one 13 true (.one 16 false (.one 17 false (.one 18 false .fin))))))))))) 11 (.one 13 true (.one 2 false (.one 3 false (.one 4 false (.one 6 true (.one 7 false (.one 14 false (.one 15 false (.one 16 false (.one 17 false (.one 18 false .fin)))))))))))))))))))
theorem WV:∀ c,Tryd.f154.body = some c -> comp c = (.seq (.reg 0 [I.n 0 2 (I.si 0)]) (.seq (.seq (.reg 1 [I.n 0 3 (I.mv 0),I.n 1 4 (I.nc 3),I.n 2 5 (I.fa 182 4 0),I.n 3 6 (I.ld 23 5),I.n 4 7 (I.ln 6 23),I.n 5 8 (I.bc .eql 3 7 0 3)]) (.cond (.tmp 8) (.seq (.reg 2 [I.n 0 2 (I.si 0)]) .ret) .skip)) (.seq (.reg 3 [I.n 0 9 (I.mv 0),I.n 1 10 (I.nc 9),I.n 2 11 (I.fa 182 10 0),I.n 3 12 (I.ld 23 11),I.n 4 13 (I.ic 23 12 0),I.n 5 14 (I.fa 35 13 0),I.n 6 15 (I.ld 3 14),I.n 7 2 (I.sa 15)]) .ret))):=by
 intro c h
 have:c = Tryd.f154.body.get rfl:=by rw [<- Option.some_inj,<- h];rfl
 rw [this];rfl
theorem EJ:∀ c,Tryd.f156.body = some c -> comp c = (.seq (.reg 0 [I.n 0 2 (I.si 0)]) (.seq (.draw 1 [I.n 0 3 (I.mv 0),I.n 1 4 (I.nc 3),I.n 2 5 (I.fa 182 4 0),I.n 3 6 (I.ld 23 5),I.n 4 7 (I.ic 23 6 0),I.n 5 8 (I.fa 35 7 1),I.n 6 9 (I.ld 3 8),I.n 7 10 (I.mv 0),I.n 8 11 (I.nc 10),I.n 9 12 (I.fa 182 11 1),I.n 10 13 (I.ld 115 12),I.n 11 14 (I.ln 13 115),I.n 12 15 (I.bo .add 3 9 14 3),I.n 13 2 (I.sa 15)] [[],[0],[1],[2],[3],[4],[5],[],[7],[8],[9],[10],[6,11],[12,0,1,2,3,4,5,6,7,8,9,10,11,12]]) .ret)):=by
 intro c h
 have:c = Tryd.f156.body.get rfl:=by rw [<- Option.some_inj,<- h];rfl
 rw [this];rfl
theorem WW:∀ c,Tryd.f155.body = some c -> comp c = (.seq (.reg 0 [I.n 0 4 (.alloc 35)]) (.seq (.reg 1 [I.n 0 6 (I.mv 0),I.n 1 7 (I.nc 6),I.n 2 8 (I.fa 182 7 0),I.n 3 9 (I.ld 23 8),I.n 4 10 (I.ic 23 9 0),I.n 5 11 (I.fa 35 10 0),I.n 6 12 (I.ld 3 11),I.n 7 13 (.build 35 #[(0,.tmp 12)]),I.n 8 5 (.alloc 35),I.u 9 (I.st 35 5 13)]) (.seq (.seq (.reg 2 [I.n 0 14 (I.fa 35 5 0),I.n 1 15 (I.ld 3 14),I.n 2 16 (I.bc .eql 3 15 2 3)]) (.cond (.tmp 16) (.draw 3 [I.n 0 17 (I.mv 0),I.n 1 18 (I.mv 0),I.n 2 19 (I.nc 18),I.n 3 20 (I.fa 182 19 1),I.n 4 21 (I.ld 115 20),I.n 5 22 (I.mv 1),I.n 6 23 (.slice 115 (.tmp 21) none (some (.tmp 22)) none),I.n 7 24 (I.cv 115 9 23),I.n 8 25 (I.mv 0),I.n 9 26 (I.nc 25),I.n 10 27 (I.fa 182 26 1),I.n 11 28 (I.ld 115 27),I.n 12 29 (I.mv 1),I.n 13 30 (.slice 115 (.tmp 28) (some (.tmp 29)) none none),I.n 14 31 (I.fa 35 5 2),I.u 15 (I.st 9 31 24),I.n 16 32 (I.nc 17),I.n 17 33 (I.fa 182 32 1),I.u 18 (I.st 115 33 30)] [[],[],[1],[2],[3],[],[4,5],[6],[],[8],[9],[10],[],[11,12],[1,2,3,4,5,6,7],[14,7,1,2,3,4,5,6,7],[0,0,1,2,3,4,5,6,7,8,9,10,11,12,13,14,15],[16,0,1,2,3,4,5,6,7,8,9,10,11,12,13,14,15],[17,13,15,0,1,2,3,4,5,6,7,8,9,10,11,12,13,14,15]]) (.seq (.reg 4 [I.n 0 34 (I.mv 1),I.n 1 35 (I.fa 35 5 1),I.u 2 (I.st 3 35 34)]) (.reg 5 [I.n 0 36 (I.mv 0),I.n 1 37 (I.nc 36),I.n 2 38 (I.fa 182 37 0),I.n 3 39 (I.ld 23 38),I.n 4 40 (I.ic 23 39 0),I.n 5 41 (I.fa 35 40 1),I.n 6 42 (I.ld 3 41),I.n 7 43 (I.mv 1),I.n 8 44 (I.bo .sub 3 42 43 3),I.n 9 45 (I.ic 23 39 0),I.n 10 46 (I.fa 35 45 1),I.u 11 (I.st 3 46 44)])))) (.seq (.seq (.reg 6 [I.n 0 47 (I.mv 0),I.n 1 48 (I.c1 156 47 164),I.n 2 49 (I.bc .eql 3 48 0 3)]) (.cond (.tmp 49) (.seq (.reg 7 [I.n 0 50 (I.mv 0),I.n 1 51 (I.mv 0),I.n 2 52 (I.nc 51),I.n 3 53 (I.fa 182 52 0),I.n 4 54 (I.ld 23 53),I.n 5 55 (.slice 23 (.tmp 54) (some (.const (Value.int .i64 1))) none none),I.n 6 56 (I.nc 50),I.n 7 57 (I.fa 182 56 0),I.u 8 (I.st 23 57 55)]) (.reg 8 [I.n 0 58 (I.mv 0),I.n 1 59 (I.c1 164 58 164)])) .skip)) (.seq (.reg 9 [I.n 0 60 (I.ld 35 5),I.u 1 (I.st 35 4 60)]) .ret))))):=by
 intro c h
 have:c = Tryd.f155.body.get rfl:=by rw [<- Option.some_inj,<- h];rfl
 rw [this];rfl
theorem EK:∀ c,Tryd.f164.body = some c -> comp c = (.seq (.reg 0 [I.n 0 2 (I.mv 0),I.n 1 3 (I.nc 2),I.n 2 4 (I.fa 182 3 1),I.u 3 (.store 115 (.tmp 4) (.const (Value.slice none 0 0)))]) (.seq (.reg 1 [I.n 0 5 (I.mv 0),I.n 1 6 (I.nc 5),I.n 2 7 (I.fa 182 6 0),I.n 3 8 (I.ld 23 7),I.n 4 9 (I.ln 8 23),I.n 5 10 (I.bc .gtr 3 9 0 3)]) (.cond (.tmp 10) (.reg 2 [I.n 0 11 (I.mv 0),I.n 1 12 (I.mv 0),I.n 2 13 (I.nc 12),I.n 3 14 (I.fa 182 13 0),I.n 4 15 (I.ld 23 14),I.n 5 16 (I.ic 23 15 0),I.n 6 17 (I.fa 35 16 2),I.n 7 18 (I.ld 9 17),I.n 8 19 (I.cv 9 115 18),I.n 9 20 (I.nc 11),I.n 10 21 (I.fa 182 20 1),I.u 11 (I.st 115 21 19)]) .skip))):=by
 intro c h
 have:c = Tryd.f164.body.get rfl:=by rw [<- Option.some_inj,<- h];rfl
 rw [this];rfl
def yu:List Sp -> AV
 | []=>nilA
 | s :: _=>.lst 1 (aW (dK (pts s.t.data.toList)))
def SV:List Sp -> Int
 | []=>0
 | s :: _=>s.k
def Ij (x E:List Sp) (off:Nat):Prop:=off + x.length <= E.length /\ ∀ s l,x = s :: l -> ∃ t,∀ h:off < E.length,E[off] = ⟨s.k,s.n,t⟩ /\ (E.drop (off + 1)).take l.length = l
abbrev OV (vb w:Nat) (E:List Sp) (off n:Nat) (tx:AV):List (Nat × au):=[(5128,⟨2,182,vb,0,true,[[.own 5129 w off n,tx]]⟩),(5129,⟨3,35,w,0,false,bM E⟩)]
theorem jA {E:Env} {N:Nat} {f:FuncId} {args:List AV} {hp:List (Nat × au)} {R R':AV -> List (Nat × au) -> Prop} (hc:dM E N f args hp R) (h:∀ r hp1,R r hp1 -> ∃ H,R' r H /\ subs hp1 H):dM E N f args hp R':=by
 intro M0 w0 c M J w vs inv hn hr
 obtain ⟨a,b⟩:=hc M0 w0 c M J w vs inv hn hr
 refine ⟨a,b.mono ?_⟩
 rintro e w' ⟨v,r,hp1,c',M',J',x1,x2,x3,x4⟩
 obtain ⟨H,y1,y2⟩:=h r hp1 x2
 exact ⟨v,r,H,c',M',J',x1,y1,x3.less (s':=⟨[],H,0⟩) (fun t x h=>by simp [get_nil] at h) (kK y2),x4⟩
theorem Hr (vb w:Nat) {x E:List Sp} {off:Nat} (h:Ij x E off):dM env 65536 154 [.ptr 5128 vb 0 0] (OV vb w E off x.length (yu x)) (fun r hp1=>r = .v (.int .i64 (SV x)) /\ hp1 = OV vb w E off x.length (yu x)):=by
 have hE:=dw E
 have h1:=h.1
 refine Ev.VL [0,2,8] 65536 [.tmp 2] Tryd.func154 (WV _ rfl) (fun ct=>?_)
 refine' Ev.zW
 · rw [List.eq_nil_of_length_eq_zero (l:=x) (by omega)];exact ⟨rfl,rfl⟩
 · rename_i h0
   cases x with
   | nil=>exact absurd rfl h0
   | cons s l =>
     obtain ⟨t,e⟩:=h.2 s l rfl
     refine ⟨?_,rfl⟩
     show AV.v (Value.int .i64 (E[off + Int.toNat 0]'hi).k) = _
     simp only [Int.toNat_zero,Nat.add_zero,(e hi).1];rfl
theorem KZ {s:Sp} (h:aZ s) (ht:s.t.size <= 1000000000):IntKind.i64.wrap (s.n + (aW (dK (pts s.t.data.toList))).length) = dP s:=by
 rw [dO,eF]
 rcases h.cases with ⟨a,b,c,d⟩ | ⟨a,b,c⟩
 · rw [ji (by omega),d]
   have:pts (⟨#[]⟩:ByteArray).data.toList = []:=rfl
   rw [this,List.length_nil,Int.natCast_zero,Int.add_zero,aY (by omega)];omega
 · have:=ru s.t.data.toList
   rw [bn] at this
   rw [yO a,b,aY (by omega)];omega
theorem Ht (vb w:Nat) {s:Sp} {l E:List Sp} {off:Nat} (h:Ij (s :: l) E off) (hs:aZ s) (ht:s.t.size <= 1000000000):dM env 65536 156 [.ptr 5128 vb 0 0] (OV vb w E off (l.length + 1) (yu (s :: l))) (fun r hp1=>r = .v (.int .i64 (dP s)) /\ hp1 = OV vb w E off (l.length + 1) (yu (s :: l))):=by
 have hE:=dw E
 obtain ⟨t,e⟩:=h.2 s l rfl
 have h1:off + (l.length + 1) <= E.length:=h.1
 unfold yu
 refine Ev.VL [0,2] 65536 [.tmp 2] Tryd.func156 (EJ _ rfl) (fun ct=>?_)
 repeat' (first | refine' Ev.zS | refine' Ev.zK | ((with_reducible refine Ev.jO ?_);(first | refine Ev.FZ 1 [] EI ?_);intro Q hQ;(simp only [Ev.dW,Ev.dF,Ev.dG,Ev.dX]);conv=>whnf) | ((with_reducible refine Ev.both ?_ ?_) <;> (conv=>whnf)) | refine' Ev.zT | fail)
 all_goals
   refine ⟨?_,rfl⟩
   show AV.v (Value.int .i64 (IntKind.i64.wrap ((E[off + Int.toNat 0]'hi).n + ((aW (dK (pts s.t.data.toList))).length:Int)))) = _
   simp only [Int.toNat_zero,Nat.add_zero,(e hi).1,KZ hs ht]
set_option maxHeartbeats 4000000 in
theorem Hu (vb w:Nat) {s:Sp} {l E:List Sp} {off m:Nat} (h:Ij (s :: l) E off) (hs:aZ s) (hb:bU (s :: l) <= 1000000000) (hm:m <= dP s):dM env 65536 155 [.ptr 5128 vb 0 0,.v (.int .i64 m)] (OV vb w E off (l.length + 1) (yu (s :: l))) (fun r hp1=>∃ E' off',r = sO (fB s m).k (fB s m).n (fB s m).t /\ hp1 = OV vb w E' off' (bF s m l).length (yu (bF s m l)) /\ Ij (bF s m l) E' off'):=by
  have hE:=dw E
  obtain ⟨t,e⟩:=h.2 s l rfl
  have h1:off + (l.length + 1) <= E.length:=h.1
  unfold yu
  have ht:s.t.size <= 1000000000:=by rw [aG] at hb;omega
  have hmz:(m:Int) <= 1048576 ∨ s.k = 2:=by
    rcases hs.cases with ⟨a,b,c,d⟩ | ⟨a,b,c⟩
    · rw [ji (by omega)] at hm;omega
    · exact .inr a
  have hpl:=ru s.t.data.toList
  rw [bn] at hpl
  have hk2:∀ hi:off + Int.toNat 0 < E.length,E[off + Int.toNat 0] = ⟨s.k,s.n,t⟩:=fun hi=>(e hi).1
  have f2:s.k = 2 -> pts (iO s m).t.data.toList = (pts s.t.data.toList).drop m /\ fB s m = ⟨2,0,txt ((pts s.t.data.toList).take m)⟩ /\ iO s m = ⟨2,0,txt ((pts s.t.data.toList).drop m)⟩ /\ s.n = 0 /\ m <= (pts s.t.data.toList).length:=by
    intro a
    rcases hs.cases with ⟨a',_⟩ | ⟨a,b,c⟩
    · omega
    have hp:=(jE _ c).2
    have e2:iO s m = ⟨2,0,txt ((pts s.t.data.toList).drop m)⟩:=if_pos a
    refine ⟨?_,if_pos a,e2,b,by rw [yO a] at hm;exact hm⟩
    rw [e2]
    show pts (txt _).data.toList = _
    rw [dY,(jY _ (fun p hp'=>hp p (List.mem_of_mem_drop hp'))).2]
  have f1:s.k ≠ 2 -> s.t = ⟨#[]⟩ /\ fB s m = ⟨s.k,m,⟨#[]⟩⟩ /\ iO s m = ⟨s.k,s.n - m,⟨#[]⟩⟩ /\ (m:Int) <= s.n /\ s.n <= 1048576:=by
    intro a
    rcases hs.cases with ⟨a',b,c,d⟩ | ⟨a',b,c⟩
    · rw [ji a] at hm
      exact ⟨d,if_neg a,if_neg a,by omega,c⟩
    · exact absurd a' a
  refine jA (R:=fun r hp1=>r = sO (fB s m).k (fB s m).n (fB s m).t /\ ∃ E' off',Ij (bF s m l) E' off' /\ subs hp1 (OV vb w E' off' (bF s m l).length (yu (bF s m l)))) ?_ ?_
  · refine Ev.VL [0,1,4,5,16,49] 65536 [.cell 4 35] Tryd.func155 (WW _ rfl) (fun ct=>?_)
    repeat' (first | (with_reducible refine Ev.join (a:=.seq (.reg 2 _) _) (fun s'=>∃ (c c1:Nat) (E1:List Sp) (P1:List Nat),s' = ⟨[(0,.ptr 5128 vb 0 0),(1,.v (.int .i64 m)),(4,.ptr 65536 ct 0 0),(5,.ptr 66112 c1 0 0)],[(5128,⟨2,182,vb,0,true,[[.own 5129 w off (l.length + 1),.lst 1 (aW (dK P1))]]⟩),(5129,⟨3,35,w,0,false,bM E1⟩),(65536,⟨3,35,ct,0,true,[qZ ⟨0,0,⟨#[]⟩⟩]⟩),(66112,⟨3,35,c1,0,true,[qZ (fB s m)]⟩)],c⟩ /\ E1.length = E.length /\ Ij (iO s m :: l) E1 off /\ P1 = pts (iO s m).t.data.toList) ?_ ?_) | refine' Ev.zS | ((with_reducible refine Ev.kr (hs:=[156,164]) (fun Q hQ=>?_));refine' Ev.zR) | ((with_reducible refine Ev.jJ 156 ?_);refine Ev.il 156 [0,2] [.tmp 2] Tryd.func156 (EJ _ rfl) (fun aN=>?_)) | ((with_reducible refine Ev.jJ 164 ?_);refine Ev.il 164 [0,10] [] Tryd.func164 (EK _ rfl) (fun aN=>?_)) | ((with_reducible refine Ev.jO ?_);(first | refine Ev.FZ 3 [156,164] KY ?_ | refine Ev.FZ 1 [156,164] EI ?_);intro Q hQ;(simp only [Ev.dW,Ev.dF,Ev.dG,Ev.dX]);conv=>whnf) | ((with_reducible refine Ev.both ?_ ?_) <;> (conv=>whnf)) | refine' Ev.zT | fail)
    all_goals try (
      have hkk:(E[off + Int.toNat 0]'hi).k = 2:=by assumption
      rw [hk2] at hkk
      obtain ⟨g1,g2,g3,g4,g5⟩:=f2 hkk)
    all_goals try (refine Ev.Side.of ⟨by omega,?_⟩;rw [dO,eF];omega)
    · have r1:List.take ((aW (dK (pts s.t.data.toList))).length - (m:Int).toNat) (List.drop (m:Int).toNat (aW (dK (pts s.t.data.toList)))) = aW (dK (pts (iO s m).t.data.toList)):=by
        rw [g1,Int.toNat_natCast,List.take_of_length_le (by simp)];simp [aW,dK,List.map_drop]
      have r2:[AV.v (.int .i64 (E[off + Int.toNat 0]'hi).k),AV.v (.int .i64 0),AV.v (.string (runesBytes (List.take ((m:Int).toNat - 0) (List.drop 0 (dK (pts s.t.data.toList))))))] = qZ (fB s m):=by
        rw [hk2,hkk,g2,List.drop_zero,Nat.sub_zero,Int.toNat_natCast]
        have:List.take m (dK (pts s.t.data.toList)) = dK ((pts s.t.data.toList).take m):=by simp [dK,List.map_take]
        rw [this,jw];rfl
      refine Ev.zB ⟨?_,?_,E,pts (iO s m).t.data.toList,rfl,?_⟩ (by refine' Ev.zp <;> first | (first | exact congrArg (fun x=>au.mk 2 182 vb 0 true [[AV.own 5129 w off (l.length + 1),AV.lst 1 x]]) r1 | exact congrArg (fun x=>au.mk 3 35 _ 0 true [x]) r2 | rfl) | rfl | (refine' Ev.ze;(first | exact congrArg (fun x=>au.mk 2 182 vb 0 true [[AV.own 5129 w off (l.length + 1),AV.lst 1 x]]) r1 | exact congrArg (fun x=>au.mk 3 35 _ 0 true [x]) r2 | rfl)) | fail)
      exact ⟨rfl,⟨by simpa using h1,fun s' l' hx=>by
        obtain ⟨rfl,rfl⟩:=List.cons.inj hx
        exact ⟨t,fun hi=>by rw [(e hi).1,g3,hkk,g4];exact ⟨rfl,(e hi).2⟩⟩⟩,rfl⟩
    · have r1:List.take ((aW (dK (pts s.t.data.toList))).length - (m:Int).toNat) (List.drop (m:Int).toNat (aW (dK (pts s.t.data.toList)))) = aW (dK (pts (iO s m).t.data.toList)):=by
        rw [g1,Int.toNat_natCast,List.take_of_length_le (by simp)];simp [aW,dK,List.map_drop]
      have r2:[AV.v (.int .i64 (E[off + Int.toNat 0]'hi).k),AV.v (.int .i64 0),AV.v (.string (runesBytes (List.take ((m:Int).toNat - 0) (List.drop 0 (dK (pts s.t.data.toList))))))] = qZ (fB s m):=by
        rw [hk2,hkk,g2,List.drop_zero,Nat.sub_zero,Int.toNat_natCast]
        have:List.take m (dK (pts s.t.data.toList)) = dK ((pts s.t.data.toList).take m):=by simp [dK,List.map_take]
        rw [this,jw];rfl
      refine Ev.zB ⟨?_,?_,E,pts (iO s m).t.data.toList,rfl,?_⟩ (by refine' Ev.zp <;> first | (first | exact congrArg (fun x=>au.mk 2 182 vb 0 true [[AV.own 5129 w off (l.length + 1),AV.lst 1 x]]) r1 | exact congrArg (fun x=>au.mk 3 35 _ 0 true [x]) r2 | rfl) | rfl | (refine' Ev.ze;(first | exact congrArg (fun x=>au.mk 2 182 vb 0 true [[AV.own 5129 w off (l.length + 1),AV.lst 1 x]]) r1 | exact congrArg (fun x=>au.mk 3 35 _ 0 true [x]) r2 | rfl)) | fail)
      exact ⟨rfl,⟨by simpa using h1,fun s' l' hx=>by
        obtain ⟨rfl,rfl⟩:=List.cons.inj hx
        exact ⟨t,fun hi=>by rw [(e hi).1,g3,hkk,g4];exact ⟨rfl,(e hi).2⟩⟩⟩,rfl⟩
    · have r1:List.take ((aW (dK (pts s.t.data.toList))).length - (m:Int).toNat) (List.drop (m:Int).toNat (aW (dK (pts s.t.data.toList)))) = aW (dK (pts (iO s m).t.data.toList)):=by
        rw [g1,Int.toNat_natCast,List.take_of_length_le (by simp)];simp [aW,dK,List.map_drop]
      have r2:[AV.v (.int .i64 (E[off + Int.toNat 0]'hi).k),AV.v (.int .i64 0),AV.v (.string (runesBytes (List.take ((m:Int).toNat - 0) (List.drop 0 (dK (pts s.t.data.toList))))))] = qZ (fB s m):=by
        rw [hk2,hkk,g2,List.drop_zero,Nat.sub_zero,Int.toNat_natCast]
        have:List.take m (dK (pts s.t.data.toList)) = dK ((pts s.t.data.toList).take m):=by simp [dK,List.map_take]
        rw [this,jw];rfl
      refine Ev.zB ⟨?_,?_,E,pts (iO s m).t.data.toList,rfl,?_⟩ (by refine' Ev.zp <;> first | (first | exact congrArg (fun x=>au.mk 2 182 vb 0 true [[AV.own 5129 w off (l.length + 1),AV.lst 1 x]]) r1 | exact congrArg (fun x=>au.mk 3 35 _ 0 true [x]) r2 | rfl) | rfl | (refine' Ev.ze;(first | exact congrArg (fun x=>au.mk 2 182 vb 0 true [[AV.own 5129 w off (l.length + 1),AV.lst 1 x]]) r1 | exact congrArg (fun x=>au.mk 3 35 _ 0 true [x]) r2 | rfl)) | fail)
      exact ⟨rfl,⟨by simpa using h1,fun s' l' hx=>by
        obtain ⟨rfl,rfl⟩:=List.cons.inj hx
        exact ⟨t,fun hi=>by rw [(e hi).1,g3,hkk,g4];exact ⟨rfl,(e hi).2⟩⟩⟩,rfl⟩
    · have r1:List.take ((aW (dK (pts s.t.data.toList))).length - (m:Int).toNat) (List.drop (m:Int).toNat (aW (dK (pts s.t.data.toList)))) = aW (dK (pts (iO s m).t.data.toList)):=by
        rw [g1,Int.toNat_natCast,List.take_of_length_le (by simp)];simp [aW,dK,List.map_drop]
      have r2:[AV.v (.int .i64 (E[off + Int.toNat 0]'hi).k),AV.v (.int .i64 0),AV.v (.string (runesBytes (List.take ((m:Int).toNat - 0) (List.drop 0 (dK (pts s.t.data.toList))))))] = qZ (fB s m):=by
        rw [hk2,hkk,g2,List.drop_zero,Nat.sub_zero,Int.toNat_natCast]
        have:List.take m (dK (pts s.t.data.toList)) = dK ((pts s.t.data.toList).take m):=by simp [dK,List.map_take]
        rw [this,jw];rfl
      refine Ev.zB ⟨?_,?_,E,pts (iO s m).t.data.toList,rfl,?_⟩ (by refine' Ev.zp <;> first | (first | exact congrArg (fun x=>au.mk 2 182 vb 0 true [[AV.own 5129 w off (l.length + 1),AV.lst 1 x]]) r1 | exact congrArg (fun x=>au.mk 3 35 _ 0 true [x]) r2 | rfl) | rfl | (refine' Ev.ze;(first | exact congrArg (fun x=>au.mk 2 182 vb 0 true [[AV.own 5129 w off (l.length + 1),AV.lst 1 x]]) r1 | exact congrArg (fun x=>au.mk 3 35 _ 0 true [x]) r2 | rfl)) | fail)
      exact ⟨rfl,⟨by simpa using h1,fun s' l' hx=>by
        obtain ⟨rfl,rfl⟩:=List.cons.inj hx
        exact ⟨t,fun hi=>by rw [(e hi).1,g3,hkk,g4];exact ⟨rfl,(e hi).2⟩⟩⟩,rfl⟩
    · have r1:List.take ((aW (dK (pts s.t.data.toList))).length - (m:Int).toNat) (List.drop (m:Int).toNat (aW (dK (pts s.t.data.toList)))) = aW (dK (pts (iO s m).t.data.toList)):=by
        rw [g1,Int.toNat_natCast,List.take_of_length_le (by simp)];simp [aW,dK,List.map_drop]
      have r2:[AV.v (.int .i64 (E[off + Int.toNat 0]'hi).k),AV.v (.int .i64 0),AV.v (.string (runesBytes (List.take ((m:Int).toNat - 0) (List.drop 0 (dK (pts s.t.data.toList))))))] = qZ (fB s m):=by
        rw [hk2,hkk,g2,List.drop_zero,Nat.sub_zero,Int.toNat_natCast]
        have:List.take m (dK (pts s.t.data.toList)) = dK ((pts s.t.data.toList).take m):=by simp [dK,List.map_take]
        rw [this,jw];rfl
      refine Ev.zB ⟨?_,?_,E,pts (iO s m).t.data.toList,rfl,?_⟩ (by refine' Ev.zp <;> first | (first | exact congrArg (fun x=>au.mk 2 182 vb 0 true [[AV.own 5129 w off (l.length + 1),AV.lst 1 x]]) r1 | exact congrArg (fun x=>au.mk 3 35 _ 0 true [x]) r2 | rfl) | rfl | (refine' Ev.ze;(first | exact congrArg (fun x=>au.mk 2 182 vb 0 true [[AV.own 5129 w off (l.length + 1),AV.lst 1 x]]) r1 | exact congrArg (fun x=>au.mk 3 35 _ 0 true [x]) r2 | rfl)) | fail)
      exact ⟨rfl,⟨by simpa using h1,fun s' l' hx=>by
        obtain ⟨rfl,rfl⟩:=List.cons.inj hx
        exact ⟨t,fun hi=>by rw [(e hi).1,g3,hkk,g4];exact ⟨rfl,(e hi).2⟩⟩⟩,rfl⟩
    · have r1:List.take ((aW (dK (pts s.t.data.toList))).length - (m:Int).toNat) (List.drop (m:Int).toNat (aW (dK (pts s.t.data.toList)))) = aW (dK (pts (iO s m).t.data.toList)):=by
        rw [g1,Int.toNat_natCast,List.take_of_length_le (by simp)];simp [aW,dK,List.map_drop]
      have r2:[AV.v (.int .i64 (E[off + Int.toNat 0]'hi).k),AV.v (.int .i64 0),AV.v (.string (runesBytes (List.take ((m:Int).toNat - 0) (List.drop 0 (dK (pts s.t.data.toList))))))] = qZ (fB s m):=by
        rw [hk2,hkk,g2,List.drop_zero,Nat.sub_zero,Int.toNat_natCast]
        have:List.take m (dK (pts s.t.data.toList)) = dK ((pts s.t.data.toList).take m):=by simp [dK,List.map_take]
        rw [this,jw];rfl
      refine Ev.zB ⟨?_,?_,E,pts (iO s m).t.data.toList,rfl,?_⟩ (by refine' Ev.zp <;> first | (first | exact congrArg (fun x=>au.mk 2 182 vb 0 true [[AV.own 5129 w off (l.length + 1),AV.lst 1 x]]) r1 | exact congrArg (fun x=>au.mk 3 35 _ 0 true [x]) r2 | rfl) | rfl | (refine' Ev.ze;(first | exact congrArg (fun x=>au.mk 2 182 vb 0 true [[AV.own 5129 w off (l.length + 1),AV.lst 1 x]]) r1 | exact congrArg (fun x=>au.mk 3 35 _ 0 true [x]) r2 | rfl)) | fail)
      exact ⟨rfl,⟨by simpa using h1,fun s' l' hx=>by
        obtain ⟨rfl,rfl⟩:=List.cons.inj hx
        exact ⟨t,fun hi=>by rw [(e hi).1,g3,hkk,g4];exact ⟨rfl,(e hi).2⟩⟩⟩,rfl⟩
    · have hkk:¬ (E[off + Int.toNat 0]'hi).k = 2:=by assumption
      rw [hk2] at hkk
      obtain ⟨g1,g2,g3,g4,g5⟩:=f1 hkk
      have hw:IntKind.i64.wrap ((E[off + Int.toNat 0]'hi).n - m) = s.n - m:=by rw [hk2];exact aY (by simp only;omega)
      have r1:(bM E).set (off + Int.toNat 0) (cZ (qZ (E[off + Int.toNat 0]'hi)) (0 + 1) [AV.v (.int .i64 (IntKind.i64.wrap ((E[off + Int.toNat 0]'hi).n - m)))]) = bM (E.set off ⟨s.k,s.n - m,t⟩):=by
        rw [hw,hk2,<- l7];rfl
      have r2:[AV.v (.int .i64 (E[off + Int.toNat 0]'hi).k),AV.v (.int .i64 m),AV.v (.string ⟨#[]⟩)] = qZ (fB s m):=by rw [hk2,g2];rfl
      have r3:aW (dK (pts s.t.data.toList)) = aW (dK (pts (iO s m).t.data.toList)):=by rw [g1,g3]
      refine Ev.zB ⟨?_,?_,E.set off ⟨s.k,s.n - m,t⟩,pts (iO s m).t.data.toList,rfl,?_⟩ (by refine' Ev.zp <;> first | (first | exact congrArg (fun x=>au.mk 2 182 vb 0 true [[AV.own 5129 w off (l.length + 1),AV.lst 1 x]]) r3 | exact congrArg (fun x=>au.mk 3 35 _ 0 true [x]) r2 | exact congrArg (fun x=>au.mk 3 35 w 0 false x) r1 | rfl) | rfl | (refine' Ev.ze;(first | exact congrArg (fun x=>au.mk 2 182 vb 0 true [[AV.own 5129 w off (l.length + 1),AV.lst 1 x]]) r3 | exact congrArg (fun x=>au.mk 3 35 _ 0 true [x]) r2 | exact congrArg (fun x=>au.mk 3 35 w 0 false x) r1 | rfl)) | fail)
      refine ⟨by simp,⟨by simpa using h1,fun s' l' hx=>?_⟩,rfl⟩
      obtain ⟨rfl,rfl⟩:=List.cons.inj hx
      refine ⟨t,fun hi=>?_⟩
      rw [List.getElem_set_self,g3]
      exact ⟨rfl,by rw [List.drop_set_of_lt (by omega)];exact (e (by omega)).2⟩
    · rintro s' ⟨c,c1,E1,P1,rfl,hE1,hR1,hP1⟩
      have hE1':=dw E1
      obtain ⟨t1,e1⟩:=hR1.2 _ _ rfl
      have h11:off + (l.length + 1) <= E1.length:=hR1.1
      obtain ⟨p1,p2,p3,p4,p5,p6,p7⟩:=mG hs hm
      have hz:∀ hi:off + Int.toNat 0 < E1.length,IntKind.i64.wrap ((E1[off + Int.toNat 0]'hi).n + ((aW (dK P1)).length:Int)) = ((dP s - m:Nat):Int):=by
        intro hi
        have q1:E1[off + Int.toNat 0]'hi = ⟨(iO s m).k,(iO s m).n,t1⟩:=(e1 hi).1
        rw [q1,hP1,KZ p2 (by omega)]
        have q2:=rU p2
        rw [p4,List.length_drop,rU hs] at q2
        rw [q2]
      have hE2:∀ (hi:off + Int.toNat 1 + Int.toNat 0 < E1.length) (h0:0 < l.length),E1[off + Int.toNat 1 + Int.toNat 0]'hi = l[0] /\ (E1.drop (off + 1 + 1)).take (l.length - 1) = l.drop 1:=by
        intro hi h0
        have q:=(e1 (by omega)).2
        have hi':off + 1 < E1.length:=hi
        rw [List.drop_eq_getElem_cons hi'] at q
        cases l with
        | nil=>exact absurd h0 (by simp)
        | cons a l =>
          rw [List.length_cons,List.take_succ_cons] at q
          obtain ⟨x1,x2⟩:=List.cons.inj q
          exact ⟨x1,x2⟩
      repeat' (first | refine' Ev.zS | ((with_reducible refine Ev.kr (hs:=[156,164]) (fun Q hQ=>?_));refine' Ev.zR) | ((with_reducible refine Ev.jJ 156 ?_);refine Ev.il 156 [0,2] [.tmp 2] Tryd.func156 (EJ _ rfl) (fun aN=>?_)) | ((with_reducible refine Ev.jJ 164 ?_);refine Ev.il 164 [0,10] [] Tryd.func164 (EK _ rfl) (fun aN=>?_)) | ((with_reducible refine Ev.jO ?_);(first | refine Ev.FZ 3 [156,164] KY ?_ | refine Ev.FZ 1 [156,164] EI ?_);intro Q hQ;(simp only [Ev.dW,Ev.dF,Ev.dG,Ev.dX]);conv=>whnf) | ((with_reducible refine Ev.both ?_ ?_) <;> (conv=>whnf)) | refine' Ev.zT | fail)
      · have q:((dP s - m:Nat):Int) = 0:=(hz (by show off + 0 < E1.length;omega)).symm.trans (by assumption)
        have hl:bF s m l = l:=if_pos (by omega)
        have h0:0 < l.length:=by omega
        have y:=hE2 hi h0
        rw [hl]
        cases l with
        | nil=>simp at h0
        | cons a l =>
          have r1:iC (E1[off + Int.toNat 1 + Int.toNat 0]'hi).t = aW (dK (pts a.t.data.toList)):=by rw [y.1,runes_all];rfl
          refine ⟨rfl,E1,off + 1,⟨by simp at h11 ⊢;omega,fun s' l' hx=>?_⟩,Ev.ah rfl ?_,Ev.ah rfl rfl,trivial⟩
          · obtain ⟨rfl,rfl⟩:=List.cons.inj hx
            exact ⟨_,fun hi=>y⟩
          · exact congrArg (fun x=>au.mk 2 182 vb 0 true [[AV.own 5129 w (off + 1) (l.length + 1),AV.lst 1 x]]) r1
      · refine Ev.Side.of ?_
        rw [(hE2 hi (by omega)).1]
        have:=nM (l:=l) (i:=0) (by omega)
        rw [List.drop_zero] at this
        rw [aG] at hb
        omega
      · have q:((dP s - m:Nat):Int) = 0:=(hz (by show off + 0 < E1.length;omega)).symm.trans (by assumption)
        have hl:bF s m l = l:=if_pos (by omega)
        have h0:l = []:=List.eq_nil_of_length_eq_zero (by omega)
        rw [hl]
        subst h0
        exact ⟨rfl,E1,off + 1,⟨by simpa using h11,fun s' l' hx=>by cases hx⟩,Ev.ah rfl rfl,Ev.ah rfl rfl,trivial⟩
      · have q:¬ ((dP s - m:Nat):Int) = 0:=by rw [<- hz (by show off + 0 < E1.length;omega)];assumption
        have hl:bF s m l = iO s m :: l:=if_neg (by omega)
        rw [hl]
        subst hP1
        exact ⟨rfl,E1,off,hR1,Ev.ah rfl rfl,Ev.ah rfl rfl,trivial⟩
      · have q:((dP s - m:Nat):Int) = 0:=(hz (by show off + 0 < E1.length;omega)).symm.trans (by assumption)
        have hl:bF s m l = l:=if_pos (by omega)
        have h0:0 < l.length:=by omega
        have y:=hE2 hi h0
        rw [hl]
        cases l with
        | nil=>simp at h0
        | cons a l =>
          have r1:iC (E1[off + Int.toNat 1 + Int.toNat 0]'hi).t = aW (dK (pts a.t.data.toList)):=by rw [y.1,runes_all];rfl
          refine ⟨rfl,E1,off + 1,⟨by simp at h11 ⊢;omega,fun s' l' hx=>?_⟩,Ev.ah rfl ?_,Ev.ah rfl rfl,trivial⟩
          · obtain ⟨rfl,rfl⟩:=List.cons.inj hx
            exact ⟨_,fun hi=>y⟩
          · exact congrArg (fun x=>au.mk 2 182 vb 0 true [[AV.own 5129 w (off + 1) (l.length + 1),AV.lst 1 x]]) r1
      · refine Ev.Side.of ?_
        rw [(hE2 hi (by omega)).1]
        have:=nM (l:=l) (i:=0) (by omega)
        rw [List.drop_zero] at this
        rw [aG] at hb
        omega
      · have q:((dP s - m:Nat):Int) = 0:=(hz (by show off + 0 < E1.length;omega)).symm.trans (by assumption)
        have hl:bF s m l = l:=if_pos (by omega)
        have h0:l = []:=List.eq_nil_of_length_eq_zero (by omega)
        rw [hl]
        subst h0
        exact ⟨rfl,E1,off + 1,⟨by simpa using h11,fun s' l' hx=>by cases hx⟩,Ev.ah rfl rfl,Ev.ah rfl rfl,trivial⟩
      · have q:¬ ((dP s - m:Nat):Int) = 0:=by rw [<- hz (by show off + 0 < E1.length;omega)];assumption
        have hl:bF s m l = iO s m :: l:=if_neg (by omega)
        rw [hl]
        subst hP1
        exact ⟨rfl,E1,off,hR1,Ev.ah rfl rfl,Ev.ah rfl rfl,trivial⟩
  · rintro r hp1 ⟨a,E',off',b,c⟩
    exact ⟨_,⟨E',off',a,rfl,b⟩,c⟩
theorem WX:∀ c,Tryd.f153.body = some c -> comp c = (.seq (.reg 0 [I.n 0 2 (.assign (.const (Value.pointer none)))]) (.seq (.reg 1 [I.n 0 4 (I.mv 0),I.n 1 5 (I.c1 35 4 23),I.n 2 6 (.build 182 #[(0,.tmp 5)]),I.n 3 7 (.box 182 (.tmp 6)),I.n 4 3 (I.sa 7)]) (.seq (.reg 2 [I.n 0 8 (I.mv 3),I.n 1 9 (I.c1 164 8 164)]) (.seq (.reg 3 [I.n 0 10 (I.mv 3),I.n 1 2 (I.sa 10)]) .ret)))):=by
 intro c h
 have:c = Tryd.f153.body.get rfl:=by rw [<- Option.some_inj,<- h];rfl
 rw [this];rfl
theorem ae0{G:Prop}(h:G:=by
 have h0:0 < (norm l).length:=by omega
 have hE0:0 < E.length:=by have:=congrArg List.length hE1;rw [List.length_take] at this;omega
 all_goals(rcases(⟨_⟩:PLift _)with⟨h⟩;exact h)):G:=h
theorem qJ (l:List Sp) (hl:l.length <= 100000000) (hb:bU l <= 1000000000) (hbn:bU (norm l) <= 1000000000):aH env 153 [.lst 3 (bM l)] (fun r hs=>∃ E,r = .ptr 0 0 0 0 /\ hs = [⟨2,182,0,0,true,[[.own 1 1 0 (norm l).length,yu (norm l)]]⟩,⟨3,35,1,0,false,bM E⟩] /\ Ij (norm l) E 0):=by
 refine Ev.fnO [0,2,3] 0 [.tmp 2] Tryd.func153 (WX _ rfl) ?_
 repeat' (first | refine' Ev.zS | ((with_reducible refine Ev.kr (hs:=[164]) (fun Q hQ=>?_));refine' Ev.zR) | ((with_reducible refine Ev.jJ 164 ?_);refine Ev.il 164 [0,10] [] Tryd.func164 (EK _ rfl) (fun aN=>?_)) | ((((with_reducible refine Ev.ca0 ?_);refine ⟨(WU l hl hb).mono ?_⟩;rintro _ _ ⟨E,rfl,rfl,hE1,hE2⟩;refine ⟨Nat.le_of_ble_eq_true rfl,⟨rfl,trivial⟩,?_⟩;conv=>whnf));conv=>whnf) | refine' Ev.zT | fail)
 · refine' ae0
   have Z4:(norm l).length <= E.length:=by have:=congrArg List.length hE1;rw [List.length_take] at this;omega
   refine Ev.LY [(536,1),(520,0)] (by simp) (fun F hF=>?_)
   conv=>whnf
   refine hF _ ?_
   generalize norm l = x at *
   cases x with
   | nil=>simp at h0
   | cons s x =>
     rw [List.length_cons] at hE1
     have e0:E = E[0] :: E.drop 1:=(List.drop_eq_getElem_cons hE0)
     have e1:=hE1
     rw [e0,List.take_succ_cons] at e1
     obtain ⟨x1,x2⟩:=List.cons.inj e1
     have r1:iC E[0].t = aW (dK (pts s.t.data.toList)):=by rw [x1,runes_all]
     refine ⟨E,rfl,?_,by simpa using Z4,fun s' l' hx=>?_⟩
     · exact congrArg (fun x'=>[au.mk 2 182 0 0 true [[AV.own 1 1 0 (x.length + 1),AV.lst 1 x']],au.mk 3 35 1 0 false (bM E)]) r1
     · obtain ⟨rfl,rfl⟩:=List.cons.inj hx
       exact ⟨_,fun _=>⟨x1,x2⟩⟩
 · refine Ev.Side.of ?_
   refine' ae0
   have e0:E = E[0] :: E.drop 1:=(List.drop_eq_getElem_cons hE0)
   have ht:=hbn
   generalize norm l = x at *
   cases x with
   | nil=>simp at h0
   | cons s x =>
     rw [List.length_cons] at hE1
     rw [e0,List.take_succ_cons] at hE1
     obtain ⟨x1,x2⟩:=List.cons.inj hE1
     show E[0].t.size <= _
     rw [x1];rw [aG] at ht;omega
 · refine Ev.Side.of ?_
   show 0 < E.length
   have:=congrArg List.length hE1
   rw [List.length_take] at this;omega
 · have h0:norm l = []:=List.eq_nil_of_length_eq_zero (by omega)
   refine Ev.LY [(536,1),(520,0)] (by simp) (fun F hF=>?_)
   conv=>whnf
   refine hF _ ?_
   rw [h0]
   exact ⟨E,rfl,rfl,by simp,fun s' l' hx=>by cases hx⟩
end Go.Proofs.YtadlnaljicikfaaDoor.aB
namespace Go.Proofs.YtadlnaljicikfaaDoor.aB
open Go Go.Lib
abbrev EL (B R vb w:Nat) (E:List Sp) (off n:Nat) (tx:AV):List (Nat × au):=[(B,⟨2,182,vb,0,true,[[.own R w off n,tx]]⟩),(R,⟨3,35,w,0,false,bM E⟩)]
theorem WY {M:Mem} {J:bf} {r r' v off n:Nat} {u:Value} (h:Rel M J (.own r v off n) u):Rel M J (.own r' v off n) u:=by
 cases h with
 | pure h=>cases h
 | own hL hl hN hA hc=>exact .own hL hl hN hA hc
theorem WZ {M:Mem} {J:bf} {r r' v i o:Nat} {u:Value} (h:Rel M J (.ptr r v i o) u):Rel M J (.ptr r' v i o) u:=by
 cases h with
 | pure h=>cases h
 | ptr hL hN=>exact .ptr hL hN
theorem vS {B R vb w:Nat} {E:List Sp} {off n:Nat} {tx:AV} {r:Nat} {k:au} (h:get (EL B R vb w E off n tx) r = some k) :
   (r = B /\ k = ⟨2,182,vb,0,true,[[.own R w off n,tx]]⟩) ∨ (r = R /\ k = ⟨3,35,w,0,false,bM E⟩):=by
 rw [aj,aj,get_nil] at h
 split at h
 · rename_i e;exact .inl ⟨e.symm ▸ rfl,(Option.some.inj h).symm⟩
 · split at h
   · rename_i e;exact .inr ⟨e.symm ▸ rfl,(Option.some.inj h).symm⟩
   · cases h
theorem Inv.SX {E:Env} {M0:pV} {w0:World} {c:Nat} {M:Mem} {J:bf} {W:World} {B R B' R' vb w:Nat} {S:List Sp} {off n:Nat} {tx:AV} (hne:B ≠ R) (inv:Inv E M0 w0 c M J ⟨[],EL B R vb w S off n tx,0⟩ #[] W) :
   Inv E M0 w0 c M J ⟨[],EL B' R' vb w S off n tx,0⟩ #[] W:=by
 have gB:get (EL B R vb w S off n tx) B = some ⟨2,182,vb,0,true,[[.own R w off n,tx]]⟩:=by rw [aj,if_pos rfl]
 have gR:get (EL B R vb w S off n tx) R = some ⟨3,35,w,0,false,bM S⟩:=by rw [aj,if_neg (Ne.symm hne),aj,if_pos rfl]
 refine ⟨inv.below,inv.mem,inv.kD,inv.kE,inv.glob,fun t x h=>by simp [get_nil] at h,?_,?_,?_,inv.vers,inv.jI,inv.far⟩
 · intro r k hk
   rcases vS hk with ⟨rfl,rfl⟩ | ⟨rfl,rfl⟩
   · obtain ⟨L,C,h1,h2,h3⟩:=inv.heap _ _ gB
     refine ⟨L,C,h1,h2,h3.blk,h3.none,h3.size,h3.fits,h3.eG,h3.sz,?_,?_,h3.cap⟩
     · intro i e he
       cases i with
       | zero=>obtain rfl:=Option.some.inj he;rfl
       | succ i=>simp at he
     · intro i e j c he hc
       cases i with
       | zero =>
         obtain rfl:=Option.some.inj he
         cases j with
         | zero =>
           obtain rfl:=Option.some.inj hc
           obtain ⟨u,u1,u2,u3⟩:=h3.cell 0 _ 0 _ rfl rfl
           exact ⟨u,u1,u2,WY u3⟩
         | succ j=>exact h3.cell 0 _ (j + 1) c rfl hc
       | succ i=>simp at he
   · exact inv.heap _ _ gR
 · intro r r' k k' L L' hk hk' hL hL' hN hN' hr
   rcases vS hk with ⟨rfl,rfl⟩ | ⟨rfl,rfl⟩ <;> rcases vS hk' with ⟨rfl,rfl⟩ | ⟨rfl,rfl⟩
   · exact absurd rfl hr
   · exact inv.apart _ _ _ _ L L' gB gR hL hL' hN hN' hne
   · exact inv.apart _ _ _ _ L L' gR gB hL hL' hN hN' (Ne.symm hne)
   · exact absurd rfl hr
 · intro r k L o u hk hL hN hu
   rcases vS hk with ⟨rfl,rfl⟩ | ⟨rfl,rfl⟩
   · have:=inv.owns _ _ L o u gB hL hN hu;exact this
   · exact inv.owns _ _ L o u gR hL hN hu
theorem SY {E:Env} {N:Nat} {f:FuncId} {vb w:Nat} {S:List Sp} {off n:Nat} {tx:AV} {args:List AV} {R:AV -> Nat -> List Sp -> Nat -> Nat -> AV -> Prop} (B' R':Nat) (hne:B' ≠ R')
   (hc:dM E N f (.ptr 5128 vb 0 0 :: args) (OV vb w S off n tx) fun r hp1=>∃ S' off' n' yw,hp1 = OV vb w S' off' n' yw /\ R r w S' off' n' yw) :
   dM E N f (.ptr B' vb 0 0 :: args) (EL B' R' vb w S off n tx) fun r hp1=>∃ S' off' n' yw,hp1 = EL B' R' vb w S' off' n' yw /\ R r w S' off' n' yw:=by
 intro M0 w0 c M J W vs inv hn hr
 obtain ⟨a,b⟩:=hc M0 w0 c M J W vs (inv.SX (B':=5128) (R':=5129) hne) hn (fun i x v hx hv=>by
   cases i with
   | zero=>obtain rfl:=Option.some.inj hx;exact WZ (hr 0 _ v rfl hv)
   | succ i=>exact hr (i + 1) x v hx hv)
 refine ⟨a,b.mono ?_⟩
 rintro e w' ⟨v,r,hp1,c',M',J',x1,⟨S',off',n',yw,rfl,x2⟩,x3,x4⟩
 exact ⟨v,r,_,c',M',J',x1,⟨S',off',n',yw,rfl,x2⟩,x3.SX (by decide),x4⟩
namespace Ev
theorem aa0{G:Prop}(h:G:=by
 have hct:J ct = none:=by
   cases h:J ct with
   | none=>rfl
   | some L=>exact absurd (inv.vers ct L h) (Nat.lt_irrefl _)
 let J':bf:=fun x=>if x = ct then some ⟨0,0,sz,true⟩ else J x
 have hJ:∀ q L,J q = some L -> J' q = some L:=by
   intro q L h
   show (if q = ct then _ else J q) = _
   rw [if_neg (by rintro rfl;rw [hct] at h;cases h)];exact h
 have hc:J' ct = some ⟨0,0,sz,true⟩:=if_pos rfl
 all_goals(rcases(⟨_⟩:PLift _)with⟨h⟩;exact h)):G:=h
theorem ab5{G:Prop}(h:G:=by
 exact ⟨L,C,hJ _ _ h1,h2,h3.blk,h3.none,h3.size,h3.fits,h3.eG,h3.sz,h3.len,fun i e j c h h'=>by
   obtain ⟨u,u1,u2,u3⟩:=h3.cell i e j c h h'
   exact ⟨u,u1,u2,u3.mono (fun _ _ _ h=>h) hJ⟩,h3.cap⟩):G:=h
theorem ac8{G:Prop}(h:G:=by (refine ⟨⟨0,0,sz,true⟩,#[],hc,fun h=>Bool.noConfusion h,⟨fun h=>Bool.noConfusion h,fun _=>rfl,?_,Nat.le_refl _,Nat.le_refl _,rfl,fun i e h=>?_,fun i e j c h=>?_,Nat.zero_le _⟩⟩);all_goals(rcases(⟨_⟩:PLift _)with⟨h⟩;exact h)):G:=h
theorem adv{G:Prop}(h:G:=by
 have hold:∀ q k L,get hp q = some k -> J' k.ver = some L -> J k.ver = some L:=by
   intro q k L h hL
   obtain ⟨L1,C1,a1,_⟩:=inv.heap q k h
   rw [hJ _ _ a1] at hL;rw [a1,hL]
 all_goals(rcases(⟨_⟩:PLift _)with⟨h⟩;exact h)):G:=h
theorem aei{G:Prop}(h:G:=by
 have h:(if q = ct then some ⟨0,0,sz,true⟩ else J q) = some L:=h
 split at h
 all_goals(rcases(⟨_⟩:PLift _)with⟨h⟩;exact h)):G:=h
theorem aer{G:Prop}(h:G:=by
 obtain rfl:=Option.some.inj hk
 rw [hc] at hL;obtain rfl:=Option.some.inj hL;cases hN):G:=h
theorem ae3{G:Prop}(h:G:=by
 obtain ⟨u,h1,h2⟩:=inv.slot t' x hx
 exact ⟨u,h1,h2.mono (fun _ _ _ h=>h) hJ⟩):G:=h
theorem aaJ {E:Env} {sl:List (Nat × AV)} {hp:List (Nat × au)} {ct t r sz ty:Nat} (hg:get sl t = some nilA) (hr:get hp r = none) :
   Gh E ⟨sl,hp,ct⟩ ⟨(t,.own r ct 0 0) :: sl,(r,⟨sz,ty,ct,0,false,[]⟩) :: hp,ct + 8⟩:=by
 intro M0 w0 M J tm w inv
 obtain ⟨v,hv,hrel⟩:=inv.slot t _ hg
 refine' aa0
 have hback:∀ q L,J' q = some L -> L.nil = false -> J q = some L:=by
   intro q L h hN
   refine' aei
   · obtain rfl:=Option.some.inj h;cases hN
   · exact h
 refine' adv
 have hv':v = .slice none 0 0:=by
   cases hrel with
   | pure h=>cases h;rfl
 refine ⟨M,J',inv.below,inv.mem,inv.kD,inv.kE,inv.glob,?_,?_,?_,?_,?_,fun q L h=>hJ _ _ (inv.jI q L h),inv.far⟩
 · intro t' x hx
   rw [aj] at hx
   split at hx
   · rename_i e
     obtain rfl:=Option.some.inj hx
     subst e;subst hv'
     exact ⟨_,hv,.own hc (Nat.le_refl _) (fun _=>rfl) (fun h=>by cases h) rfl⟩
   · refine' ae3
 · intro q k hk
   rw [aj] at hk
   split at hk
   · obtain rfl:=Option.some.inj hk
     refine' ac8
     · show 0 = 0 * sz;omega
     · cases h
     · cases h
   · obtain ⟨L,C,h1,h2,h3⟩:=inv.heap q k hk
     refine' ab5
 · intro q q' k k' L L' hk hk' hL hL' hN hN' hne
   have f:∀ q k L,get ((r,(⟨sz,ty,ct,0,false,[]⟩:au)) :: hp) q = some k -> J' k.ver = some L -> L.nil = false -> get hp q = some k /\ J k.ver = some L:=by
     intro q k L hk hL hN
     rw [aj] at hk
     split at hk
     · refine' aer
     · exact ⟨hk,hold q k L hk hL⟩
   obtain ⟨a1,a2⟩:=f q k L hk hL hN
   obtain ⟨b1,b2⟩:=f q' k' L' hk' hL' hN'
   exact inv.apart q q' k k' L L' a1 b1 a2 b2 hN hN' hne
 · intro q k L o u hk hL hN hu
   rw [aj] at hk
   split at hk
   · refine' aer
   · exact inv.owns q k L o u hk (hold q k L hk hL) hN hu
 · intro q L h
   refine' aei
   · rename_i e;subst e;show q < q + 8;omega
   · exact Nat.lt_of_lt_of_le (inv.vers q L h) (Nat.le_add_right ct 8)
theorem W9 {E:Env} {nt:Nat} (t r sz ty:Nat) {c:CC} {K:Exit -> St -> Prop} {sl:List (Nat × AV)} {hp:List (Nat × au)} {ct:Nat} (hg:get sl t = some nilA) (hr:get hp r = none)
 (h:Wp E nt c K ⟨(t,.own r ct 0 0) :: sl,(r,⟨sz,ty,ct,0,false,[]⟩) :: hp,ct + 8⟩):Wp E nt c K ⟨sl,hp,ct⟩:=uq.ghost (aaJ hg hr) h
end Ev
namespace Ev
theorem Xa {E:Env} {sl:List (Nat × AV)} {hp:List (Nat × au)} {ct q v0 S9 r sz ty n0 j0:Nat} {cs:List AV} (hg:get hp q = some ⟨n0,S9,v0,0,true,[cs]⟩) (hn:cs[j0]? = some nilA) (hr:get hp r = none) :
   Gh E ⟨sl,hp,ct⟩ ⟨sl,(q,⟨n0,S9,v0,0,true,[cs.set j0 (.own r ct 0 0)]⟩) :: (r,⟨sz,ty,ct,0,false,[]⟩) :: hp,ct + 8⟩:=by
 intro M0 w0 M J tm w inv
 have hqr:q ≠ r:=by rintro rfl;rw [hr] at hg;cases hg
 refine' aa0
 refine' adv
 have hcase:∀ p k,get ((q,(⟨n0,S9,v0,0,true,[cs.set j0 (.own r ct 0 0)]⟩:au)) :: (r,(⟨sz,ty,ct,0,false,[]⟩:au)) :: hp) p = some k ->
     (p = q /\ k = ⟨n0,S9,v0,0,true,[cs.set j0 (.own r ct 0 0)]⟩) ∨ (p = r /\ k = ⟨sz,ty,ct,0,false,[]⟩) ∨ (p ≠ q /\ p ≠ r /\ get hp p = some k):=by
   intro p k hk
   rw [aj] at hk
   split at hk
   · rename_i e;exact .inl ⟨e,(Option.some.inj hk).symm⟩
   · rename_i e
     rw [aj] at hk
     split at hk
     · rename_i e2;exact .inr (.inl ⟨e2,(Option.some.inj hk).symm⟩)
     · rename_i e2;exact .inr (.inr ⟨e,e2,hk⟩)
 have f:∀ p k L,get ((q,(⟨n0,S9,v0,0,true,[cs.set j0 (.own r ct 0 0)]⟩:au)) :: (r,(⟨sz,ty,ct,0,false,[]⟩:au)) :: hp) p = some k -> J' k.ver = some L -> L.nil = false ->
     ∃ k0,get hp p = some k0 /\ J k0.ver = some L /\ k0.eG = k.eG /\ k0.sz = k.sz:=by
   intro p k L hk hL hN
   rcases hcase p k hk with ⟨rfl,rfl⟩ | ⟨rfl,rfl⟩ | ⟨_,_,h⟩
   · exact ⟨_,hg,hold _ _ L hg hL,rfl,rfl⟩
   · rw [hc] at hL;obtain rfl:=Option.some.inj hL;cases hN
   · exact ⟨k,h,hold p k L h hL,rfl,rfl⟩
 refine ⟨M,J',inv.below,inv.mem,inv.kD,inv.kE,inv.glob,?_,?_,?_,?_,?_,fun q L h=>hJ _ _ (inv.jI q L h),inv.far⟩
 · intro t' x hx
   refine' ae3
 · intro p k hk
   rcases hcase p k hk with ⟨rfl,rfl⟩ | ⟨rfl,rfl⟩ | ⟨_,_,h⟩
   · obtain ⟨L,C,h1,h2,h3⟩:=inv.heap p _ hg
     refine ⟨L,C,hJ _ _ h1,h2,h3.blk,h3.none,h3.size,h3.fits,h3.eG,h3.sz,fun i e h=>?_,fun i e j c h h'=>?_,h3.cap⟩
     · cases i with
       | zero=>simp at h;subst h;rw [List.length_set];exact h3.len 0 cs rfl
       | succ i=>simp at h
     · cases i with
       | succ i=>simp at h
       | zero =>
         simp at h;subst h
         rw [List.getElem?_set] at h'
         split at h'
         · rename_i e
           subst e
           split at h'
           · obtain rfl:=Option.some.inj h'
             obtain ⟨u,u1,u2,u3⟩:=h3.cell 0 cs j0 nilA rfl hn
             refine ⟨u,u1,u2,?_⟩
             have u4:Rel M J nilA u:=u3.rel
             obtain rfl:=u4.bg
             exact .own hc (Nat.le_refl _) (fun _=>rfl) (fun h=>by cases h) rfl
           · cases h'
         · obtain ⟨u,u1,u2,u3⟩:=h3.cell 0 cs j c rfl h'
           exact ⟨u,u1,u2,u3.mono (fun _ _ _ h=>h) hJ⟩
   · refine' ac8
     · show 0 = 0 * sz;omega
     · cases h
     · cases h
   · obtain ⟨L,C,h1,h2,h3⟩:=inv.heap p k h
     refine' ab5
 · intro p p' k k' L L' hk hk' hL hL' hN hN' hne
   obtain ⟨k1,a1,a2,_⟩:=f p k L hk hL hN
   obtain ⟨k2,b1,b2,_⟩:=f p' k' L' hk' hL' hN'
   exact inv.apart p p' k1 k2 L L' a1 b1 a2 b2 hN hN' hne
 · intro p k L o u hk hL hN hu
   obtain ⟨k1,a1,a2,a3,a4⟩:=f p k L hk hL hN
   have:=inv.owns p k1 L o u a1 a2 hN hu
   rw [a3,a4] at this;exact this
 · intro q L h
   refine' aei
   · rename_i e;subst e;show q < q + 8;omega
   · exact Nat.lt_of_lt_of_le (inv.vers q L h) (Nat.le_add_right ct 8)
theorem Hw {E:Env} {nt:Nat} (q r sz ty j0:Nat) {c:CC} {K:Exit -> St -> Prop} {sl:List (Nat × AV)} {hp:List (Nat × au)} {ct v0 S9 n0:Nat} {cs:List AV} (hg:get hp q = some ⟨n0,S9,v0,0,true,[cs]⟩) (hn:cs[j0]? = some nilA) (hr:get hp r = none)
 (h:Wp E nt c K ⟨sl,(q,⟨n0,S9,v0,0,true,[cs.set j0 (.own r ct 0 0)]⟩) :: (r,⟨sz,ty,ct,0,false,[]⟩) :: hp,ct + 8⟩):Wp E nt c K ⟨sl,hp,ct⟩:=uq.ghost (Xa hg hn hr) h
end Ev
structure CI (C:List Sp) (k:Nat) (x y out:List Sp):Prop where
 len:x.length + y.length <= k
 ax:aQ x
 ay:aQ y
 fx:Ii x
 fy:Ii y
 ho:bJ (gK x) = dA (gK y)
 eq:out ++ jy k x y = C
 bl:out.length + (x.length + y.length) <= 20000000
 bt:bU x + bU y <= 1000000000
theorem CI.fin {C:List Sp} {k:Nat} {out:List Sp} (h:CI C k [] [] out):out = C:=by
 have:=h.eq
 cases k <;> simpa [jy] using this
theorem CI.vk {C:List Sp} {k:Nat} {v:Sp} {y out:List Sp} (h:CI C k [] (v :: y) out):v.k = 2:=by
 have ho:=h.ho
 rw [aC,dJ,fE] at ho
 simp only [bJ] at ho
 refine Decidable.byContradiction fun hk=>?_
 have h1:=(iM h.ay.head).1
 have h2:=vO h.ay.head (h.fy v (by simp))
 rw [ji hk] at h2
 rcases iP h.ay.head with ⟨a,_⟩ | ⟨a,b,c,d⟩
 · exact hk a
 · omega
theorem CI.uk {C:List Sp} {k:Nat} {u:Sp} {x out:List Sp} (h:CI C k (u :: x) [] out):u.k = 3:=by
 have ho:=h.ho
 rw [aC,dZ,fE] at ho
 simp only [dA] at ho
 have h2:=vO h.ax.head (h.fx u (by simp))
 have h3:=rU h.ax.head
 refine Decidable.byContradiction fun hk=>?_
 have h4:=fQ h.ax.head (Nat.le_refl (dP u))
 rw [List.take_of_length_le (by omega)] at h4
 rcases h4 with ⟨_,e⟩ | ⟨a,_⟩ | ⟨_,l,e1,e2⟩
 · rw [e] at ho;have:=(iw (dP u)).2;omega
 · exact hk a
 · rw [e2] at ho;have:=(mF l).2;omega
theorem aav{G:Prop}(h:G:=by
 have hl:=h.len
 simp only [List.length_cons] at hl
 obtain ⟨k',rfl⟩:∃ k',k = k' + 1:=⟨k - 1,by omega⟩
 all_goals(rcases(⟨_⟩:PLift _)with⟨h⟩;exact h)):G:=h
theorem aea{G:Prop}(h:G:=by
 refine' aav
 have ho:=h.ho
 have hb:=h.bt
 have hbl:=h.bl
 all_goals(rcases(⟨_⟩:PLift _)with⟨h⟩;exact h)):G:=h
theorem CI.s1 {C:List Sp} {k:Nat} {v:Sp} {x y out:List Sp} (h:CI C k x (v :: y) out) (hv:v.k = 2):∃ k',k = k' + 1 /\ CI C k' x y (out ++ [v]):=by
 refine' aea
 have hv0:=xk hv
 rw [aC v,dJ] at ho
 rw [aG v] at hb
 simp only [List.length_cons] at hbl
 refine ⟨k',rfl,by omega,h.ax,h.ay.tail,h.fx,h.fy.tail,by omega,?_,by simp;omega,by omega⟩
 rw [<- h.eq]
 cases x with
 | nil=>simp only [jy];rw [if_pos hv];simp
 | cons u x=>simp only [jy];rw [if_pos hv];simp
theorem CI.s2 {C:List Sp} {k:Nat} {u:Sp} {x y out:List Sp} (h:CI C k (u :: x) y out) (hu:u.k = 3) (hv:∀ v ∈ y.head?,v.k ≠ 2):∃ k',k = k' + 1 /\ CI C k' x y (out ++ [u]):=by
 refine' aea
 have hu0:=Hl hu
 rw [aC u,dZ] at ho
 rw [aG u] at hb
 simp only [List.length_cons] at hbl
 refine ⟨k',rfl,by omega,h.ax.tail,h.ay,h.fx.tail,h.fy,by omega,?_,by simp;omega,by omega⟩
 rw [<- h.eq]
 cases y with
 | nil=>simp only [jy];simp
 | cons v y=>simp only [jy];rw [if_neg (hv v (by simp)),if_pos hu];simp
theorem aa8{G:Prop}(h:G:=by
 simp only [List.length_cons] at hbl
 obtain ⟨a1,a2,a3,a4,a5⟩:=lu hx.head hx.tail hn1
 obtain ⟨b1,b2,b3,b4,b5⟩:=lu hy.head hy.tail hn2
 have mx:=kC hx.head hx.tail hn1
 have my:=kC hy.head hy.tail hn2
 have hlen:(bF u n x).length + (bF v n y).length <= x.length + y.length + 1:=by
   rcases hone with h | h
   · have:=a4 h;omega
   · have:=b4 h;omega
 all_goals(rcases(⟨_⟩:PLift _)with⟨h⟩;exact h)):G:=h
theorem acz{G:Prop}(h:G:=by
 refine' aav
 have hn1:n <= dP u:=by omega
 have hn2:n <= dP v:=by omega
 have hone:dP u = n ∨ dP v = n:=by omega
 have hx:=h.ax
 have hy:=h.ay
 have ho:=h.ho
 have hb:=h.bt
 have hbl:=h.bl
 all_goals(rcases(⟨_⟩:PLift _)with⟨h⟩;exact h)):G:=h
theorem CI.s3 {C:List Sp} {k n:Nat} {u v:Sp} {x y out:List Sp} (h:CI C k (u :: x) (v :: y) out) (hv2:v.k ≠ 2) (hu3:u.k ≠ 3) (hn:min (dP u) (dP v) = n) :
   n <= dP u /\ n <= dP v /\ ∃ k',k = k' + 1 /\ CI C k' (bF u n x) (bF v n y) (out ++ if v.k = 1 then [fB u n] else if u.k = 1 then [fB v n] else []):=by
 refine' acz
 refine' aa8
 have hom:bJ ((lq u).take n) = n /\ dA ((lq v).take n) = n:=by
   refine ⟨?_,?_⟩
   · rcases fQ hx.head hn1 with ⟨_,e⟩ | ⟨e,_⟩ | ⟨_,l,e1,e2⟩
     · rw [e];exact (iw n).2
     · exact absurd e hu3
     · rw [e2,<- e1];exact (mF l).2
   · rcases fQ hy.head hn2 with ⟨_,e⟩ | ⟨_,e⟩ | ⟨e,_⟩
     · rw [e];exact (iw n).1
     · rw [e];exact (jh n).1
     · exact absurd e hv2
 rw [mx,my,dZ,dJ] at ho
 rw [aG,aG v] at hb
 refine ⟨hn1,hn2,k',rfl,by omega,a1,b1,iZ hx.head h.fx.tail hn1,iZ hy.head h.fy.tail hn2,by omega,?_,?_,by omega⟩
 · rw [<- h.eq]
   simp only [jy]
   rw [if_neg hv2,if_neg hu3,hn,List.append_assoc]
 · have:(if v.k = 1 then [fB u n] else if u.k = 1 then [fB v n] else []).length <= 1:=by split <;> (try split) <;> simp
   rw [List.length_append];omega
theorem vT {s:Sp} (h:aZ s):fB s (dP s) = s:=by
 rcases h.cases with ⟨a,b,c,d⟩ | ⟨a,b,c⟩
 · rw [AL _ (by omega),ji (by omega)]
   obtain ⟨k,n,t⟩:=s
   simp only at b d ⊢
   subst d
   have:((n.toNat:Nat):Int) = n:=by omega
   rw [this]
 · have e:fB s (dP s) = ⟨2,0,txt ((pts s.t.data.toList).take (dP s))⟩:=if_pos a
   rw [e,yO a,List.take_length,rJ c]
   obtain ⟨k,n,t⟩:=s
   simp only at a b ⊢
   subst a;subst b;rfl
theorem jc (s:Sp) (l:List Sp):bF s (dP s) l = l:=if_pos rfl
structure OI (C:List Sp) (k:Nat) (x y out:List Sp):Prop where
 len:x.length + y.length <= k
 ax:aQ x
 ay:aQ y
 fx:Ii x
 fy:Ii y
 ho:dA (gK x) = dA (gK y)
 hb:bJ (gK y) <= 1048576
 eq:out ++ jF k x y = C
 bl:out.length + (x.length + y.length) <= 20000000
 bt:bU x + bU y <= 1000000000
theorem OI.fin {C:List Sp} {k:Nat} {out:List Sp} (h:OI C k [] [] out):out = C:=by
 have:=h.eq
 cases k <;> simpa [jF] using this
theorem Tc {v:Sp} {l:List Sp} (hv:aZ v) (hf:emptyS v = false) (h:dA (gK (v :: l)) = 0):v.k = 2:=by
 rw [aC,dJ] at h
 refine Decidable.byContradiction fun hk=>?_
 have h1:=(iM hv).1
 have h2:=vO hv hf
 rw [ji hk] at h2
 rcases iP hv with ⟨a,_⟩ | ⟨a,b,c,d⟩
 · exact hk a
 · omega
theorem OI.vk {C:List Sp} {k:Nat} {v:Sp} {y out:List Sp} (h:OI C k [] (v :: y) out):v.k = 2 :=
 Tc (l:=y) h.ay.head (h.fy v (by simp)) (by have:=h.ho;rw [fE] at this;simp only [dA] at this;omega)
theorem OI.uk {C:List Sp} {k:Nat} {u:Sp} {x out:List Sp} (h:OI C k (u :: x) [] out):u.k = 2 :=
 Tc (l:=x) h.ax.head (h.fx u (by simp)) (by have:=h.ho;rw [fE] at this;simp only [dA] at this;omega)
theorem OI.s1 {C:List Sp} {k:Nat} {v:Sp} {x y out:List Sp} (h:OI C k x (v :: y) out) (hv:v.k = 2):∃ k',k = k' + 1 /\ OI C k' x y (out ++ [kpO v]):=by
 refine' aea
 have hq:=h.hb
 have hv0:=xk hv
 rw [aC v,dJ] at ho
 rw [aC v,dZ] at hq
 rw [aG v] at hb
 simp only [List.length_cons] at hbl
 refine ⟨k',rfl,by omega,h.ax,h.ay.tail,h.fx,h.fy.tail,by omega,by omega,?_,by simp;omega,by omega⟩
 rw [<- h.eq]
 cases x with
 | nil=>simp only [jF];rw [if_pos hv];simp
 | cons u x=>simp only [jF];rw [if_pos hv];simp
theorem OI.s2 {C:List Sp} {k:Nat} {u:Sp} {x y out:List Sp} (h:OI C k (u :: x) y out) (hu:u.k = 2) (hv:∀ v ∈ y.head?,v.k ≠ 2):∃ k',k = k' + 1 /\ OI C k' x y (out ++ [u]):=by
 refine' aea
 have hu0:=xk hu
 rw [aC u,dJ] at ho
 rw [aG u] at hb
 simp only [List.length_cons] at hbl
 refine ⟨k',rfl,by omega,h.ax.tail,h.ay,h.fx.tail,h.fy,by omega,h.hb,?_,by simp;omega,by omega⟩
 rw [<- h.eq]
 cases y with
 | nil=>simp only [jF];simp
 | cons v y=>simp only [jF];rw [if_neg (hv v (by simp)),if_pos hu];simp
theorem OI.s3 {C:List Sp} {k n:Nat} {u v:Sp} {x y out:List Sp} (h:OI C k (u :: x) (v :: y) out) (hv2:v.k ≠ 2) (hu2:u.k ≠ 2) (hn:min (dP u) (dP v) = n) :
   n <= dP u /\ n <= dP v /\ ∃ k',k = k' + 1 /\ OI C k' (bF u n x) (bF v n y) (out ++ if v.k = 1 then [fB u n] else []):=by
 refine' acz
 have hq:=h.hb
 refine' aa8
 have one:∀ {s:Sp},aZ s -> s.k ≠ 2 -> n <= dP s -> dA ((lq s).take n) = n:=by
   intro s hs hk hn
   rcases fQ hs hn with ⟨_,e⟩ | ⟨_,e⟩ | ⟨e,_⟩
   · rw [e];exact (iw n).1
   · rw [e];exact (jh n).1
   · exact absurd e hk
 have o1:=one hx.head hu2 hn1
 have o2:=one hy.head hv2 hn2
 rw [mx,my,dJ,dJ] at ho
 rw [my,dZ] at hq
 rw [aG,aG v] at hb
 refine ⟨hn1,hn2,k',rfl,by omega,a1,b1,iZ hx.head h.fx.tail hn1,iZ hy.head h.fy.tail hn2,by omega,by omega,?_,?_,by omega⟩
 · rw [<- h.eq]
   simp only [jF]
   rw [if_neg hv2,if_neg hu2,hn,List.append_assoc]
 · have:(if v.k = 1 then [fB u n] else []).length <= 1:=by split <;> simp
   rw [List.length_append];omega
theorem rdX {N nm ct:Nat} {hp:List (Nat × au)} {K:AV -> List (Nat × au) -> Nat -> Prop} {f:FuncId} {args:List AV} (B R:Nat) (F:List (Nat × au)) {va wa:Nat} {S:List Sp} {off n:Nat} {tx:AV} {P:AV -> Nat -> List Sp -> Nat -> Nat -> AV -> Prop} (hne:B ≠ R)
   (hc:dM env N f (.ptr 5128 va 0 0 :: args) (OV va wa S off n tx) fun r hp1=>∃ S' off' n' yw,hp1 = OV va wa S' off' n' yw /\ P r wa S' off' n' yw)
   (hs:subs hp (EL B R va wa S off n tx)) (hF:subs hp F) (hB:get F B = none) (hR:get F R = none)
   (hk:∀ r S' off' n' yw,P r wa S' off' n' yw -> ∀ c',ct + 8 <= c' -> K r (EL B R va wa S' off' n' yw ++ F) c'):Ev.dU env nm f (.ptr B va 0 0 :: args) hp ct K:=by
 have out:∀ (S:List Sp) (off n:Nat) (tx:AV) (r:Nat),get (EL B R va wa S off n tx) r ≠ none -> get F r = none:=by
   intro S off n tx r h
   cases hg:get (EL B R va wa S off n tx) r with
   | none=>exact absurd hg h
   | some k=>rcases vS hg with ⟨rfl,_⟩ | ⟨rfl,_⟩ <;> assumption
 refine Ev.xX F (SY B R hne hc) rfl hs hF (out S off n tx) ?_
 rintro r hp1 ⟨S',off',n',yw,rfl,h⟩
 exact ⟨out S' off' n' yw,hk r S' off' n' yw h⟩
theorem EM {vb w:Nat} {E:List Sp} {off n:Nat} {tx:AV}:subs (OV vb w E off n tx) (OV vb w E off n tx):=⟨Ev.ah rfl rfl,Ev.ah rfl rfl,trivial⟩
theorem pI {nm ct:Nat} {hp:List (Nat × au)} {K:AV -> List (Nat × au) -> Nat -> Prop} (B R:Nat) (F:List (Nat × au)) {va wa:Nat} {x S:List Sp} {off:Nat} (h:Ij x S off) (hne:B ≠ R)
   (hs:subs hp (EL B R va wa S off x.length (yu x))) (hF:subs hp F) (hB:get F B = none) (hR:get F R = none)
   (hk:∀ c',ct + 8 <= c' -> K (.v (.int .i64 (SV x))) (EL B R va wa S off x.length (yu x) ++ F) c'):Ev.dU env nm 154 [.ptr B va 0 0] hp ct K:=by
 refine rdX (P:=fun r w S' off' n' yw=>r = .v (.int .i64 (SV x)) /\ S' = S /\ off' = off /\ n' = x.length /\ yw = yu x) B R F hne (jA (Hr va wa h) ?_) hs hF hB hR ?_
 · rintro r hp1 ⟨rfl,rfl⟩
   exact ⟨_,⟨S,off,_,_,rfl,rfl,rfl,rfl,rfl,rfl⟩,EM⟩
 · rintro r S' off' n' yw ⟨rfl,rfl,rfl,rfl,rfl⟩
   exact hk
theorem Du {nm ct:Nat} {hp:List (Nat × au)} {K:AV -> List (Nat × au) -> Nat -> Prop} (B R:Nat) (F:List (Nat × au)) {va wa:Nat} {s:Sp} {l S:List Sp} {off:Nat} (h:Ij (s :: l) S off) (hok:aZ s) (ht:s.t.size <= 1000000000) (hne:B ≠ R)
   (hs:subs hp (EL B R va wa S off (l.length + 1) (yu (s :: l)))) (hF:subs hp F) (hB:get F B = none) (hR:get F R = none)
   (hk:∀ c',ct + 8 <= c' -> K (.v (.int .i64 (dP s))) (EL B R va wa S off (l.length + 1) (yu (s :: l)) ++ F) c'):Ev.dU env nm 156 [.ptr B va 0 0] hp ct K:=by
 refine rdX (P:=fun r w S' off' n' yw=>r = .v (.int .i64 (dP s)) /\ S' = S /\ off' = off /\ n' = l.length + 1 /\ yw = yu (s :: l)) B R F hne (jA (Ht va wa h hok ht) ?_) hs hF hB hR ?_
 · rintro r hp1 ⟨rfl,rfl⟩
   exact ⟨_,⟨S,off,_,_,rfl,rfl,rfl,rfl,rfl,rfl⟩,EM⟩
 · rintro r S' off' n' yw ⟨rfl,rfl,rfl,rfl,rfl⟩
   exact hk
theorem Dv {nm ct m:Nat} {mi:Int} {hp:List (Nat × au)} {K:AV -> List (Nat × au) -> Nat -> Prop} (B R:Nat) (F:List (Nat × au)) {va wa:Nat} {s:Sp} {l S:List Sp} {off:Nat} (h:Ij (s :: l) S off) (hok:aZ s) (ht:bU (s :: l) <= 1000000000) (hm:m <= dP s) (hmi:mi = (m:Int)) (hne:B ≠ R)
   (hs:subs hp (EL B R va wa S off (l.length + 1) (yu (s :: l)))) (hF:subs hp F) (hB:get F B = none) (hR:get F R = none)
   (hk:∀ S' off',Ij (bF s m l) S' off' -> ∀ c',ct + 8 <= c' -> K (sO (fB s m).k (fB s m).n (fB s m).t) (EL B R va wa S' off' (bF s m l).length (yu (bF s m l)) ++ F) c'):Ev.dU env nm 155 [.ptr B va 0 0,.v (.int .i64 mi)] hp ct K:=by
 subst hmi
 refine rdX (P:=fun r w S' off' n' yw=>r = sO (fB s m).k (fB s m).n (fB s m).t /\ Ij (bF s m l) S' off' /\ n' = (bF s m l).length /\ yw = yu (bF s m l)) B R F hne (jA (Hu va wa h hok ht hm) ?_) hs hF hB hR ?_
 · rintro r hp1 ⟨E',off',rfl,rfl,hR'⟩
   exact ⟨_,⟨E',off',_,_,rfl,rfl,hR',rfl,rfl⟩,EM⟩
 · rintro r S' off' n' yw ⟨rfl,hR',rfl,rfl⟩
   exact hk S' off' hR'
end Go.Proofs.YtadlnaljicikfaaDoor.aB
namespace Go.Proofs.YtadlnaljicikfaaDoor.aB
open Go
set_option maxRecDepth 100000
attribute [local irreducible] Ev.gV Ev.iy Ev.bC Ev.runK Ev.bD Ev.fD Ev.Side Ev.Wp Ev.Again Ev.To Ev.Fin
open Go.Lib Go.RowKit
theorem La:∀ c,Tryd.f113.body = some c -> comp c = (.seq (.reg 0 [I.n 0 4 I.sn,I.n 1 5 (I.si 0)]) (.scope (.seq (.seq (.reg 1 [I.n 0 15 (I.mv 0),I.n 1 16 (I.mv 1),I.n 2 17 (.buildSlice 22 2 #[(0,.tmp 15),(1,.tmp 16)]),I.n 3 18 (I.ln 17 22),I.n 4 19 (.move (.const (Value.int .i64 0)))]) (.block 0 (.loop (.seq (.reg 2 [I.n 0 20 (I.bo .lss 3 19 18 3)]) (.seq (.cond (.tmp 20) .skip (.exit 0)) (.seq (.block 1 (.seq (.reg 3 [I.n 0 21 (I.ia 22 17 19),I.n 1 22 (I.ld 23 21),I.n 2 7 (I.sa 22)]) (.seq (.reg 4 [I.n 0 23 (I.mv 7),I.n 1 24 (I.c1 72 23 23),I.n 2 8 (I.sa 24)]) (.seq (.reg 5 [I.n 0 25 (I.mv 8),I.n 1 26 (I.bc .neq 30 25 0 30)]) (.cond (.tmp 26) (.seq (.reg 6 [I.n 0 27 (I.mv 8),I.n 1 4 I.sn,I.n 2 5 (I.sa 27)]) .ret) .skip))))) (.reg 7 [I.n 0 28 (I.bc .add 3 19 1 3),I.n 1 19 (I.mv 28)]))))))) (.seq (.seq (.reg 8 [I.n 0 29 (I.mv 0),I.n 1 30 (I.c1 73 29 23),I.n 2 31 (I.mv 1),I.n 3 32 (I.c1 74 31 23),I.n 4 33 (I.bo .neq 3 30 32 3)]) (.cond (.tmp 33) (.seq (.reg 9 [I.n 0 4 I.sn,I.n 1 5 (I.si 5)]) .ret) .skip)) (.seq (.reg 10 [I.n 0 34 (I.mv 0),I.n 1 35 (I.c1 153 34 23),I.n 2 36 (I.mv 1),I.n 3 37 (I.c1 153 36 23),I.n 4 9 (I.sa 35),I.n 5 10 (I.sa 37)]) (.seq (.reg 11 [I.n 0 11 I.sn]) (.seq (.label 0) (.seq (.block 2 (.loop (.block 3 (.seq (.block 4 (.seq (.reg 12 [I.n 0 39 (I.mv 10),I.n 1 40 (I.c1 154 39 164),I.n 2 41 (I.bc .eql 3 40 2 3),I.n 3 38 (I.sa 41)]) (.cond (.tmp 38) (.seq (.reg 13 [I.n 0 42 (I.mv 11),I.n 1 43 (I.mv 10),I.n 2 44 (I.mv 10),I.n 3 45 (I.c1 156 44 164),I.n 4 46 (I.c2 155 43 45 164 3),I.n 5 47 (I.b1 23 46),I.n 6 48 (I.ap 42 47 23 23),I.n 7 11 (I.sa 48)]) (.exit 3)) (.seq (.reg 14 [I.n 0 50 (I.mv 9),I.n 1 51 (I.c1 154 50 164),I.n 2 52 (I.bc .eql 3 51 3 3),I.n 3 49 (I.sa 52)]) (.cond (.tmp 49) (.seq (.reg 15 [I.n 0 53 (I.mv 11),I.n 1 54 (I.mv 9),I.n 2 55 (I.mv 9),I.n 3 56 (I.c1 156 55 164),I.n 4 57 (I.c2 155 54 56 164 3),I.n 5 58 (I.b1 23 57),I.n 6 59 (I.ap 53 58 23 23),I.n 7 11 (I.sa 59)]) (.exit 3)) (.seq (.reg 16 [I.n 0 61 (I.mv 9),I.n 1 62 (I.c1 154 61 164),I.n 2 63 (I.bc .eql 3 62 0 3),I.n 3 64 (I.mv 63),I.w 4 65 (I.mv 10) 64 false,I.w 5 66 (I.c1 154 65 164) 64 false,I.w 6 67 (I.bc .eql 3 66 0 3) 64 false,I.n 7 68 (I.pb 64 true 67),I.n 8 60 (I.sa 68)]) (.cond (.tmp 60) (.exit 2) .skip))))))) (.seq (.reg 17 [I.n 0 69 (I.mv 9),I.n 1 70 (I.c1 156 69 164),I.n 2 71 (I.mv 10),I.n 3 72 (I.c1 156 71 164),I.n 4 73 (.call { callee:=.builtin .min,args:=#[.tmp 70,.tmp 72],argTypes:=#[3,3] }),I.n 5 12 (I.sa 73)]) (.seq (.reg 18 [I.n 0 74 (I.mv 9),I.n 1 75 (I.mv 12),I.n 2 76 (I.c2 155 74 75 164 3),I.n 3 77 (I.mv 10),I.n 4 78 (I.mv 12),I.n 5 79 (I.c2 155 77 78 164 3),I.n 6 13 (.alloc 35),I.n 7 14 (.alloc 35),I.u 8 (I.st 35 13 76),I.u 9 (I.st 35 14 79)]) (.block 5 (.seq (.reg 19 [I.n 0 81 (I.fa 35 14 0),I.n 1 82 (I.ld 3 81),I.n 2 83 (I.bc .eql 3 82 1 3),I.n 3 80 (I.sa 83)]) (.cond (.tmp 80) (.reg 20 [I.n 0 84 (I.mv 11),I.n 1 85 (I.ld 35 13),I.n 2 86 (I.b1 23 85),I.n 3 87 (I.ap 84 86 23 23),I.n 4 11 (I.sa 87)]) (.seq (.reg 21 [I.n 0 89 (I.fa 35 13 0),I.n 1 90 (I.ld 3 89),I.n 2 91 (I.bc .eql 3 90 1 3),I.n 3 88 (I.sa 91)]) (.cond (.tmp 88) (.reg 22 [I.n 0 92 (I.mv 11),I.n 1 93 (I.ld 35 14),I.n 2 94 (I.b1 23 93),I.n 3 95 (I.ap 92 94 23 23),I.n 4 11 (I.sa 95)]) .skip))))))))))) (.seq (.reg 23 [I.n 0 96 (I.mv 11),I.n 1 97 (I.c1 35 96 23),I.n 2 4 (I.sa 97),I.n 3 5 (I.si 0)]) .ret))))))))):=by
 intro c h
 have:c = Tryd.f113.body.get rfl:=by rw [<- Option.some_inj,<- h];rfl
 rw [this];rfl
theorem lC:∀ l:List Sp,aQ l -> 0 <= aS bZ l /\ aS bZ l <= aS dh l + bU l
 | [],_=>by simp [aS,bU]
 | s :: l,h=>by
   obtain ⟨i1,i2⟩:=lC l h.tail
   rw [aV,aV,aG]
   have e:=iM h.head
   have e3:=h.head.dh
   have hp:=ru s.t.data.toList
   rw [bn] at hp
   have:0 <= bZ s /\ bZ s <= dh s + s.t.size:=by
     rw [<- e.2]
     rcases h.head.cases with ⟨a | a,b,c,d⟩ | ⟨a,b,c⟩
     · rw [cO a] at e ⊢;have:=(iw s.n.toNat).2;have:=(iw s.n.toNat).1;omega
     · rw [bV a];have:=(jh s.n.toNat).2;omega
     · rw [bP a];have:=(mF (pts s.t.data.toList)).2;omega
   omega
theorem rV (l:List Sp) (nm ver:Nat):shift nm ver (yu l) = yu l:=by cases l <;> rfl
set_option maxHeartbeats 4000000 in
theorem aaK (a b:List Sp) (la:a.length <= 10000000) (lb:b.length <= 10000000) (ta:bU a <= 100000000) (tb:bU b <= 100000000) (sa:Small a) (sb:Small b) (ma:aF a = 0) (mb:aF b = 0)
    (ho:sumW (fun s=>jk s.k s.n s.t) a = sumW (fun s=>sQ s.k s.n) b):aH env 113 [.lst 3 (bM a),.lst 3 (bM b)] (fun r hs=>r = .dD [.lst 3 (bM (jG a b)),.v (.int .i64 0)] /\ hs = []):=by
  have hA:=eY a (by omega) sa
  have hB:=eY b (by omega) sb
  rw [ma] at hA
  rw [mb] at hB
  have hO:=jo a (by omega) sa
  have hIn:=iE b (by omega)
  have oa:=(sS.of ma (by omega)).1
  have ob:=(sS.of mb (by omega)).1
  have na:=oa.norm
  have nb:=ob.norm
  have ho':aS bZ a = aS dh b:=by
    have h1:=(sS.of mb (by omega)).2
    have h2:=iF a
    have h3:=lC a oa.all
    have h4:=oa.bnd
    rw [aY (by omega)] at h2
    rw [<- h2,<- h1];exact ho
  have hco:=vP oa ob ho'
  have hmm:bJ (gK (norm a)) = dA (gK (norm b)):=by
    have e1:=dB oa.all
    have e2:=dB ob.all
    rw [na.2.2.1,nb.2.2.1];omega
  refine Ev.fn [0,1,4,5,7,8,9,10,11,12,13,14,17,18,19,20,26,33,38,49,60,80,88] 0 [.tmp 4,.tmp 5] Tryd.func113 (La _ rfl) ?_
  refine' Ev.zW
  refine Ev.jumps (r:=?_) 0 (fun k s=>False) (by rfl) ?_ (fun _ _ h=>h.elim)
  repeat' (first | refine' Ev.zP | (with_reducible refine Ev.join (a:=.reg 11 _) (fun s=>∃ (c va wa vb wb:Nat) (S T:List Sp),s = ⟨[(9,.ptr 5128 va 0 0),(10,.ptr 5144 vb 0 0),(11,nilA)],EL 5128 5129 va wa S 0 (norm a).length (yu (norm a)) ++ EL 5144 5145 vb wb T 0 (norm b).length (yu (norm b)),c⟩ /\ Ij (norm a) S 0 /\ Ij (norm b) T 0) ?_ ?_) | refine' Ev.zS | refine' Ev.zK | (with_reducible refine Ev.wI 3 ?_) | ((with_reducible refine Ev.ca0 ?_);(first | refine Ev.ca (hA) ?_ | refine Ev.ca (hB) ?_ | refine Ev.ca (hO) ?_ | refine Ev.ca (hIn) ?_);conv=>whnf) | ((((with_reducible refine Ev.ca0 ?_);refine ⟨(qJ a (by omega) (by omega) (by omega)).mono ?_⟩;rintro _ _ ⟨S,rfl,rfl,hS⟩;refine ⟨Nat.le_of_ble_eq_true rfl,⟨rfl,rfl,trivial⟩,?_⟩;conv=>whnf));conv=>whnf) | ((((with_reducible refine Ev.ca0 ?_);refine ⟨(qJ b (by omega) (by omega) (by omega)).mono ?_⟩;rintro _ _ ⟨T,rfl,rfl,hT⟩;refine ⟨Nat.le_of_ble_eq_true rfl,⟨rfl,rfl,trivial⟩,?_⟩;conv=>whnf));conv=>whnf) | refine' Ev.zT | fail)
  · refine Ev.zB ⟨?_,8,9,10,11,S,T,rfl,?_⟩ (by refine' Ev.zp <;> first | (first | exact congrArg (fun t=>au.mk 2 182 8 0 true [[AV.own 5129 9 0 (norm a).length,t]]) (rV (norm a) 5128 8) | exact congrArg (fun t=>au.mk 2 182 10 0 true [[AV.own 5145 11 0 (norm b).length,t]]) (rV (norm b) 5144 10) | rfl) | rfl | (refine' Ev.ze;(first | exact congrArg (fun t=>au.mk 2 182 8 0 true [[AV.own 5129 9 0 (norm a).length,t]]) (rV (norm a) 5128 8) | exact congrArg (fun t=>au.mk 2 182 10 0 true [[AV.own 5145 11 0 (norm b).length,t]]) (rV (norm b) 5144 10) | rfl)) | fail)
    exact ⟨hS,hT⟩
  · rintro s1 ⟨c,va,wa,vb,wb,S,T,rfl,hS,hT⟩
    obtain ⟨C,hC⟩:∃ C,C = jy ((norm a).length + (norm b).length) (norm a) (norm b):=⟨_,rfl⟩
    have hcC:aB.norm C = jG a b:=by rw [hC];exact hco.2.2.2.2.1
    have hcL:C.length <= 20000000 /\ bU C <= 200000000:=by
      have h1:=hco.2.2.2.2.2.2.2.1
      have h2:=hco.2.2.2.2.2.2.2.2.1
      rw [hC];omega
    refine Ev.W9 11 9000 3 35 rfl rfl ?_
    refine' Ev.zW
    refine Ev.loop (fun k s=>∃ (c va wa vb wb v:Nat) (S T:List Sp) (off oft:Nat) (x y out:List Sp),s = ⟨[(9,.ptr 5128 va 0 0),(10,.ptr 5144 vb 0 0),(11,.own 9000 v 0 out.length)],[(5128,⟨2,182,va,0,true,[[.own 5129 wa off x.length,yu x]]⟩),(5129,⟨3,35,wa,0,false,bM S⟩),(5144,⟨2,182,vb,0,true,[[.own 5145 wb oft y.length,yu y]]⟩),(5145,⟨3,35,wb,0,false,bM T⟩),(9000,⟨3,35,v,0,false,bM out⟩)],c⟩ /\ Ij x S off /\ Ij y T oft /\ CI C k x y out) ?_ ?_
    · refine Ev.zB ⟨(norm a).length + (norm b).length,?_,?_,?_,?_,?_,?_,S,T,0,0,norm a,norm b,[],rfl,?_⟩
      exact ⟨hS,hT,by omega,na.1.all,nb.1.all,na.2.2.2.2.2.2.2,nb.2.2.2.2.2.2.2,hmm,by rw [hC];rfl,by simp;omega,by omega⟩
    rintro k s1 ⟨c,va,wa,vb,wb,v,S,T,off,oft,x,y,out,rfl,hS,hT,hI⟩
    have hol:=dw out
    have hbl:=hI.bl
    rcases x with _ | ⟨u,x⟩ <;> rcases y with _ | ⟨w,y⟩ <;> simp only [List.length_cons,List.length_nil] at hbl
    · have hout:=hI.fin
      subst hout
      repeat' (first | refine' Ev.zP | refine' Ev.zS | ((with_reducible refine Ev.kr (hs:=[154,156,155]) (fun Q hQ=>?_));refine' Ev.zR) | ((((with_reducible refine Ev.gY ?_);refine pI 5128 5129 [(5144,_),(5145,_),(9000,_)] hS (by decide) ⟨Ev.ah rfl rfl,Ev.ah rfl rfl,trivial⟩ ⟨Ev.ah rfl rfl,Ev.ah rfl rfl,Ev.ah rfl rfl,trivial⟩ rfl rfl (fun c' _=>?_);conv=>whnf));conv=>whnf) | ((((with_reducible refine Ev.gY ?_);refine pI 5144 5145 [(5128,_),(5129,_),(9000,_)] hT (by decide) ⟨Ev.ah rfl rfl,Ev.ah rfl rfl,trivial⟩ ⟨Ev.ah rfl rfl,Ev.ah rfl rfl,Ev.ah rfl rfl,trivial⟩ rfl rfl (fun c' _=>?_);conv=>whnf));conv=>whnf) | ((with_reducible refine Ev.ca0 ?_);(first | refine Ev.aO (Ah out (by omega) (by omega)) rfl rfl ?_ | refine Ev.ca (Ah out (by omega) (by omega)) ?_);conv=>whnf) | refine' Ev.zT | fail)
      exact ⟨by rw [hcC];rfl,rfl⟩
    · have hk:SV (w :: y) = 2:=hI.vk
      have XB:bU (w :: y) <= 1000000000:=by have:=hI.bt;omega
      have hsv:w.t.size <= 1000000000:=by rw [aG] at XB;omega
      have hnv:dP w <= dP w:=Nat.le_refl _
      obtain ⟨k',rfl,hJ⟩:=hI.s1 hk
      repeat' (first | (with_reducible refine Ev.bQ hk ?_) | (with_reducible refine Ev.dR hk ?_) | refine' Ev.zP | refine' Ev.zS | ((with_reducible refine Ev.kr (hs:=[154,156,155]) (fun Q hQ=>?_));refine' Ev.zR) | ((((with_reducible refine Ev.gY ?_);refine pI 5128 5129 [(5144,_),(5145,_),(9000,_)] hS (by decide) ⟨Ev.ah rfl rfl,Ev.ah rfl rfl,trivial⟩ ⟨Ev.ah rfl rfl,Ev.ah rfl rfl,Ev.ah rfl rfl,trivial⟩ rfl rfl (fun c' _=>?_);conv=>whnf));conv=>whnf) | ((((with_reducible refine Ev.gY ?_);refine pI 5144 5145 [(5128,_),(5129,_),(9000,_)] hT (by decide) ⟨Ev.ah rfl rfl,Ev.ah rfl rfl,trivial⟩ ⟨Ev.ah rfl rfl,Ev.ah rfl rfl,Ev.ah rfl rfl,trivial⟩ rfl rfl (fun c' _=>?_);conv=>whnf));conv=>whnf) | ((((with_reducible refine Ev.gY ?_);refine Du 5144 5145 [(5128,_),(5129,_),(9000,_)] hT hI.ay.head hsv (by decide) ⟨Ev.ah rfl rfl,Ev.ah rfl rfl,trivial⟩ ⟨Ev.ah rfl rfl,Ev.ah rfl rfl,Ev.ah rfl rfl,trivial⟩ rfl rfl (fun c' _=>?_);conv=>whnf));conv=>whnf) | ((((with_reducible refine Ev.gY ?_);refine Dv 5144 5145 [(5128,_),(5129,_),(9000,_)] hT hI.ay.head XB hnv rfl (by decide) ⟨Ev.ah rfl rfl,Ev.ah rfl rfl,trivial⟩ ⟨Ev.ah rfl rfl,Ev.ah rfl rfl,Ev.ah rfl rfl,trivial⟩ rfl rfl (fun T' JO hT' c' _=>?_);conv=>whnf));conv=>whnf) | refine' Ev.zT | fail)
      simp only [jc,vT hI.ay.head]
      rw [jc] at hT'
      refine Ev.zA (k') ⟨?_,va,wa,vb,wb,?_,S,T',off,JO,[],y,out ++ [w],rfl,?_⟩
      exact ⟨hS,hT',hJ⟩
    · have hk:SV (u :: x) = 3:=hI.uk
      have htu:bU (u :: x) <= 1000000000:=by have:=hI.bt;omega
      have hsu:u.t.size <= 1000000000:=by rw [aG] at htu;omega
      have hnu:dP u <= dP u:=Nat.le_refl _
      obtain ⟨k',rfl,hJ⟩:=hI.s2 hk (by simp)
      repeat' (first | (with_reducible refine Ev.bQ hk ?_) | (with_reducible refine Ev.dR hk ?_) | refine' Ev.zP | refine' Ev.zS | ((with_reducible refine Ev.kr (hs:=[154,156,155]) (fun Q hQ=>?_));refine' Ev.zR) | ((((with_reducible refine Ev.gY ?_);refine pI 5128 5129 [(5144,_),(5145,_),(9000,_)] hS (by decide) ⟨Ev.ah rfl rfl,Ev.ah rfl rfl,trivial⟩ ⟨Ev.ah rfl rfl,Ev.ah rfl rfl,Ev.ah rfl rfl,trivial⟩ rfl rfl (fun c' _=>?_);conv=>whnf));conv=>whnf) | ((((with_reducible refine Ev.gY ?_);refine pI 5144 5145 [(5128,_),(5129,_),(9000,_)] hT (by decide) ⟨Ev.ah rfl rfl,Ev.ah rfl rfl,trivial⟩ ⟨Ev.ah rfl rfl,Ev.ah rfl rfl,Ev.ah rfl rfl,trivial⟩ rfl rfl (fun c' _=>?_);conv=>whnf));conv=>whnf) | ((((with_reducible refine Ev.gY ?_);refine Du 5128 5129 [(5144,_),(5145,_),(9000,_)] hS hI.ax.head hsu (by decide) ⟨Ev.ah rfl rfl,Ev.ah rfl rfl,trivial⟩ ⟨Ev.ah rfl rfl,Ev.ah rfl rfl,Ev.ah rfl rfl,trivial⟩ rfl rfl (fun c' _=>?_);conv=>whnf));conv=>whnf) | ((((with_reducible refine Ev.gY ?_);refine Dv 5128 5129 [(5144,_),(5145,_),(9000,_)] hS hI.ax.head htu hnu rfl (by decide) ⟨Ev.ah rfl rfl,Ev.ah rfl rfl,trivial⟩ ⟨Ev.ah rfl rfl,Ev.ah rfl rfl,Ev.ah rfl rfl,trivial⟩ rfl rfl (fun S' off' hS' c' _=>?_);conv=>whnf));conv=>whnf) | refine' Ev.zT | fail)
      simp only [jc,vT hI.ax.head]
      rw [jc] at hS'
      refine Ev.zA (k') ⟨?_,va,wa,vb,wb,?_,S',T,off',oft,x,[],out ++ [u],rfl,?_⟩
      exact ⟨hS',hT,hJ⟩
    · by_cases hw2:w.k = 2
      · have hk:SV (w :: y) = 2:=hw2
        have XB:bU (w :: y) <= 1000000000:=by have:=hI.bt;omega
        have hsv:w.t.size <= 1000000000:=by rw [aG] at XB;omega
        have hnv:dP w <= dP w:=Nat.le_refl _
        obtain ⟨k',rfl,hJ⟩:=hI.s1 hk
        repeat' (first | (with_reducible refine Ev.bQ hk ?_) | (with_reducible refine Ev.dR hk ?_) | refine' Ev.zP | refine' Ev.zS | ((with_reducible refine Ev.kr (hs:=[154,156,155]) (fun Q hQ=>?_));refine' Ev.zR) | ((((with_reducible refine Ev.gY ?_);refine pI 5128 5129 [(5144,_),(5145,_),(9000,_)] hS (by decide) ⟨Ev.ah rfl rfl,Ev.ah rfl rfl,trivial⟩ ⟨Ev.ah rfl rfl,Ev.ah rfl rfl,Ev.ah rfl rfl,trivial⟩ rfl rfl (fun c' _=>?_);conv=>whnf));conv=>whnf) | ((((with_reducible refine Ev.gY ?_);refine pI 5144 5145 [(5128,_),(5129,_),(9000,_)] hT (by decide) ⟨Ev.ah rfl rfl,Ev.ah rfl rfl,trivial⟩ ⟨Ev.ah rfl rfl,Ev.ah rfl rfl,Ev.ah rfl rfl,trivial⟩ rfl rfl (fun c' _=>?_);conv=>whnf));conv=>whnf) | ((((with_reducible refine Ev.gY ?_);refine Du 5144 5145 [(5128,_),(5129,_),(9000,_)] hT hI.ay.head hsv (by decide) ⟨Ev.ah rfl rfl,Ev.ah rfl rfl,trivial⟩ ⟨Ev.ah rfl rfl,Ev.ah rfl rfl,Ev.ah rfl rfl,trivial⟩ rfl rfl (fun c' _=>?_);conv=>whnf));conv=>whnf) | ((((with_reducible refine Ev.gY ?_);refine Dv 5144 5145 [(5128,_),(5129,_),(9000,_)] hT hI.ay.head XB hnv rfl (by decide) ⟨Ev.ah rfl rfl,Ev.ah rfl rfl,trivial⟩ ⟨Ev.ah rfl rfl,Ev.ah rfl rfl,Ev.ah rfl rfl,trivial⟩ rfl rfl (fun T' JO hT' c' _=>?_);conv=>whnf));conv=>whnf) | refine' Ev.zT | fail)
        simp only [jc,vT hI.ay.head]
        rw [jc] at hT'
        refine Ev.zA (k') ⟨?_,va,wa,vb,wb,?_,S,T',off,JO,u :: x,y,out ++ [w],rfl,?_⟩
        exact ⟨hS,hT',hJ⟩
      have hn2:¬ SV (w :: y) = 2:=hw2
      by_cases hu3:u.k = 3
      · have hk:SV (u :: x) = 3:=hu3
        have htu:bU (u :: x) <= 1000000000:=by have:=hI.bt;omega
        have hsu:u.t.size <= 1000000000:=by rw [aG] at htu;omega
        have hnu:dP u <= dP u:=Nat.le_refl _
        obtain ⟨k',rfl,hJ⟩:=hI.s2 hk (by simpa using hw2)
        repeat' (first | (with_reducible refine Ev.bQ hk ?_) | (with_reducible refine Ev.dR hk ?_) | (with_reducible refine Ev.bT hn2 ?_) | (with_reducible refine Ev.bW hn2 ?_) | refine' Ev.zP | refine' Ev.zS | ((with_reducible refine Ev.kr (hs:=[154,156,155]) (fun Q hQ=>?_));refine' Ev.zR) | ((((with_reducible refine Ev.gY ?_);refine pI 5128 5129 [(5144,_),(5145,_),(9000,_)] hS (by decide) ⟨Ev.ah rfl rfl,Ev.ah rfl rfl,trivial⟩ ⟨Ev.ah rfl rfl,Ev.ah rfl rfl,Ev.ah rfl rfl,trivial⟩ rfl rfl (fun c' _=>?_);conv=>whnf));conv=>whnf) | ((((with_reducible refine Ev.gY ?_);refine pI 5144 5145 [(5128,_),(5129,_),(9000,_)] hT (by decide) ⟨Ev.ah rfl rfl,Ev.ah rfl rfl,trivial⟩ ⟨Ev.ah rfl rfl,Ev.ah rfl rfl,Ev.ah rfl rfl,trivial⟩ rfl rfl (fun c' _=>?_);conv=>whnf));conv=>whnf) | ((((with_reducible refine Ev.gY ?_);refine Du 5128 5129 [(5144,_),(5145,_),(9000,_)] hS hI.ax.head hsu (by decide) ⟨Ev.ah rfl rfl,Ev.ah rfl rfl,trivial⟩ ⟨Ev.ah rfl rfl,Ev.ah rfl rfl,Ev.ah rfl rfl,trivial⟩ rfl rfl (fun c' _=>?_);conv=>whnf));conv=>whnf) | ((((with_reducible refine Ev.gY ?_);refine Dv 5128 5129 [(5144,_),(5145,_),(9000,_)] hS hI.ax.head htu hnu rfl (by decide) ⟨Ev.ah rfl rfl,Ev.ah rfl rfl,trivial⟩ ⟨Ev.ah rfl rfl,Ev.ah rfl rfl,Ev.ah rfl rfl,trivial⟩ rfl rfl (fun S' off' hS' c' _=>?_);conv=>whnf));conv=>whnf) | refine' Ev.zT | fail)
        simp only [jc,vT hI.ax.head]
        rw [jc] at hS'
        refine Ev.zA (k') ⟨?_,va,wa,vb,wb,?_,S',T,off',oft,x,w :: y,out ++ [u],rfl,?_⟩
        exact ⟨hS',hT,hJ⟩
      have hn3:¬ SV (u :: x) = 3:=hu3
      have hn0:¬ SV (u :: x) = 0:=by
        show ¬ u.k = 0
        rcases hI.ax.head.cases with ⟨a,_⟩ | ⟨a,_⟩ <;> omega
      have hm0:¬ SV (w :: y) = 0:=by
        show ¬ w.k = 0
        rcases hI.ay.head.cases with ⟨a,_⟩ | ⟨a,_⟩ <;> omega
      have XB:bU (w :: y) <= 1000000000:=by have:=hI.bt;omega
      have hsv:w.t.size <= 1000000000:=by rw [aG] at XB;omega
      have htu:bU (u :: x) <= 1000000000:=by have:=hI.bt;omega
      have hsu:u.t.size <= 1000000000:=by rw [aG] at htu;omega
      obtain ⟨n,hn⟩:∃ n,min (dP u) (dP w) = n:=⟨_,rfl⟩
      obtain ⟨hnu,hnv,k',rfl,hJ⟩:=hI.s3 hw2 hu3 hn
      have pk:=(mG hI.ax.head hnu).2.2.2.2.2.1
      have qk:=(mG hI.ay.head hnv).2.2.2.2.2.1
      have hmin:min ((dP u:Nat):Int) ((dP w:Nat):Int) = ((n:Nat):Int):=by omega
      repeat' (first | (with_reducible refine Ev.bT hn2 ?_) | (with_reducible refine Ev.bW hn2 ?_) | (with_reducible refine Ev.bT hn3 ?_) | (with_reducible refine Ev.bW hn3 ?_) | (with_reducible refine Ev.bT hn0 ?_) | (with_reducible refine Ev.bW hn0 ?_) | (with_reducible refine Ev.bT hm0 ?_) | (with_reducible refine Ev.bW hm0 ?_) | refine' Ev.zP | refine' Ev.zS | ((with_reducible refine Ev.kr (hs:=[154,156,155]) (fun Q hQ=>?_));refine' Ev.zR) | ((((with_reducible refine Ev.gY ?_);refine pI 5128 5129 [(5144,_),(5145,_),(9000,_)] hS (by decide) ⟨Ev.ah rfl rfl,Ev.ah rfl rfl,trivial⟩ ⟨Ev.ah rfl rfl,Ev.ah rfl rfl,Ev.ah rfl rfl,trivial⟩ rfl rfl (fun c' _=>?_);conv=>whnf));conv=>whnf) | ((((with_reducible refine Ev.gY ?_);refine pI 5144 5145 [(5128,_),(5129,_),(9000,_)] hT (by decide) ⟨Ev.ah rfl rfl,Ev.ah rfl rfl,trivial⟩ ⟨Ev.ah rfl rfl,Ev.ah rfl rfl,Ev.ah rfl rfl,trivial⟩ rfl rfl (fun c' _=>?_);conv=>whnf));conv=>whnf) | ((((with_reducible refine Ev.gY ?_);refine Du 5128 5129 [(5144,_),(5145,_),(9000,_)] hS hI.ax.head hsu (by decide) ⟨Ev.ah rfl rfl,Ev.ah rfl rfl,trivial⟩ ⟨Ev.ah rfl rfl,Ev.ah rfl rfl,Ev.ah rfl rfl,trivial⟩ rfl rfl (fun c' _=>?_);conv=>whnf));conv=>whnf) | ((((with_reducible refine Ev.gY ?_);refine Du 5144 5145 [(5128,_),(5129,_),(9000,_)] hT hI.ay.head hsv (by decide) ⟨Ev.ah rfl rfl,Ev.ah rfl rfl,trivial⟩ ⟨Ev.ah rfl rfl,Ev.ah rfl rfl,Ev.ah rfl rfl,trivial⟩ rfl rfl (fun c' _=>?_);conv=>whnf));conv=>whnf) | ((((with_reducible refine Ev.gY ?_);refine Dv 5128 5129 [(5144,_),(5145,_),(9000,_)] hS hI.ax.head htu hnu hmin (by decide) ⟨Ev.ah rfl rfl,Ev.ah rfl rfl,trivial⟩ ⟨Ev.ah rfl rfl,Ev.ah rfl rfl,Ev.ah rfl rfl,trivial⟩ rfl rfl (fun S' off' hS' c' _=>?_);conv=>whnf));conv=>whnf) | ((((with_reducible refine Ev.gY ?_);refine Dv 5144 5145 [(5128,_),(5129,_),(9000,_)] hT hI.ay.head XB hnv hmin (by decide) ⟨Ev.ah rfl rfl,Ev.ah rfl rfl,trivial⟩ ⟨Ev.ah rfl rfl,Ev.ah rfl rfl,Ev.ah rfl rfl,trivial⟩ rfl rfl (fun T' JO hT' c' _=>?_);conv=>whnf));conv=>whnf) | refine' Ev.zT | fail)
      · have hwk:w.k = 1:=by rw [<- qk];assumption
        rw [if_pos hwk] at hJ
        refine Ev.zA (k') ⟨?_,va,wa,vb,wb,?_,S',T',off',JO,bF u n x,bF w n y,out ++ [fB u n],rfl,?_⟩
        exact ⟨hS',hT',hJ⟩
      · have hwk:¬ w.k = 1:=by rw [<- qk];assumption
        have huk:u.k = 1:=by rw [<- pk];assumption
        rw [if_neg hwk,if_pos huk] at hJ
        refine Ev.zA (k') ⟨?_,va,wa,vb,wb,?_,S',T',off',JO,bF u n x,bF w n y,out ++ [fB w n],rfl,?_⟩
        exact ⟨hS',hT',hJ⟩
      · have hwk:¬ w.k = 1:=by rw [<- qk];assumption
        have huk:¬ u.k = 1:=by rw [<- pk];assumption
        rw [if_neg hwk,if_neg huk,List.append_nil] at hJ
        refine Ev.zA (k') ⟨?_,va,wa,vb,wb,v,S',T',off',JO,bF u n x,bF w n y,out,rfl,?_⟩
        exact ⟨hS',hT',hJ⟩
  · rename_i h;exact absurd ho h
theorem OW {n:Int} {x:List Sp} (h:jd n x = 0):aF x = 0 /\ jK x = n /\ outW x <= 1048576 /\ Bd x = true:=by
 unfold jd at h
 by_cases h1:aF x = 0
 · rw [if_neg (by simp [h1])] at h
   by_cases h2:jK x = n
   · rw [if_neg (by simp [h2])] at h
     by_cases h3:1048576 < outW x
     · rw [if_pos h3] at h;cases h
     · rw [if_neg h3] at h
       cases h4:Bd x with
       | true=>exact ⟨h1,h2,by omega,rfl⟩
       | false=>rw [h4] at h;cases h
   · rw [if_pos h2] at h;cases h
 · rw [if_pos h1] at h;exact absurd h h1
theorem Xb {n:Int} {x:List Sp} (h1:aF x = 0) (h2:jK x = n) (h3:outW x <= 1048576) (h4:Bd x = true):jd n x = 0:=by
 unfold jd;rw [if_neg (by simp [h1]),if_neg (by simp [h2]),if_neg (by omega),if_pos h4]
theorem Dw:∀ (l:List (List Sp)) (n:Int) (t:ByteArray),validD t.data.toList = true -> aI t.data.toList = n -> dn n l = 0 -> (∀ x ∈ l,x.length <= 100000000) -> t.size + lH l <= 1000000000 ->
   ∃ u,kY l t = (0,u) /\ validD u.data.toList = true /\ aI u.data.toList = iT n l /\ u.size <= t.size + lH l
 | [],n,t,hv,hc,_,_,_=>⟨t,rfl,hv,hc,by simp [lH]⟩
 | x :: l,n,t,hv,hc,hs,hx,hb=>by
   have h0:jd n x = 0:=by
     simp only [dn] at hs
     by_cases h:jd n x = 0
     · exact h
     · rw [if_neg h] at hs;exact absurd hs h
   simp only [dn] at hs
   rw [if_pos h0] at hs
   obtain ⟨a1,a2,a3,a4⟩:=OW h0
   rw [rM] at hb
   have hz:pR x t = 0:=ED a1 hv (by rw [a2,<- hc,cu hv])
   obtain ⟨b1,b2,b3,b4⟩:=Dk hz (by have:=hx x (by simp);omega) (by omega)
   obtain ⟨u,c1,c2,c3,c4⟩:=Dw l (outW x) (vJ x t) b1 (by rw [cu b1,b3]) hs (fun y hy=>hx y (by simp [hy])) (by omega)
   refine ⟨u,?_,c2,c3,by rw [rM];omega⟩
   simp only [kY];rw [if_pos hz];exact c1
theorem Hy:∀ (a b:List (List Sp)) (t:ByteArray),(kY a t).1 = 0 -> kY (a ++ b) t = kY b (kY a t).2
 | [],b,t,_=>rfl
 | x :: a,b,t,h=>by
   rw [List.cons_append]
   simp only [kY] at h ⊢
   by_cases h0:pR x t = 0
   · rw [if_pos h0] at h ⊢;rw [if_pos h0];exact Hy a b _ h
   · rw [if_neg h0] at h;exact absurd h h0
theorem Td {c:Lg} (h:EU c = 0):validD c.base.data.toList = true /\ aI c.base.data.toList <= 1048576 /\ rises c.revs = true /\ c.revs.length = c.aA.length + 1 /\ dn (aI c.base.data.toList) c.aA = 0:=by
 unfold EU at h
 by_cases h1:aI c.base.data.toList < 0
 · rw [if_pos h1] at h;cases h
 · rw [if_neg h1] at h
   by_cases h2:1048576 < aI c.base.data.toList
   · rw [if_pos h2] at h;cases h
   · rw [if_neg h2] at h
     by_cases h3:qH c.revs ≠ 0 ∨ c.revs.length ≠ c.aA.length + 1
     · rw [if_pos h3] at h;cases h
     · rw [if_neg h3] at h
       refine ⟨?_,by omega,?_,by omega,h⟩
       · cases hv:validD c.base.data.toList with
         | true=>rfl
         | false=>rw [Ae hv] at h1;omega
       · cases hr:rises c.revs with
         | true=>rfl
         | false=>exact absurd (.inl (by unfold qH;rw [hr];decide)) h3
theorem aaL {c:Lg} (h1:validD c.base.data.toList = true) (h2:aI c.base.data.toList <= 1048576) (h3:rises c.revs = true) (h4:c.revs.length = c.aA.length + 1) (h5:dn (aI c.base.data.toList) c.aA = 0):EU c = 0:=by
 have:0 <= aI c.base.data.toList:=by rw [cu h1];omega
 unfold EU
 rw [if_neg (by omega),if_neg (by omega),if_neg,h5]
 rintro (h | h)
 · apply h;unfold qH;rw [h3];rfl
 · exact h h4
theorem o8 {l:List (List Sp)} {n:Int} (h:dn n l = 0) (i:Nat):dn n (l.take i) = 0 /\ dn (iT n (l.take i)) (l.drop i) = 0:=by
 have e:=rG (l.take i) (l.drop i) n
 rw [List.take_append_drop,h] at e
 by_cases h0:dn n (l.take i) = 0
 · rw [if_pos h0] at e;exact ⟨h0,e.symm⟩
 · rw [if_neg h0] at e;exact absurd e.symm h0
def Dx (c:Lg) (i:Nat):ByteArray:=(kY (c.aA.take i) c.base).2
theorem Tf {l:List Int} (h0:l ≠ []) (h1:l.length <= 65536) (h2:fA (-1) l = true):rises l = true:=by
 unfold rises;rw [h2,decide_eq_true h1]
 cases l with
 | nil=>exact absurd rfl h0
 | cons x l=>rfl
theorem Ti {x:List Sp} (h:aF x = 0) (hl:x.length <= 1000000000) (ho:outW x <= 1048576):jd (jK x) (norm x) = 0:=by
 obtain ⟨h3,h4⟩:=(eP x).1 h
 exact Xb (Gw h hl) (Wj h hl) (by rw [Gx h hl];exact ho) (nK x h3 (by rw [<- jf h3 hl];exact h4))
theorem Hz:∀ (W:List (List Sp)) (n:Int),Z5 n W -> dn n (W.map norm) = 0
 | [],_,_=>rfl
 | x :: W,n,⟨⟨y,m,e,m1,m2⟩,hin,hr⟩=>by
   have h1:aF x = 0:=by rw [e];exact Gq y (by omega)
   have h2:x.length <= 13:=by rw [e];exact (vG y (by omega)).1
   have h3:outW x <= 1048576:=by rw [e];have:=(KL y (n:=m) (by omega)).2;omega
   have h4:=Ti h1 (by omega) h3
   rw [hin] at h4
   rw [List.map_cons]
   simp only [dn]
   rw [if_pos h4,Gx h1 (by omega)]
   exact Hz W _ hr
theorem HY:∀ n:Nat,n <= 1000 -> rises ((List.range (n + 1)).map fun (i:Nat)=>(i:Int)) = true:=by
 have key:∀ n:Nat,n <= 1001 -> fA (-1) ((List.range n).map fun (i:Nat)=>(i:Int)) = true /\ iq (-1) ((List.range n).map fun (i:Nat)=>(i:Int)) = (n:Int) - 1:=by
   intro n
   induction n with
   | zero=>intro _;exact ⟨rfl,rfl⟩
   | succ n ih =>
     intro h
     obtain ⟨a,b⟩:=ih (by omega)
     have e:((List.range (n + 1)).map fun (i:Nat)=>(i:Int)) = ((List.range n).map fun (i:Nat)=>(i:Int)) ++ [(n:Int)]:=by rw [List.range_succ,List.map_append];rfl
     rw [e,l9,Ak,a,b]
     refine ⟨?_,by omega⟩
     simp only [Bool.true_and,Bool.and_eq_true,decide_eq_true_eq];omega
 intro n hn
 refine Tf ?_ (by simp;omega) (key (n + 1) (by omega)).1
 intro e;have:=congrArg List.length e;simp at this
theorem H6 (t:ByteArray) (l:List (List Sp)):EU (kZ t l) = 0 /\ LgS (kZ t l) /\ (kZ t l).base.size <= 4000 /\ lH (kZ t l).aA <= 10000 /\ (kZ t l).aA.length <= 20:=by
 refine' aeb
 have hb:=Gg (t.extract 0 (min t.size 20)) (by omega)
 have hv:=Cm (t.extract 0 (min t.size 20))
 have hc:=wR (t.extract 0 (min t.size 20))
 have hW:=Ez l (n:=aI (jm (t.extract 0 (min t.size 20))).data.toList) (by omega)
 have hN:∀ x ∈ OL l (aI (jm (t.extract 0 (min t.size 20))).data.toList),(norm x).length <= 13 /\ bU (norm x) <= 312:=by
   intro x hx
   obtain ⟨y,m,rfl,m1,m2⟩:=yL hW.1 x hx
   exact (GN y (by omega)).2
 have htb:∀ W:List (List Sp),(∀ x ∈ W,bU (norm x) <= 312) -> lH (W.map norm) <= 312 * W.length:=by
   intro W
   induction W with
   | nil=>intro _;simp [lH]
   | cons x W ih =>
     intro h
     have h1:=h x (by simp)
     have h2:=ih (fun y hy=>h y (by simp [hy]))
     rw [List.map_cons,rM,List.length_cons,Nat.mul_succ];omega
 unfold kZ
 generalize jm (t.extract 0 (min t.size 20)) = b at *
 simp only
 have h4:=htb _ (fun x hx=>(hN x hx).2)
 have hs:=Hz _ _ hW.1
 refine ⟨aaL hv (by show aI b.data.toList <= _;omega) (HY _ (by omega)) (by simp) hs,⟨by show b.size <= _;omega,by simp;omega,by simp;omega,?_⟩,hb,by have:=hW.2;show lH _ <= _;omega,by simp;exact hW.2⟩
 intro x hx
 obtain ⟨y,hy,rfl⟩:=List.mem_map.1 hx
 exact ⟨by have:=(hN y hy).1;omega,jX (by have:=(hN y hy).2;omega)⟩
def lI (a b:List Sp):Int:=if aF a ≠ 0 then aF a else if aF b ≠ 0 then aF b else if outW a ≠ jK b then 5 else 0
def Tj (a b:List Sp):AV:=.dD [if lI a b = 0 then .lst 3 (bM (jG a b)) else nilA,.v (.int .i64 (lI a b))]
theorem vU {a b:List Sp} {e:Int} (h:lI a b = e) (h0:e ≠ 0):Tj a b = .dD [nilA,.v (.int .i64 e)]:=by
 unfold Tj;rw [h,if_neg h0]
theorem Lc {a b:List Sp} (h:lI a b = 0):Tj a b = .dD [.lst 3 (bM (jG a b)),.v (.int .i64 0)]:=by
 unfold Tj;rw [h,if_pos rfl]
theorem aay{G:Prop}(h:G:=by
 refine Ev.fn [0,1,4,5,7,8,9,10,11,12,13,14,17,18,19,20,26,33,38,49,60,80,88] 0 [.tmp 4,.tmp 5] Tryd.func113 (La _ rfl) ?_
 refine' Ev.zW
 refine Ev.jumps (r:=?_) 0 (fun k s=>False) (by rfl) ?_ (fun _ _ h=>h.elim)
 all_goals(rcases(⟨_⟩:PLift _)with⟨h⟩;exact h)):G:=h
theorem Tm (a b:List Sp) (la:a.length <= 10000000) (lb:b.length <= 10000000) (ta:bU a <= 100000000) (tb:bU b <= 100000000) (sa:Small a) (sb:Small b) :
   aH env 113 [.lst 3 (bM a),.lst 3 (bM b)] (fun r hs=>r = Tj a b /\ hs = []):=by
 have hA:=eY a (by omega) sa
 have hB:=eY b (by omega) sb
 by_cases ma:aF a = 0
 · by_cases mb:aF b = 0
   · by_cases ho:sumW (fun s=>jk s.k s.n s.t) a = sumW (fun s=>sQ s.k s.n) b
     · have:lI a b = 0:=by unfold lI;rw [if_neg (by simpa using ma),if_neg (by simpa using mb),if_neg (by simpa [outW,jK] using ho)]
       rw [Lc this]
       exact aaK a b la lb ta tb sa sb ma mb ho
     · have:lI a b = 5:=by unfold lI;rw [if_neg (by simpa using ma),if_neg (by simpa using mb),if_pos (by simpa [outW,jK] using ho)]
       rw [vU this (by decide)]
       have hO:=jo a (by omega) sa
       have hIn:=iE b (by omega)
       rw [ma] at hA
       rw [mb] at hB
       refine' aay
       repeat' (first | refine' Ev.zP | (with_reducible refine Ev.bT ho ?_) | (with_reducible refine Ev.bW ho ?_) | refine' Ev.zS | refine' Ev.zK | (with_reducible refine Ev.wI 3 ?_) | ((with_reducible refine Ev.ca0 ?_);(first | refine Ev.ca (hA) ?_ | refine Ev.ca (hB) ?_ | refine Ev.ca (hO) ?_ | refine Ev.ca (hIn) ?_);conv=>whnf) | refine' Ev.zT | fail)
       exact ⟨rfl,rfl⟩
   · have:lI a b = aF b:=by unfold lI;rw [if_neg (by simpa using ma),if_pos mb]
     rw [vU this mb]
     rw [ma] at hA
     refine' aay
     repeat' (first | refine' Ev.zP | (with_reducible refine Ev.bT mb ?_) | (with_reducible refine Ev.bW mb ?_) | refine' Ev.zS | refine' Ev.zK | (with_reducible refine Ev.wI 3 ?_) | ((with_reducible refine Ev.ca0 ?_);(first | refine Ev.ca (hA) ?_ | refine Ev.ca (hB) ?_);conv=>whnf) | refine' Ev.zT | fail)
     exact ⟨rfl,rfl⟩
 · have:lI a b = aF a:=by unfold lI;rw [if_pos ma]
   rw [vU this ma]
   refine' aay
   repeat' (first | refine' Ev.zP | (with_reducible refine Ev.bT ma ?_) | (with_reducible refine Ev.bW ma ?_) | refine' Ev.zS | refine' Ev.zK | (with_reducible refine Ev.wI 3 ?_) | ((with_reducible refine Ev.ca0 ?_);(first | refine Ev.ca (hA) ?_ | refine Ev.ca (hB) ?_);conv=>whnf) | refine' Ev.zT | fail)
   exact ⟨rfl,rfl⟩
def XC (x E:List Sp) (off:Nat):Prop:=off + x.length <= E.length /\ (E.drop off).take x.length = x
theorem XC.cons {s:Sp} {l E:List Sp} {off:Nat} (h:XC (s :: l) E off):∃ h:off < E.length,E[off] = s /\ XC l E (off + 1):=by
 obtain ⟨h1,h2⟩:=h
 simp only [List.length_cons] at h1 h2
 have hlt:off < E.length:=by omega
 rw [List.drop_eq_getElem_cons hlt,List.take_succ_cons] at h2
 injection h2 with a b
 exact ⟨hlt,a,by omega,b⟩
theorem XC.set {s u:Sp} {l E:List Sp} {off:Nat} (h:XC (s :: l) E off):XC (u :: l) (E.set off u) off /\ XC l (E.set off u) (off + 1):=by
 obtain ⟨h1,h2,h3,h4⟩:=h.cons
 have e:XC l (E.set off u) (off + 1):=⟨by simpa using h3,by rw [List.drop_set_of_lt (by omega)];exact h4⟩
 refine ⟨⟨by have:=h.1;simpa using this,?_⟩,e⟩
 have hlt:off < (E.set off u).length:=by simpa using h1
 rw [List.drop_eq_getElem_cons hlt,List.length_cons,List.take_succ_cons,e.2,List.getElem_set_self]
theorem aaM {a s:List Sp} (ma:aF a = 0) (ms:aF s = 0) (la:a.length <= 10000000) (ls:s.length <= 10000000) (ho:jK a = jK s):aS dh a = aS dh s:=by
 have h1:=(sS.of ma (by omega)).2
 have h2:=(sS.of ms (by omega)).2
 omega
def OX (a b:List Sp):Int:=if aF a ≠ 0 then aF a else if aF b ≠ 0 then aF b else if jK a ≠ jK b then 5 else 0
theorem Xc {a b:List Sp} (h:OX a b = 0):aF a = 0 /\ aF b = 0 /\ jK a = jK b:=by
 unfold OX at h
 by_cases ma:aF a = 0
 · rw [if_neg (by simpa using ma)] at h
   by_cases mb:aF b = 0
   · rw [if_neg (by simpa using mb)] at h
     by_cases ho:jK a = jK b
     · exact ⟨ma,mb,ho⟩
     · rw [if_pos ho] at h;cases h
   · rw [if_pos mb] at h;exact absurd h mb
 · rw [if_pos ma] at h;exact absurd h ma
theorem Xd:∀ c,Tryd.f112.body = some c -> comp c = (.seq (.reg 0 [I.n 0 6 I.sn,I.n 1 7 (I.si 0)]) (.seq (.seq (.reg 1 [I.n 0 13 (I.mv 1),I.n 1 14 (I.ln 13 22),I.n 2 15 (.move (.const (Value.int .i64 0)))]) (.block 0 (.loop (.seq (.reg 2 [I.n 0 16 (I.bo .lss 3 15 14 3)]) (.seq (.cond (.tmp 16) .skip (.exit 0)) (.seq (.block 1 (.seq (.reg 3 [I.n 0 17 (I.ia 22 13 15),I.n 1 18 (I.ld 23 17),I.n 2 9 (I.sa 18)]) (.seq (.reg 4 [I.n 0 20 (I.mv 2),I.n 1 21 (I.mv 0),I.n 2 22 (I.mv 9),I.n 3 23 (.call { callee:=.value (.tmp 20),args:=#[.tmp 21,.tmp 22],argTypes:=#[23,23] }),I.n 4 19 (I.mv 23),I.n 5 24 (I.ex 19 0),I.n 6 25 (I.ex 19 1),I.n 7 10 (I.sa 24),I.n 8 11 (I.sa 25)]) (.seq (.seq (.reg 5 [I.n 0 26 (I.mv 11),I.n 1 27 (I.bc .neq 30 26 0 30)]) (.cond (.tmp 27) (.seq (.reg 6 [I.n 0 12 I.sn]) (.seq (.reg 7 [I.n 0 28 (I.mv 12),I.n 1 29 (I.mv 11),I.n 2 6 (I.sa 28),I.n 3 7 (I.sa 29)]) .ret)) .skip)) (.reg 8 [I.n 0 30 (I.mv 10),I.n 1 0 (I.sa 30)]))))) (.reg 9 [I.n 0 31 (I.bc .add 3 15 1 3),I.n 1 15 (I.mv 31)]))))))) (.seq (.reg 10 [I.n 0 32 (I.mv 0),I.n 1 6 (I.sa 32),I.n 2 7 (I.si 0)]) .ret))):=by
 intro c h
 have:c = Tryd.f112.body.get rfl:=by rw [<- Option.some_inj,<- h];rfl
 rw [this];rfl
def fJ:List Sp -> List (List Sp) -> List Sp × Int
 | b,[]=>(b,0)
 | b,x :: l=>if lI b x = 0 then fJ (jG b x) l else ([],lI b x)
def xY (b:List Sp) (L:List (List Sp)):AV:=.dD [if (fJ b L).2 = 0 then .lst 3 (bM (fJ b L).1) else nilA,.v (.int .i64 (fJ b L).2)]
def pO (L:List (List Sp)):Nat:=(L.map List.length).sum
def rZ (L:List (List Sp)):Nat:=(L.map bU).sum
theorem gq (x:List Sp) (L:List (List Sp)):pO (x :: L) = x.length + pO L /\ rZ (x :: L) = bU x + rZ L:=by simp [pO,rZ]
theorem EN {a b:List Sp} (h:lI a b = 0):aF a = 0 /\ aF b = 0 /\ outW a = jK b:=by
 unfold lI at h
 by_cases h1:aF a = 0
 · rw [if_neg (by simpa using h1)] at h
   by_cases h2:aF b = 0
   · rw [if_neg (by simpa using h2)] at h
     by_cases h3:outW a = jK b
     · exact ⟨h1,h2,h3⟩
     · rw [if_pos h3] at h;cases h
   · rw [if_pos h2] at h;exact absurd h h2
 · rw [if_pos h1] at h;exact absurd h h1
theorem o9 {a b:List Sp} (h:lI a b = 0) (la:a.length <= 10000000) (lb:b.length <= 10000000) (ta:bU a <= 100000000):(jG a b).length <= a.length + b.length /\ bU (jG a b) <= bU a + bU b:=by
 obtain ⟨h1,h2,h3⟩:=EN h
 have oa:=(sS.of h1 (by omega)).1
 have ob:=(sS.of h2 (by omega)).1
 have ho':aS bZ a = aS dh b:=by
   have h1:=(sS.of h2 (by omega)).2
   have h2:=iF a
   have h3':=lC a oa.all
   have h4:=oa.bnd
   rw [aY (by omega)] at h2
   rw [<- h2,<- h1];exact h3
 exact (vP oa ob ho').2.2.2.2.2.2.2.2.2
theorem OY (L:List (List Sp)) (base:List Sp) (hl:base.length + pO L <= 10000000) (hb:bU base + rZ L <= 100000000) (hL:L.length <= 10000000) :
   aH env 112 [.lst 3 (bM base),.lst 1 (aJ L),.clo (.func 113) [] []] (fun r hs=>r = xY base L /\ hs = []):=by
 have hrl:=bK L
 refine Ev.fn [0,1,2,6,7,9,10,11,12,13,14,15,16,27] 0 [.tmp 6,.tmp 7] Tryd.func112 (Xd _ rfl) ?_
 refine' Ev.zW
 refine Ev.loop (fun k s=>∃ (i c:Nat) (b:List Sp),s = ⟨[(0,.lst 3 (bM b)),(2,.clo (.func 113) [] []),(13,.lst 1 (aJ L)),(14,.v (.int .i64 L.length)),(15,.v (.int .i64 i))],[],c⟩ /\ k + i = L.length /\ fJ b (L.drop i) = fJ base L /\ b.length + pO (L.drop i) <= 10000000 /\ bU b + rZ (L.drop i) <= 100000000) ?_ ?_
 · refine Ev.zB ⟨L.length,0,?_,base,rfl,?_⟩
   exact ⟨by omega,rfl,hl,hb⟩
 rintro k s1 ⟨i,c,b,rfl,hk,hf,hl',hb'⟩
 by_cases hi:i < L.length
 · have hii:(i:Int) < (L.length:Int):=by omega
   obtain ⟨k',rfl⟩:∃ k',k = k' + 1:=⟨k - 1,by omega⟩
   rw [List.drop_eq_getElem_cons hi] at hf hl' hb'
   obtain ⟨l1,l2⟩:=gq L[i] (L.drop (i + 1))
   rw [l1] at hl'
   rw [l2] at hb'
   have hC:=Tm b L[i] (by omega) (by omega) (by omega) (by omega) (jX (by omega)) (jX (by omega))
   by_cases he:lI b L[i] = 0
   · rw [Lc he] at hC
     simp only [fJ,he,if_true] at hf
     obtain ⟨m1,m2⟩:=o9 he (by omega) (by omega) (by omega)
     repeat' (first | refine' Ev.zP | (with_reducible refine Ev.bQ hii ?_) | (with_reducible refine Ev.dR hii ?_) | refine' Ev.zS | refine' Ev.zK | ((with_reducible refine Ev.ca0 ?_);(first | refine Ev.ca (hC) ?_);conv=>whnf) | refine' Ev.zT | fail)
     refine Ev.zA (k') ⟨i + 1,?_,jG b L[i],rfl,?_⟩
     exact ⟨by omega,hf,by omega,by omega⟩
   · rw [vU rfl he] at hC
     simp only [fJ,he,if_false] at hf
     repeat' (first | (with_reducible refine Ev.bT he ?_) | (with_reducible refine Ev.bW he ?_) | (with_reducible refine Ev.bQ hii ?_) | (with_reducible refine Ev.dR hii ?_) | refine' Ev.zP | refine' Ev.zS | refine' Ev.zK | ((with_reducible refine Ev.ca0 ?_);(first | refine Ev.ca (hC) ?_);conv=>whnf) | refine' Ev.zT | fail)
     refine ⟨?_,rfl⟩
     unfold xY
     rw [<- hf,if_neg he];rfl
 · have hii:¬ (i:Int) < (L.length:Int):=by omega
   rw [List.drop_of_length_le (by omega)] at hf
   repeat' (first | (with_reducible refine Ev.bT hii ?_) | (with_reducible refine Ev.bW hii ?_) | refine' Ev.zP | refine' Ev.zS | refine' Ev.zK | refine' Ev.zT | fail)
   refine ⟨?_,rfl⟩
   unfold xY
   rw [<- hf];rfl
theorem aaN:∀ c,Tryd.f63.body = some c -> comp c = (.seq (.reg 0 [I.n 0 4 I.sn,I.n 1 5 (I.si 0)]) (.seq (.reg 1 [I.n 0 9 (I.mv 0),I.n 1 10 (I.c1 111 9 3),I.n 2 8 (I.mv 10),I.n 3 11 (I.ex 8 0),I.n 4 12 (I.ex 8 1),I.n 5 6 (I.sa 11),I.n 6 7 (I.sa 12)]) (.seq (.seq (.reg 2 [I.n 0 13 (I.mv 7),I.n 1 14 (I.bc .neq 30 13 0 30)]) (.cond (.tmp 14) (.seq (.reg 3 [I.n 0 15 (I.mv 7),I.n 1 4 I.sn,I.n 2 5 (I.sa 15)]) .ret) .skip)) (.seq (.reg 4 [I.n 0 16 (I.mv 6),I.n 1 17 (I.mv 1),I.n 2 18 (.call { callee:=.value (.func 112),args:=#[.tmp 16,.tmp 17,.func 113],argTypes:=#[23,22,52] }),I.n 3 19 (I.ex 18 0),I.n 4 20 (I.ex 18 1),I.n 5 4 (I.sa 19),I.n 6 5 (I.sa 20)]) .ret)))):=by
 intro c h
 have:c = Tryd.f63.body.get rfl:=by rw [<- Option.some_inj,<- h];rfl
 rw [this];rfl
def eu (n:Int):List Sp:=if n = 0 then [] else [⟨1,n,⟨#[]⟩⟩]
theorem Dy (n:Int):bU (eu n) = 0 /\ (eu n).length <= 1:=by
 unfold eu;split
 · exact ⟨rfl,by simp⟩
 · exact ⟨rfl,by simp⟩
theorem JQ (n:Int) (hn:0 <= n /\ n <= 1048576):aH env 111 [.v (.int .i64 n)] (fun r hs=>r = .dD [.lst 3 (bM (eu n)),.v (.int .i64 0)] /\ hs = []):=by
 refine aH.Qd (Ov n) ?_
 have e:Ku n = 0:=by unfold Ku;rw [if_neg (by omega)]
 rw [e]
 unfold keepA eu
 rw [if_neg (by omega)]
 by_cases h:n = 0
 · rw [if_pos h,if_pos h];exact nC.acJ (nC.nil 3) (nC.refl _)
 · rw [if_neg h,if_neg h];exact nC.refl _
theorem ab2{G:Prop}(h:G:=by
 rw [hR] at hF ⊢
 refine Ev.fn [0,1,4,5,6,7,14] 0 [.tmp 4,.tmp 5] Tryd.func63 (aaN _ rfl) ?_
 repeat' (first | refine' Ev.zP | refine' Ev.zS | refine' Ev.zK | ((with_reducible refine Ev.ca0 ?_);(first | refine Ev.ca (hK) ?_ | refine Ev.ca (hF) ?_);conv=>whnf) | refine' Ev.zT | fail)
 all_goals(rcases(⟨_⟩:PLift _)with⟨h⟩;exact h)):G:=h
theorem OZ (n:Int) (hn:0 <= n /\ n <= 1048576) (L:List (List Sp)) (hl:pO L <= 9999999) (hb:rZ L <= 100000000) (hL:L.length <= 10000000) :
   aH env 63 [.v (.int .i64 n),.lst 1 (aJ L)] (fun r hs=>r = xY (eu n) L /\ hs = []):=by
 have hK:=JQ n hn
 obtain ⟨k1,k2⟩:=Dy n
 have hF:=OY L (eu n) (by omega) (by omega) hL
 have hR:xY (eu n) L = .dD [if (fJ (eu n) L).2 = 0 then .lst 3 (bM (fJ (eu n) L).1) else nilA,.v (.int .i64 (fJ (eu n) L).2)]:=rfl
 generalize fJ (eu n) L = G at *
 by_cases hG:G.2 = 0
 · rw [if_pos hG] at hR
   refine' ab2
   all_goals exact ⟨rfl,rfl⟩
 · rw [if_neg hG] at hR
   refine' ab2
   all_goals exact ⟨rfl,rfl⟩
def Dz:Int -> List (List Sp) -> Int × Int
 | n,[]=>(n,0)
 | n,x :: l=>if aF x = 0 then (if jK x = n then Dz (outW x) l else (0,5)) else (0,aF x)
theorem H7 {a b:List Sp} (h:lI a b = 0) (la:a.length <= 10000000) (lb:b.length <= 10000000) (ta:bU a <= 100000000) (tb:bU b <= 100000000) :
   aF (jG a b) = 0 /\ jK (jG a b) = jK a /\ outW (jG a b) = outW b:=by
 obtain ⟨h1,h2,h3⟩:=EN h
 obtain ⟨l1,l2⟩:=o9 h la lb ta
 have oa:=(sS.of h1 (by omega)).1
 have ob:=(sS.of h2 (by omega)).1
 have ea:=iF a
 have fa:=lC a oa.all
 have ba:=oa.bnd
 rw [aY (by omega)] at ea
 have eb:=iF b
 have fb:=lC b ob.all
 have bb:=ob.bnd
 rw [aY (by omega)] at eb
 have ib:=(sS.of h2 (by omega)).2
 have ia:=(sS.of h1 (by omega)).2
 obtain ⟨g1,g2,g3,g4,_⟩:=vP oa ob (by omega)
 obtain ⟨m1,m2⟩:=g1.ops.may (by omega)
 refine ⟨m1,by omega,?_⟩
 rw [iF,g4,eb]
 exact aY (by omega)
theorem DC {n:Int} (hn:0 <= n /\ n <= 1048576):aF (eu n) = 0 /\ outW (eu n) = n /\ jK (eu n) = n:=by
 unfold eu
 by_cases h:n = 0
 · rw [if_pos h,h];decide
 · rw [if_neg h]
   have e1:jK [(⟨1,n,⟨#[]⟩⟩:Sp)] = n:=by rw [JF];simp [aS,dh,sQ];exact aY (by omega)
   have e2:outW [(⟨1,n,⟨#[]⟩⟩:Sp)] = n:=by rw [iF];simp [aS,bZ,jk];exact aY (by omega)
   refine ⟨(eP _).2 ⟨fun s hs=>?_,by omega⟩,e2,e1⟩
   simp at hs;subst hs
   exact aZ.keep (.inl rfl) (by simp only;omega) rfl
def tmE (a:List Sp) (L:List (List Sp)):Int:=if aF a = 0 then (Dz (jK a) L).2 else aF a
def aaO:List Sp -> List (List Sp) -> List Sp
 | x,[]=>x
 | x,s :: L=>aaO (xq x s) L
theorem Xe {n:Int} {s:List Sp} {L:List (List Sp)} (h:(Dz n (s :: L)).2 = 0):aF s = 0 /\ jK s = n /\ (Dz (outW s) L).2 = 0:=by
 simp only [Dz] at h
 by_cases h1:aF s = 0
 · rw [if_pos h1] at h
   by_cases h2:jK s = n
   · rw [if_pos h2] at h;exact ⟨h1,h2,h⟩
   · rw [if_neg h2] at h;simp at h
 · rw [if_neg h1] at h;exact absurd h h1
theorem Tn {a b:List Sp} (h:OX a b = 0) (la:a.length <= 10000000) (lb:b.length <= 10000000) (hb:aS bZ b <= 1048576) :
   aF (xq a b) = 0 /\ jK (xq a b) = outW b /\ (xq a b).length <= a.length + b.length /\ bU (xq a b) <= bU a:=by
 obtain ⟨h1,h2,h3⟩:=Xc h
 have oa:=(sS.of h1 (by omega)).1
 have ob:=(sS.of h2 (by omega)).1
 have hco:=SS oa ob (aaM h1 h2 la lb h3) hb
 have g4:=hco.2.2.2.2.2.2.2.2
 obtain ⟨g1,g2,g3,_⟩:=hco
 obtain ⟨m1,m2⟩:=g1.ops.may (by omega)
 have eb:=iF b
 have fb:0 <= aS bZ b:=by have:=dB ob.all;omega
 rw [aY (by omega)] at eb
 exact ⟨m1,by omega,g4⟩
structure TI (a:List Sp) (L:List (List Sp)) (i:Nat) (x:List Sp):Prop where
 may:aF x = 0
 fit:(Dz (jK x) (L.drop i)).2 = 0
 eq:aaO x (L.drop i) = aaO (norm a) L
 len:x.length + pO (L.drop i) <= 9999999
 tb:bU x <= 100000000
theorem TI.next {a:List Sp} {L:List (List Sp)} {i:Nat} {x:List Sp} (h:TI a L i x) (hi:i < L.length) (ho:∀ s ∈ L,aF s = 0 -> aS bZ s <= 1048576):OX x L[i] = 0 /\ L[i].length <= 9999999 /\ TI a L (i + 1) (xq x L[i]):=by
 have hf:=h.fit
 have he:=h.eq
 have hl:=h.len
 have hm:=h.may
 rw [List.drop_eq_getElem_cons hi] at hf he hl
 obtain ⟨l1,l2⟩:=gq L[i] (L.drop (i + 1))
 rw [l1] at hl
 obtain ⟨f1,f2,f3⟩:=Xe hf
 have e0:OX x L[i] = 0:=by unfold OX;rw [if_neg (by simpa using hm),if_neg (by simpa using f1),if_neg (by simpa using f2.symm)]
 obtain ⟨m1,m2,m3,m4⟩:=Tn e0 (by omega) (by omega) (ho _ (List.getElem_mem hi) f1)
 exact ⟨e0,by omega,m1,by rw [m2];exact f3,he,by omega,by have:=h.tb;omega⟩
theorem TI.first {a:List Sp} {L:List (List Sp)} (h:tmE a L = 0) (hl:a.length + pO L <= 9999999) (hb:bU a <= 100000000):TI a L 0 (norm a):=by
 unfold tmE at h
 by_cases h1:aF a = 0
 · rw [if_pos h1] at h
   obtain ⟨o1,o2⟩:=sS.of h1 (by omega)
   obtain ⟨n1,_,_,n4,_,n6,n7,_⟩:=o1.norm
   obtain ⟨m1,m2⟩:=n1.may (by omega)
   exact ⟨m1,by rw [m2,n4,<- o2];exact h,rfl,by rw [List.drop_zero];omega,by omega⟩
 · rw [if_neg h1] at h;exact absurd h h1
end Go.Proofs.YtadlnaljicikfaaDoor.aB
namespace Go.Proofs.YtadlnaljicikfaaDoor.aB
open Go Go.Lib
mutual
/-- A value,its rows under other names. -/
def H8 (ρ:Nat -> Nat):AV -> AV
  | .agg cs=>.agg (lD ρ cs)
  | .dD cs=>.dD (lD ρ cs)
  | .clo f a b=>.clo f (lD ρ a) (lD ρ b)
  | .own r v off len=>.own (ρ r) v off len
  | .ptr r v i o=>.ptr (ρ r) v i o
  | x=>x
def lD (ρ:Nat -> Nat):List AV -> List AV
  | []=>[]
  | c :: cs=>H8 ρ c :: lD ρ cs
end
theorem jH (ρ:Nat -> Nat):∀ cs,lD ρ cs = cs.map (H8 ρ)
 | []=>rfl
 | c :: cs=>by simp only [lD,List.map_cons,jH ρ cs]
def Pn (ρ:Nat -> Nat):List (Nat × au) -> List (Nat × au)
 | []=>[]
 | (r,⟨sz,ty,ver,eG,box,es⟩) :: l=>(ρ r,⟨sz,ty,ver,eG,box,if box then es.map (lD ρ) else es⟩) :: Pn ρ l
theorem aap{G:Prop}(h:G:=by
 rw [List.getElem?_map,Option.map_eq_some_iff] at hc
 obtain ⟨d,hd,rfl⟩:=hc
 exact ih i d v hd hv):G:=h
theorem acy{G:Prop}(h:G:=by
 simp only [H8,jH]
 refine .agg (by rw [List.length_map];exact hn) (by first | exact h1 | (rw [List.length_map];exact h1)) (fun i c v hc hv=>?_)
 refine' aap):G:=h
theorem ad3{G:Prop}(h:G:=by
 rw [List.getElem?_map,Option.map_eq_some_iff] at hc
 obtain ⟨d,hd,rfl⟩:=hc
 exact ih' i d v hd hv):G:=h
theorem aed{G:Prop}(h:G:=by
 simp only [H8,jH]
 refine .dD (by rw [List.length_map];exact hn) (fun i c v hc hv=>?_)
 refine' aap):G:=h
theorem aeo{G:Prop}(h:G:=by
 simp only [H8,jH]
 refine .clo (by rw [List.length_map];exact hn) (by rw [List.length_map];exact hm) (fun i c v hc hv=>?_) (fun i c v hc hv=>?_)
 all_goals(rcases(⟨_⟩:PLift _)with⟨h⟩;exact h)):G:=h
theorem bG.rn {M:Mem} {ρ:Nat -> Nat} {x:AV} {v:Value} (h:bG M x v):bG M (H8 ρ x) v:=by
 induction h with
 | v x=>exact .v x
 | agg hn h1 _ ih =>
   refine' acy
 | dD hn _ ih =>
   refine' aed
 | lst u hn hc hz hA hM h _=>exact .lst u hn hc hz hA hM h
 | dQ u hM h _=>exact .dQ u hM h
 | clo hn hm _ _ ih ih' =>
   refine' aeo
   · refine' aap
   · refine' ad3
theorem Rel.rn {M:Mem} {J:bf} {ρ:Nat -> Nat} {x:AV} {v:Value} (h:Rel M J x v):Rel M J (H8 ρ x) v:=by
 induction h with
 | pure h=>exact .pure h.rn
 | agg hn h1 _ ih =>
   refine' acy
 | dD hn _ ih =>
   refine' aed
 | clo hn hm _ _ ih ih' =>
   refine' aeo
   · refine' aap
   · refine' ad3
 | own hL hl hN hA hc=>exact .own hL hl hN hA hc
 | ptr hL hN=>exact .ptr hL hN
theorem vV {ρ:Nat -> Nat}:∀ {hp:List (Nat × au)} {r:Nat} {k:au},get (Pn ρ hp) r = some k ->
   ∃ r0 k0,r = ρ r0 /\ get hp r0 = some k0 /\ k = ⟨k0.sz,k0.ty,k0.ver,k0.eG,k0.box,if k0.box then k0.es.map (lD ρ) else k0.es⟩
 | [],r,k,h=>by simp [Pn,get_nil] at h
 | (a,⟨sz,ty,ver,eG,box,es⟩) :: hp,r,k,h=>by
   simp only [Pn] at h
   rw [aj] at h
   split at h
   · rename_i e
     obtain rfl:=Option.some.inj h
     exact ⟨a,_,e,by rw [aj,if_pos rfl],rfl⟩
   · rename_i e
     obtain ⟨r0,k0,h1,h2,h3⟩:=vV h
     refine ⟨r0,k0,h1,?_,h3⟩
     rw [aj,if_neg (by rintro rfl;exact e h1)];exact h2
theorem Inv.rn {E:Env} {M0:pV} {w0:World} {c:Nat} {M:Mem} {J:bf} {W:World} (ρ:Nat -> Nat) {hp:List (Nat × au)} (inv:Inv E M0 w0 c M J ⟨[],hp,0⟩ #[] W):Inv E M0 w0 c M J ⟨[],Pn ρ hp,0⟩ #[] W:=by
 refine ⟨inv.below,inv.mem,inv.kD,inv.kE,inv.glob,fun t x h=>by simp [get_nil] at h,?_,?_,?_,inv.vers,inv.jI,inv.far⟩
 · intro r k hk
   obtain ⟨r0,k0,rfl,h1,rfl⟩:=vV hk
   obtain ⟨L,C,a1,a2,a3⟩:=inv.heap r0 k0 h1
   refine ⟨L,C,a1,a2,a3.blk,a3.none,a3.size,?_,?_,a3.sz,?_,?_,a3.cap⟩
   · have:(if k0.box then k0.es.map (lD ρ) else k0.es).length = k0.es.length:=by split <;> simp
     show (if k0.box then k0.es.map (lD ρ) else k0.es).length <= _
     rw [this];exact a3.fits
   · have:(if k0.box then k0.es.map (lD ρ) else k0.es).length = k0.es.length:=by split <;> simp
     show _ <= (if k0.box then k0.es.map (lD ρ) else k0.es).length
     rw [this];exact a3.eG
   · intro i e he
     have he:(if k0.box then k0.es.map (lD ρ) else k0.es)[i]? = some e:=he
     split at he
     · rw [List.getElem?_map,Option.map_eq_some_iff] at he
       obtain ⟨d,hd,rfl⟩:=he
       rw [jH,List.length_map];exact a3.len i d hd
     · exact a3.len i e he
   · intro i e j c he hc
     have he:(if k0.box then k0.es.map (lD ρ) else k0.es)[i]? = some e:=he
     split at he
     · rename_i hb
       rw [List.getElem?_map,Option.map_eq_some_iff] at he
       obtain ⟨d,hd,rfl⟩:=he
       rw [jH,List.getElem?_map,Option.map_eq_some_iff] at hc
       obtain ⟨x,hx,rfl⟩:=hc
       obtain ⟨u,u1,u2,u3⟩:=a3.cell i d j x hd hx
       refine ⟨u,u1,u2,?_⟩
       show bH M J k0.box _ u
       rw [hb]
       exact u3.rel.rn
     · exact a3.cell i e j c he hc
 · intro r r' k k' L L' hk hk' hL hL' hN hN' hr
   obtain ⟨r0,k0,rfl,h1,rfl⟩:=vV hk
   obtain ⟨r1,k1,rfl,h2,rfl⟩:=vV hk'
   exact inv.apart r0 r1 k0 k1 L L' h1 h2 hL hL' hN hN' (fun e=>hr (by rw [e]))
 · intro r k L o u hk hL hN hu
   obtain ⟨r0,k0,rfl,h1,rfl⟩:=vV hk
   exact inv.owns r0 k0 L o u h1 hL hN hu
theorem Tq {E:Env} {N:Nat} {f:FuncId} {args args':List AV} {hp hp':List (Nat × au)} {R:AV -> List (Nat × au) -> Prop} (ρ1 ρ2:Nat -> Nat) (hc:dM E N f args hp R) (ha:lD ρ1 args' = args) (hh:Pn ρ1 hp' = hp) :
   dM E N f args' hp' fun r hp1=>∃ r0 h0,R r0 h0 /\ r = H8 ρ2 r0 /\ hp1 = Pn ρ2 h0:=by
 subst ha;subst hh
 intro M0 w0 c M J w vs inv hn hr
 obtain ⟨a,b⟩:=hc M0 w0 c M J w vs (inv.rn ρ1) (by rw [jH,List.length_map];exact hn) (fun i x v hx hv=>by
   rw [jH,List.getElem?_map,Option.map_eq_some_iff] at hx
   obtain ⟨d,hd,rfl⟩:=hx
   exact (hr i d v hd hv).rn)
 refine ⟨a,b.mono ?_⟩
 rintro e w' ⟨v,r,hp1,c',M',J',x1,x2,x3,x4,x5,x6⟩
 exact ⟨v,_,_,c',M',J',x1,⟨r,hp1,x2,rfl,rfl⟩,x3.rn ρ2,x4.rn,x5,x6⟩
theorem xZ {E:Env} {N nm:Nat} {f:FuncId} {args args':List AV} {hp hp' hp0:List (Nat × au)} {ct:Nat} {K:AV -> List (Nat × au) -> Nat -> Prop} {R:AV -> List (Nat × au) -> Prop} (ρ1 ρ2:Nat -> Nat) (F:List (Nat × au))
   (hc:dM E N f args hp R) (ha:lD ρ1 args' = args) (hh:Pn ρ1 hp' = hp) (hs:subs hp0 hp') (hF:subs hp0 F) (hd:∀ r,get hp' r ≠ none -> get F r = none)
   (h:∀ r h1,R r h1 -> (∀ q,get (Pn ρ2 h1) q ≠ none -> get F q = none) /\ ∀ c',ct + 8 <= c' -> K (H8 ρ2 r) (Pn ρ2 h1 ++ F) c'):Ev.dU E nm f args' hp0 ct K:=by
 refine Ev.xX F (Tq ρ1 ρ2 hc ha hh) rfl hs hF hd ?_
 rintro r hp1 ⟨r0,h0,h1,rfl,rfl⟩
 exact h r0 h0 h1
end Go.Proofs.YtadlnaljicikfaaDoor.aB
namespace Go.Proofs.YtadlnaljicikfaaDoor.aB
open Go
set_option maxRecDepth 100000
attribute [local irreducible] Ev.gV Ev.iy Ev.bC Ev.runK Ev.bD Ev.fD Ev.Side Ev.Wp Ev.Again Ev.To Ev.Fin
open Go.Lib Go.RowKit
def vW:Ev.Pl:=(.one 0 false (.one 2 false (.one 3 false (.one 4 false (.one 5 false (.one 7 false (.one 8 false (.one 9 false (.two 1 (.two 6 (.one 10 false (.one 11 false (.one 12 false (.one 13 false (.one 14 false .fin))))) 10 (.one 6 false (.one 11 false (.one 12 false (.one 13 false (.one 14 false .fin)))))) 6 (.one 1 false (.one 10 false (.one 11 false (.one 12 false (.one 13 false (.one 14 false .fin)))))))))))))))
def vX:Ev.Tr:=(.one 0 false (.one 1 false (.one 2 false (.one 3 false (.one 4 false (.one 5 false (.one 6 false (.one 7 false (.one 11 false (.one 12 false (.one 13 false (.one 14 false (.one 16 false (.any (.alt 8 (.any (.alt 9 (.any (.alt 10 (.one 15 false (.one 17 false (.one 18 false (.one 19 false (.one 20 false (.one 21 false (.one 22 false (.one 23 false (.one 24 false (.one 25 false (.one 26 false .fin))))))))))) (.alt 15 (.any (.alt 10 (.one 17 false (.one 18 false (.one 19 false (.one 20 false (.one 21 false (.one 22 false (.one 23 false (.one 24 false (.one 25 false (.one 26 false .fin)))))))))) (.alt 17 (.one 10 false (.one 18 false (.one 19 false (.one 20 false (.one 21 false (.one 22 false (.one 23 false (.one 24 false (.one 25 false (.one 26 false .fin)))))))))) .stop))) (.alt 17 (.any (.alt 10 (.one 15 false (.one 18 false (.one 19 false (.one 20 false (.one 21 false (.one 22 false (.one 23 false (.one 24 false (.one 25 false (.one 26 false .fin)))))))))) (.alt 15 (.one 10 false (.one 18 false (.one 19 false (.one 20 false (.one 21 false (.one 22 false (.one 23 false (.one 24 false (.one 25 false (.one 26 false .fin)))))))))) .stop))) .stop)))) (.alt 15 (.any (.alt 9 (.any (.alt 10 (.one 17 false (.one 18 false (.one 19 false (.one 20 false (.one 21 false (.one 22 false (.one 23 false (.one 24 false (.one 25 false (.one 26 false .fin)))))))))) (.alt 17 (.one 10 false (.one 18 false (.one 19 false (.one 20 false (.one 21 false (.one 22 false (.one 23 false (.one 24 false (.one 25 false (.one 26 false .fin)))))))))) .stop))) (.alt 17 (.one 9 false (.one 10 false (.one 18 false (.one 19 false (.one 20 false (.one 21 false (.one 22 false (.one 23 false (.one 24 false (.one 25 false (.one 26 false .fin))))))))))) .stop))) (.alt 17 (.any (.alt 9 (.any (.alt 10 (.one 15 false (.one 18 false (.one 19 false (.one 20 false (.one 21 false (.one 22 false (.one 23 false (.one 24 false (.one 25 false (.one 26 false .fin)))))))))) (.alt 15 (.one 10 false (.one 18 false (.one 19 false (.one 20 false (.one 21 false (.one 22 false (.one 23 false (.one 24 false (.one 25 false (.one 26 false .fin)))))))))) .stop))) (.alt 15 (.one 9 false (.one 10 false (.one 18 false (.one 19 false (.one 20 false (.one 21 false (.one 22 false (.one 23 false (.one 24 false (.one 25 false (.one 26 false .fin))))))))))) .stop))) .stop)))) (.alt 15 (.any (.alt 8 (.any (.alt 9 (.any (.alt 10 (.one 17 false (.one 18 false (.one 19 false (.one 20 false (.one 21 false (.one 22 false (.one 23 false (.one 24 false (.one 25 false (.one 26 false .fin)))))))))) (.alt 17 (.one 10 false (.one 18 false (.one 19 false (.one 20 false (.one 21 false (.one 22 false (.one 23 false (.one 24 false (.one 25 false (.one 26 false .fin)))))))))) .stop))) (.alt 17 (.one 9 false (.one 10 false (.one 18 false (.one 19 false (.one 20 false (.one 21 false (.one 22 false (.one 23 false (.one 24 false (.one 25 false (.one 26 false .fin))))))))))) .stop))) (.alt 17 (.one 8 false (.one 9 false (.one 10 false (.one 18 false (.one 19 false (.one 20 false (.one 21 false (.one 22 false (.one 23 false (.one 24 false (.one 25 false (.one 26 false .fin)))))))))))) .stop))) (.alt 17 (.any (.alt 8 (.any (.alt 9 (.any (.alt 10 (.one 15 false (.one 18 false (.one 19 false (.one 20 false (.one 21 false (.one 22 false (.one 23 false (.one 24 false (.one 25 false (.one 26 false .fin)))))))))) (.alt 15 (.one 10 false (.one 18 false (.one 19 false (.one 20 false (.one 21 false (.one 22 false (.one 23 false (.one 24 false (.one 25 false (.one 26 false .fin)))))))))) .stop))) (.alt 15 (.one 9 false (.one 10 false (.one 18 false (.one 19 false (.one 20 false (.one 21 false (.one 22 false (.one 23 false (.one 24 false (.one 25 false (.one 26 false .fin))))))))))) .stop))) (.alt 15 (.one 8 false (.one 9 false (.one 10 false (.one 18 false (.one 19 false (.one 20 false (.one 21 false (.one 22 false (.one 23 false (.one 24 false (.one 25 false (.one 26 false .fin)))))))))))) .stop))) .stop)))))))))))))))))
theorem aaP:∀ c,Tryd.f24.body = some c -> comp c = (.seq (.reg 0 [I.n 0 2 (.assign (.const (Value.pointer none))),I.n 1 3 (I.si 0)]) (.seq (.reg 1 [I.n 0 5 (I.mv 0),I.n 1 6 (I.c1 32 5 9),I.n 2 4 (I.sa 6)]) (.block 0 (.seq (.reg 3 [I.n 0 14 (I.mv 4),I.n 1 15 (I.bc .lss 3 14 0 3),I.n 2 13 (I.sa 15)]) (.cond (.tmp 13) (.seq (.reg 4 [I.n 0 2 (.assign (.const (Value.pointer none))),I.n 1 3 (I.si 3)]) .ret) (.seq (.reg 5 [I.n 0 17 (I.mv 4),I.n 1 18 (I.bc .gtr 3 17 1048576 3),I.n 2 16 (I.sa 18)]) (.cond (.tmp 16) (.seq (.reg 6 [I.n 0 2 (.assign (.const (Value.pointer none))),I.n 1 3 (I.si 4)]) .ret) (.seq (.reg 2 [I.n 0 7 (I.mv 4),I.n 1 8 (I.b1 25 7),I.n 2 9 (.build 42 #[(1,.tmp 8)]),I.n 3 10 (I.mv 0),I.n 4 11 (.build 44 #[(0,.tmp 9),(1,.tmp 10)]),I.n 5 12 (.box 44 (.tmp 11)),I.n 6 2 (I.sa 12),I.n 7 3 (I.si 0)]) .ret)))))))):=by
 intro c h
 have:c = Tryd.f24.body.get rfl:=by rw [<- Option.some_inj,<- h];rfl
 rw [this];rfl
theorem fK:∀ c,Tryd.f29.body = some c -> comp c = (.seq (.reg 0 [I.n 0 2 (I.si 0)]) (.seq (.reg 1 [I.n 0 3 (I.mv 0),I.n 1 4 (I.nc 3),I.n 2 5 (I.fa 42 4 0),I.n 3 6 (I.ld 22 5),I.n 4 7 (I.ln 6 22),I.n 5 2 (I.sa 7)]) .ret)):=by
 intro c h
 have:c = Tryd.f29.body.get rfl:=by rw [<- Option.some_inj,<- h];rfl
 rw [this];rfl
theorem uj:∀ c,Tryd.f77.body = some c -> comp c = (.seq (.reg 0 [I.n 0 4 (I.sb false)]) (.seq (.reg 1 [I.n 0 5 (I.mv 1),I.n 1 6 (I.bc .geq 3 5 0 3),I.n 2 7 (I.mv 6),I.w 3 8 (I.mv 1) 7 true,I.w 4 9 (I.mv 0) 7 true,I.w 5 10 (I.c1 29 9 108) 7 true,I.w 6 11 (I.bo .leq 3 8 10 3) 7 true,I.n 7 12 (I.pc 7 11 false),I.n 8 4 (I.sa 12)]) .ret)):=by
 intro c h
 have:c = Tryd.f77.body.get rfl:=by rw [<- Option.some_inj,<- h];rfl
 rw [this];rfl
theorem Tt:∀ c,Tryd.f25.body = some c -> comp c = (.seq (.reg 0 [I.n 0 4 (I.si 0)]) (.seq (.seq (.reg 1 [I.n 0 7 (I.mv 1),I.n 1 8 (I.c1 72 7 23),I.n 2 5 (I.sa 8)]) (.seq (.reg 2 [I.n 0 9 (I.mv 5),I.n 1 10 (I.bc .neq 30 9 0 30)]) (.cond (.tmp 10) (.seq (.reg 3 [I.n 0 11 (I.mv 5),I.n 1 4 (I.sa 11)]) .ret) .skip))) (.seq (.reg 4 [I.n 0 12 (I.mv 1),I.n 1 13 (I.c1 73 12 23),I.n 2 6 (I.sa 13)]) (.seq (.block 0 (.seq (.draw 5 [I.n 0 15 (I.mv 1),I.n 1 16 (I.c1 74 15 23),I.n 2 17 (I.mv 0),I.n 3 18 (I.nc 17),I.n 4 19 (I.fa 44 18 0),I.n 5 20 (I.fa 42 19 1),I.n 6 21 (I.ld 25 20),I.n 7 22 (I.mv 0),I.n 8 23 (I.nc 22),I.n 9 24 (I.fa 44 23 0),I.n 10 25 (I.c1 29 24 42),I.n 11 26 (I.ia 25 21 25),I.n 12 27 (I.ld 3 26),I.n 13 28 (I.bo .neq 3 16 27 3),I.n 14 14 (I.sa 28)] [[],[0],[],[2],[3],[4],[5],[],[7],[8],[9,1],[6,10],[11],[1,12],[13,10]]) (.cond (.tmp 14) (.seq (.reg 6 [I.n 0 4 (I.si 5)]) .ret) (.seq (.reg 7 [I.n 0 30 (I.mv 6),I.n 1 31 (I.bc .gtr 3 30 1048576 3),I.n 2 29 (I.sa 31)]) (.cond (.tmp 29) (.seq (.reg 8 [I.n 0 4 (I.si 4)]) .ret) .skip))))) (.seq (.draw 9 [I.n 0 32 (I.mv 0),I.n 1 33 (I.mv 0),I.n 2 34 (I.mv 0),I.n 3 35 (I.nc 34),I.n 4 36 (I.fa 44 35 0),I.n 5 37 (I.fa 42 36 0),I.n 6 38 (I.ld 22 37),I.n 7 39 (I.mv 1),I.n 8 40 (I.c1 35 39 23),I.n 9 41 (I.b1 22 40),I.n 10 42 (I.ap 38 41 22 22),I.n 11 43 (I.mv 0),I.n 12 44 (I.nc 43),I.n 13 45 (I.fa 44 44 0),I.n 14 46 (I.fa 42 45 1),I.n 15 47 (I.ld 25 46),I.n 16 48 (I.mv 6),I.n 17 49 (I.b1 25 48),I.n 18 50 (I.ap 47 49 25 25),I.n 19 51 (I.nc 32),I.n 20 52 (I.fa 44 51 0),I.n 21 53 (I.fa 42 52 0),I.u 22 (I.st 22 53 42),I.n 23 54 (I.nc 33),I.n 24 55 (I.fa 44 54 0),I.n 25 56 (I.fa 42 55 1),I.u 26 (I.st 25 56 50)] [[],[],[],[2],[3],[4],[5],[],[7],[8],[6,9,8],[],[11],[12],[13],[14],[],[16],[15,17,10],[0,0,2,3,4,5,6,7,8,9,10,15,18],[19,0,2,3,4,5,6,7,8,9,10,15,18],[20,0,2,3,4,5,6,7,8,9,10,15,18],[21,10,18,0,2,3,4,5,6,7,8,9,10,15,18],[1,0,1,2,3,4,5,6,7,8,9,10,11,12,13,14,15,16,17,18,19,20,21,22],[23,0,1,2,3,4,5,6,7,8,9,10,11,12,13,14,15,16,17,18,19,20,21,22],[24,0,1,2,3,4,5,6,7,8,9,10,11,12,13,14,15,16,17,18,19,20,21,22],[25,18,22,0,1,2,3,4,5,6,7,8,9,10,11,12,13,14,15,16,17,18,19,20,21,22]]) (.seq (.reg 10 [I.n 0 4 (I.si 0)]) .ret)))))):=by
 intro c h
 have:c = Tryd.f25.body.get rfl:=by rw [<- Option.some_inj,<- h];rfl
 rw [this];rfl
abbrev O1 (t:ByteArray):Int:=aI t.data.toList
def newE (t:ByteArray):Int:=if O1 t < 0 then 3 else if 1048576 < O1 t then 4 else 0
theorem Ld (t:ByteArray) (ht:t.size <= 1000000000) (h:newE t = 0) :
   aH env 24 [.v (.string t)] (fun r hs=>r = .dD [.ptr 0 0 0 0,.v (.int .i64 0)] /\ hs = [⟨3,44,0,0,true,[[nilA,.own 1 1 0 1,.v (.string t)]]⟩,⟨1,3,1,0,false,[[.v (.int .i64 (O1 t))]]⟩]):=by
 have hC:=lY t ht
 unfold newE at h
 have h0:¬ aI t.data.toList < 0:=fun h0=>by rw [if_pos h0] at h;cases h
 have h1:¬ 1048576 < aI t.data.toList:=fun h1=>by rw [if_neg h0,if_pos h1] at h;cases h
 refine Ev.fnO [0,2,3,4,13,16] 0 [.tmp 2,.tmp 3] Tryd.func24 (aaP _ rfl) ?_
 repeat' (first | (with_reducible refine Ev.bT h0 ?_) | (with_reducible refine Ev.bW h0 ?_) | (with_reducible refine Ev.bT h1 ?_) | (with_reducible refine Ev.bW h1 ?_) | refine' Ev.zP | refine' Ev.zS | refine' Ev.zK | ((with_reducible refine Ev.ca0 ?_);(first | refine Ev.ca (hC) ?_);conv=>whnf) | refine' Ev.zT | fail)
 refine Ev.LY [(1064,8),(1032,0)] (by simp) (fun F hF=>?_)
 conv=>whnf
 refine hF _ ?_
 exact ⟨rfl,rfl⟩
abbrev gQ (B L S vb vl fl vs fs:Nat) (Ls:List (List Sp)) (Ns:List Int) (t:ByteArray):List (Nat × au) :=
 [(B,⟨3,44,vb,0,true,[[.own L vl 0 Ls.length,.own S vs 0 Ns.length,.v (.string t)]]⟩),(L,⟨1,23,vl,fl,false,aJ Ls⟩),(S,⟨1,3,vs,fs,false,ints Ns⟩)]
def mJ (w:List Sp) (n:Int):Int:=if aF w ≠ 0 then aF w else if jK w ≠ n then 5 else if 1048576 < outW w then 4 else 0
theorem DF (Ls:List (List Sp)) (x:List Sp):aJ Ls ++ List.take 1 (List.drop 0 [[AV.lst 3 (bM x)]]) = aJ (Ls ++ [x]):=by simp [aJ]
theorem H9 (Ns:List Int) (n:Int):ints Ns ++ List.take 1 (List.drop 0 [[AV.v (.int .i64 n)]]) = ints (Ns ++ [n]):=by simp [ints]
set_option maxHeartbeats 4000000 in
theorem Xf (vb vl fl vs fs:Nat) (Ls:List (List Sp)) (Ns:List Int) (t:ByteArray) (w:List Sp) (hw:w.length <= 100000000) (hb:bU w <= 1000000000) (hN:Ns.length = Ls.length + 1) (hL:Ls.length <= 1000000)
    (he:mJ w (Ns.getLast (by intro e;rw [e] at hN;simp at hN)) = 0) :
    dM env 65536 25 [.ptr 7000 vb 0 0,.lst 3 (bM w)] (gQ 7000 7001 7002 vb vl fl vs fs Ls Ns t)
      (fun r h=>r = .v (.int .i64 0) /\ ∃ pJ vs':Nat,subs h (gQ 7000 7001 7002 vb pJ fl vs' fs (Ls ++ [norm w]) (Ns ++ [outW w]) t)):=by
  have hsm:=jX hb
  have hM:=eY w (by omega) hsm
  have hO:=jo w (by omega) hsm
  have hI:=iE w (by omega)
  have hF:=Ah w hw hb
  have hrl:=bK Ls
  have hil:=ig Ns
  unfold mJ at he
  have m0:aF w = 0:=Decidable.byContradiction fun h=>by rw [if_pos h] at he;exact h he
  rw [if_neg (by simpa using m0)] at he
  have m1:jK w = Ns.getLast _:=Decidable.byContradiction fun h=>by rw [if_pos h] at he;cases he
  rw [if_neg (by simpa using m1)] at he
  have m2:¬ 1048576 < outW w:=fun h=>by rw [if_pos h] at he;cases he
  have m2:¬ 1048576 < sumW (fun s=>jk s.k s.n s.t) w:=m2
  rw [m0] at hM
  rw [List.getLast_eq_getElem] at m1
  have Po:sumW (fun s=>sQ s.k s.n) w = Ns[Ns.length - 1]:=m1
  have Po:∀ h:Ls.length < Ns.length,sumW (fun s=>sQ s.k s.n) w = Ns[Ls.length]'h:=fun h=>by
    rw [Po];congr 1;omega
  refine Ev.VL [0,1,4,5,6,10,14,29] 65536 [.tmp 4] Tryd.func25 (Tt _ rfl) (fun ct=>?_)
  repeat' (first | (with_reducible refine Ev.join (a:=.block 0 _) (fun s=>∃ c:Nat,s = ⟨[(0,.ptr 7000 vb 0 0),(1,.lst 3 (bM w)),(6,.v (.int .i64 (outW w)))],gQ 7000 7001 7002 vb vl fl vs fs Ls Ns t,c⟩ /\ True) ?_ ?_) | (with_reducible refine Ev.bT m2 ?_) | (with_reducible refine Ev.bW m2 ?_) | (with_reducible refine Ev.bQ (Po _) ?_) | (with_reducible refine Ev.dR (Po _) ?_) | refine' Ev.zP | refine' Ev.zS | ((with_reducible refine Ev.kr (hs:=[29]) (fun Q hQ=>?_));refine' Ev.zR) | ((with_reducible refine Ev.jJ 29 ?_);refine Ev.il 29 [0,2] [.tmp 2] Tryd.func29 (fK _ rfl) (fun aN=>?_)) | ((with_reducible refine Ev.ca0 ?_);(first | refine Ev.ca (hM) ?_ | refine Ev.ca (hO) ?_ | refine Ev.ca (hI) ?_ | refine Ev.ca (hF) ?_);conv=>whnf) | ((with_reducible refine Ev.jO ?_);(first | refine Ev.FZ 5 [29] vW ?_);intro Q hQ;(simp only [Ev.dW,Ev.dF,Ev.dG,Ev.dX]);conv=>whnf) | ((with_reducible refine Ev.jO ?_);(first | refine Ev.dru 9 [29] [[],[],[],[2],[2,3],[2,3,4],[2,3,4,5],[],[7],[7,8],[2,3,4,5,6,7,8,9],[],[11],[11,12],[11,12,13],[11,12,13,14],[],[16],[2,3,4,5,6,7,8,9,10,11,12,13,14,15,16,17],[0,2,3,4,5,6,7,8,9,10,11,12,13,14,15,16,17,18],[0,2,3,4,5,6,7,8,9,10,11,12,13,14,15,16,17,18,19],[0,2,3,4,5,6,7,8,9,10,11,12,13,14,15,16,17,18,19,20],[0,2,3,4,5,6,7,8,9,10,11,12,13,14,15,16,17,18,19,20,21],[0,1,2,3,4,5,6,7,8,9,10,11,12,13,14,15,16,17,18,19,20,21,22],[0,1,2,3,4,5,6,7,8,9,10,11,12,13,14,15,16,17,18,19,20,21,22,23],[0,1,2,3,4,5,6,7,8,9,10,11,12,13,14,15,16,17,18,19,20,21,22,23,24],[0,1,2,3,4,5,6,7,8,9,10,11,12,13,14,15,16,17,18,19,20,21,22,23,24,25]] vX ?_);intro Q hQ;(simp only [Ev.qx,Ev.nD,Ev.nG,Ev.nH,Ev.qy,Ev.qA]);conv=>whnf) | ((with_reducible refine Ev.both ?_ ?_) <;> (conv=>whnf)) | exact True.intro | refine' Ev.zT | fail)
  · refine Ev.zB ⟨c',rfl,?_⟩
    trivial
  · refine Ev.zB ⟨c',rfl,?_⟩
    trivial
  · refine Ev.zB ⟨c',rfl,?_⟩
    trivial
  rintro _ ⟨c,rfl,_⟩
  repeat' (first | refine' Ev.zP | refine' Ev.zS | ((with_reducible refine Ev.kr (hs:=[29]) (fun Q hQ=>?_));refine' Ev.zR) | ((with_reducible refine Ev.jJ 29 ?_);refine Ev.il 29 [0,2] [.tmp 2] Tryd.func29 (fK _ rfl) (fun aN=>?_)) | ((with_reducible refine Ev.ca0 ?_);(first | refine Ev.ca (hF) ?_);conv=>whnf) | ((with_reducible refine Ev.jO ?_);(first | refine Ev.FZ 5 [29] vW ?_);intro Q hQ;(simp only [Ev.dW,Ev.dF,Ev.dG,Ev.dX]);conv=>whnf) | ((with_reducible refine Ev.jO ?_);(first | refine Ev.dru 9 [29] [[],[],[],[2],[2,3],[2,3,4],[2,3,4,5],[],[7],[7,8],[2,3,4,5,6,7,8,9],[],[11],[11,12],[11,12,13],[11,12,13,14],[],[16],[2,3,4,5,6,7,8,9,10,11,12,13,14,15,16,17],[0,2,3,4,5,6,7,8,9,10,11,12,13,14,15,16,17,18],[0,2,3,4,5,6,7,8,9,10,11,12,13,14,15,16,17,18,19],[0,2,3,4,5,6,7,8,9,10,11,12,13,14,15,16,17,18,19,20],[0,2,3,4,5,6,7,8,9,10,11,12,13,14,15,16,17,18,19,20,21],[0,1,2,3,4,5,6,7,8,9,10,11,12,13,14,15,16,17,18,19,20,21,22],[0,1,2,3,4,5,6,7,8,9,10,11,12,13,14,15,16,17,18,19,20,21,22,23],[0,1,2,3,4,5,6,7,8,9,10,11,12,13,14,15,16,17,18,19,20,21,22,23,24],[0,1,2,3,4,5,6,7,8,9,10,11,12,13,14,15,16,17,18,19,20,21,22,23,24,25]] vX ?_);intro Q hQ;(simp only [Ev.qx,Ev.nD,Ev.nG,Ev.nH,Ev.qy,Ev.qA]);conv=>whnf) | ((with_reducible refine Ev.both ?_ ?_) <;> (conv=>whnf)) | exact True.intro | refine' Ev.zT | fail)
  all_goals
    refine ⟨rfl,?_⟩
    apply Exists.intro
    apply Exists.intro
    refine ⟨Ev.ah rfl ?_,Ev.ah rfl ?_,Ev.ah rfl ?_,trivial⟩
    · rw [List.length_append,List.length_append];rfl
    · rw [DF]
    · rw [H9]
theorem adq{G:Prop}(h:G:=by (refine Ev.VL [0,1,4,5,6,10,14,29] 65536 [.tmp 4] Tryd.func25 (Tt _ rfl) (fun ct=>?_));all_goals(rcases(⟨_⟩:PLift _)with⟨h⟩;exact h)):G:=h
theorem O4 (vb vl fl vs fs:Nat) (Ls:List (List Sp)) (Ns:List Int) (t:ByteArray) (w:List Sp) (hw:w.length <= 100000000) (hb:bU w <= 1000000000) (hN:Ns.length = Ls.length + 1) (hL:Ls.length <= 1000000) :
   dM env 65536 25 [.ptr 7000 vb 0 0,.lst 3 (bM w)] (gQ 7000 7001 7002 vb vl fl vs fs Ls Ns t)
     (fun r h=>r = .v (.int .i64 (mJ w (Ns.getLast (by intro e;rw [e] at hN;simp at hN)))) /\ ∃ pJ vs':Nat,h = gQ 7000 7001 7002 vb pJ fl vs' fs (Ls ++ if mJ w (Ns.getLast (by intro e;rw [e] at hN;simp at hN)) = 0 then [norm w] else []) (Ns ++ if mJ w (Ns.getLast (by intro e;rw [e] at hN;simp at hN)) = 0 then [outW w] else []) t):=by
 by_cases he:mJ w (Ns.getLast (by intro e;rw [e] at hN;simp at hN)) = 0
 · refine jA (Xf vb vl fl vs fs Ls Ns t w hw hb hN hL he) ?_
   rintro r hp1 ⟨rfl,pJ,vs',h⟩
   rw [he,if_pos rfl,if_pos rfl]
   exact ⟨_,⟨rfl,pJ,vs',rfl⟩,h⟩
 · rw [if_neg he,if_neg he,List.append_nil,List.append_nil]
   have hsm:=jX hb
   have hM:=eY w (by omega) hsm
   have hO:=jo w (by omega) hsm
   have hI:=iE w (by omega)
   have hrl:=bK Ls
   have hil:=ig Ns
   unfold mJ at he ⊢
   by_cases m0:aF w = 0
   · rw [if_neg (by simpa using m0)] at he ⊢
     rw [m0] at hM
     by_cases m1:jK w = Ns.getLast (by intro e;rw [e] at hN;simp at hN)
     · rw [if_neg (by simpa using m1)] at he ⊢
       by_cases m2:1048576 < outW w
       · rw [if_pos m2]
         have m2:1048576 < sumW (fun s=>jk s.k s.n s.t) w:=m2
         rw [List.getLast_eq_getElem] at m1
         have Po:∀ h:Ls.length < Ns.length,sumW (fun s=>sQ s.k s.n) w = Ns[Ls.length]'h:=fun h=>by
           have Po:sumW (fun s=>sQ s.k s.n) w = Ns[Ns.length - 1]:=m1
           rw [Po];congr 1;omega
         refine' adq
         repeat' (first | (with_reducible refine Ev.bQ m2 ?_) | (with_reducible refine Ev.dR m2 ?_) | (with_reducible refine Ev.bQ (Po _) ?_) | (with_reducible refine Ev.dR (Po _) ?_) | refine' Ev.zP | refine' Ev.zS | ((with_reducible refine Ev.kr (hs:=[29]) (fun Q hQ=>?_));refine' Ev.zR) | ((with_reducible refine Ev.jJ 29 ?_);refine Ev.il 29 [0,2] [.tmp 2] Tryd.func29 (fK _ rfl) (fun aN=>?_)) | ((with_reducible refine Ev.ca0 ?_);(first | refine Ev.ca (hM) ?_ | refine Ev.ca (hO) ?_ | refine Ev.ca (hI) ?_);conv=>whnf) | ((with_reducible refine Ev.jO ?_);(first | refine Ev.FZ 5 [29] vW ?_);intro Q hQ;(simp only [Ev.dW,Ev.dF,Ev.dG,Ev.dX]);conv=>whnf) | ((with_reducible refine Ev.jO ?_);(first | refine Ev.dru 9 [29] [[],[],[],[2],[2,3],[2,3,4],[2,3,4,5],[],[7],[7,8],[2,3,4,5,6,7,8,9],[],[11],[11,12],[11,12,13],[11,12,13,14],[],[16],[2,3,4,5,6,7,8,9,10,11,12,13,14,15,16,17],[0,2,3,4,5,6,7,8,9,10,11,12,13,14,15,16,17,18],[0,2,3,4,5,6,7,8,9,10,11,12,13,14,15,16,17,18,19],[0,2,3,4,5,6,7,8,9,10,11,12,13,14,15,16,17,18,19,20],[0,2,3,4,5,6,7,8,9,10,11,12,13,14,15,16,17,18,19,20,21],[0,1,2,3,4,5,6,7,8,9,10,11,12,13,14,15,16,17,18,19,20,21,22],[0,1,2,3,4,5,6,7,8,9,10,11,12,13,14,15,16,17,18,19,20,21,22,23],[0,1,2,3,4,5,6,7,8,9,10,11,12,13,14,15,16,17,18,19,20,21,22,23,24],[0,1,2,3,4,5,6,7,8,9,10,11,12,13,14,15,16,17,18,19,20,21,22,23,24,25]] vX ?_);intro Q hQ;(simp only [Ev.qx,Ev.nD,Ev.nG,Ev.nH,Ev.qy,Ev.qA]);conv=>whnf) | ((with_reducible refine Ev.both ?_ ?_) <;> (conv=>whnf)) | exact True.intro | refine' Ev.zT | fail)
         all_goals exact ⟨rfl,vl,vs,rfl⟩
       · rw [if_neg m2] at he;exact absurd rfl he
     · rw [if_pos m1]
       rw [List.getLast_eq_getElem] at m1
       have Po:∀ h:Ls.length < Ns.length,¬ sumW (fun s=>sQ s.k s.n) w = Ns[Ls.length]'h:=fun h e=>by
         refine m1 ?_
         show sumW (fun s=>sQ s.k s.n) w = Ns[Ns.length - 1]
         rw [e];congr 1;omega
       refine' adq
       repeat' (first | (with_reducible refine Ev.bT (Po _) ?_) | (with_reducible refine Ev.bW (Po _) ?_) | refine' Ev.zP | refine' Ev.zS | ((with_reducible refine Ev.kr (hs:=[29]) (fun Q hQ=>?_));refine' Ev.zR) | ((with_reducible refine Ev.jJ 29 ?_);refine Ev.il 29 [0,2] [.tmp 2] Tryd.func29 (fK _ rfl) (fun aN=>?_)) | ((with_reducible refine Ev.ca0 ?_);(first | refine Ev.ca (hM) ?_ | refine Ev.ca (hO) ?_ | refine Ev.ca (hI) ?_);conv=>whnf) | ((with_reducible refine Ev.jO ?_);(first | refine Ev.FZ 5 [29] vW ?_);intro Q hQ;(simp only [Ev.dW,Ev.dF,Ev.dG,Ev.dX]);conv=>whnf) | ((with_reducible refine Ev.jO ?_);(first | refine Ev.dru 9 [29] [[],[],[],[2],[2,3],[2,3,4],[2,3,4,5],[],[7],[7,8],[2,3,4,5,6,7,8,9],[],[11],[11,12],[11,12,13],[11,12,13,14],[],[16],[2,3,4,5,6,7,8,9,10,11,12,13,14,15,16,17],[0,2,3,4,5,6,7,8,9,10,11,12,13,14,15,16,17,18],[0,2,3,4,5,6,7,8,9,10,11,12,13,14,15,16,17,18,19],[0,2,3,4,5,6,7,8,9,10,11,12,13,14,15,16,17,18,19,20],[0,2,3,4,5,6,7,8,9,10,11,12,13,14,15,16,17,18,19,20,21],[0,1,2,3,4,5,6,7,8,9,10,11,12,13,14,15,16,17,18,19,20,21,22],[0,1,2,3,4,5,6,7,8,9,10,11,12,13,14,15,16,17,18,19,20,21,22,23],[0,1,2,3,4,5,6,7,8,9,10,11,12,13,14,15,16,17,18,19,20,21,22,23,24],[0,1,2,3,4,5,6,7,8,9,10,11,12,13,14,15,16,17,18,19,20,21,22,23,24,25]] vX ?_);intro Q hQ;(simp only [Ev.qx,Ev.nD,Ev.nG,Ev.nH,Ev.qy,Ev.qA]);conv=>whnf) | ((with_reducible refine Ev.both ?_ ?_) <;> (conv=>whnf)) | exact True.intro | refine' Ev.zT | fail)
       all_goals exact ⟨rfl,vl,vs,rfl⟩
   · rw [if_pos m0]
     refine' adq
     repeat' (first | (with_reducible refine Ev.bT m0 ?_) | (with_reducible refine Ev.bW m0 ?_) | refine' Ev.zP | refine' Ev.zS | ((with_reducible refine Ev.kr (hs:=[29]) (fun Q hQ=>?_));refine' Ev.zR) | ((with_reducible refine Ev.jJ 29 ?_);refine Ev.il 29 [0,2] [.tmp 2] Tryd.func29 (fK _ rfl) (fun aN=>?_)) | ((with_reducible refine Ev.ca0 ?_);(first | refine Ev.ca (hM) ?_ | refine Ev.ca (hO) ?_ | refine Ev.ca (hI) ?_);conv=>whnf) | ((with_reducible refine Ev.jO ?_);(first | refine Ev.FZ 5 [29] vW ?_);intro Q hQ;(simp only [Ev.dW,Ev.dF,Ev.dG,Ev.dX]);conv=>whnf) | ((with_reducible refine Ev.jO ?_);(first | refine Ev.dru 9 [29] [[],[],[],[2],[2,3],[2,3,4],[2,3,4,5],[],[7],[7,8],[2,3,4,5,6,7,8,9],[],[11],[11,12],[11,12,13],[11,12,13,14],[],[16],[2,3,4,5,6,7,8,9,10,11,12,13,14,15,16,17],[0,2,3,4,5,6,7,8,9,10,11,12,13,14,15,16,17,18],[0,2,3,4,5,6,7,8,9,10,11,12,13,14,15,16,17,18,19],[0,2,3,4,5,6,7,8,9,10,11,12,13,14,15,16,17,18,19,20],[0,2,3,4,5,6,7,8,9,10,11,12,13,14,15,16,17,18,19,20,21],[0,1,2,3,4,5,6,7,8,9,10,11,12,13,14,15,16,17,18,19,20,21,22],[0,1,2,3,4,5,6,7,8,9,10,11,12,13,14,15,16,17,18,19,20,21,22,23],[0,1,2,3,4,5,6,7,8,9,10,11,12,13,14,15,16,17,18,19,20,21,22,23,24],[0,1,2,3,4,5,6,7,8,9,10,11,12,13,14,15,16,17,18,19,20,21,22,23,24,25]] vX ?_);intro Q hQ;(simp only [Ev.qx,Ev.nD,Ev.nG,Ev.nH,Ev.qy,Ev.qA]);conv=>whnf) | ((with_reducible refine Ev.both ?_ ?_) <;> (conv=>whnf)) | exact True.intro | refine' Ev.zT | fail)
     all_goals exact ⟨rfl,vl,vs,rfl⟩
theorem aaQ:∀ c,Tryd.f30.body = some c -> comp c = (.seq (.reg 0 [I.n 0 4 (.assign (.const (Value.string { data:=#[] }))),I.n 1 5 (I.si 0)]) (.seq (.seq (.reg 1 [I.n 0 6 (I.mv 0),I.n 1 7 (I.nc 6),I.n 2 8 (I.fa 44 7 0),I.n 3 9 (I.mv 1),I.n 4 10 (I.c2 77 8 9 42 3),I.n 5 11 (.unOp .not 4 (.tmp 10))]) (.cond (.tmp 11) (.seq (.reg 2 [I.n 0 4 (.assign (.const (Value.string { data:=#[] }))),I.n 1 5 (I.si 6)]) .ret) .skip)) (.seq (.draw 3 [I.n 0 12 (I.mv 0),I.n 1 13 (I.nc 12),I.n 2 14 (I.fa 44 13 1),I.n 3 15 (I.ld 9 14),I.n 4 16 (I.mv 0),I.n 5 17 (I.nc 16),I.n 6 18 (I.fa 44 17 0),I.n 7 19 (I.fa 42 18 0),I.n 8 20 (I.ld 22 19),I.n 9 21 (I.mv 1),I.n 10 22 (.slice 22 (.tmp 20) none (some (.tmp 21)) none),I.n 11 23 (I.c2 57 15 22 9 22),I.n 12 24 (I.ex 23 0),I.n 13 25 (I.ex 23 1),I.n 14 4 (I.sa 24),I.n 15 5 (I.sa 25)] [[],[0],[1],[2],[],[4],[5],[6],[7],[],[8,9],[3,10],[11],[11],[12,11,0,1,2,3,4,5,6,7,8,9,10,11,12,13],[13,14,0,1,2,3,4,5,6,7,8,9,10,11,12,13,14]]) .ret))):=by
 intro c h
 have:c = Tryd.f30.body.get rfl:=by rw [<- Option.some_inj,<- h];rfl
 rw [this];rfl
theorem Tv:∀ c,Tryd.f38.body = some c -> comp c = (.seq (.reg 0 [I.n 0 6 I.sn,I.n 1 7 (I.si 0)]) (.seq (.seq (.reg 1 [I.n 0 8 (I.mv 1),I.n 1 9 (I.bc .lss 3 8 0 3),I.n 2 10 (I.mv 9),I.w 3 11 (I.mv 2) 10 false,I.w 4 12 (I.mv 1) 10 false,I.w 5 13 (I.bo .lss 3 11 12 3) 10 false,I.n 6 14 (I.pb 10 true 13),I.n 7 15 (I.mv 14),I.w 8 16 (I.mv 0) 15 false,I.w 9 17 (I.nc 16) 15 false,I.w 10 18 (I.fa 44 17 0) 15 false,I.w 11 19 (I.mv 2) 15 false,I.w 12 20 (I.c2 77 18 19 42 3) 15 false,I.w 13 21 (.unOp .not 4 (.tmp 20)) 15 false,I.n 14 22 (I.pb 15 true 21)]) (.cond (.tmp 22) (.seq (.reg 2 [I.n 0 6 I.sn,I.n 1 7 (I.si 6)]) .ret) .skip)) (.seq (.draw 3 [I.n 0 23 (I.mv 0),I.n 1 24 (I.nc 23),I.n 2 25 (I.fa 44 24 0),I.n 3 26 (I.fa 42 25 1),I.n 4 27 (I.ld 25 26),I.n 5 28 (I.mv 1),I.n 6 29 (I.ia 25 27 28),I.n 7 30 (I.ld 3 29),I.n 8 31 (I.mv 0),I.n 9 32 (I.nc 31),I.n 10 33 (I.fa 44 32 0),I.n 11 34 (I.fa 42 33 0),I.n 12 35 (I.ld 22 34),I.n 13 36 (I.mv 1),I.n 14 37 (I.mv 2),I.n 15 38 (.slice 22 (.tmp 35) (some (.tmp 36)) (some (.tmp 37)) none),I.n 16 39 (I.c2 63 30 38 3 22),I.n 17 40 (I.ex 39 0),I.n 18 41 (I.ex 39 1),I.n 19 6 (I.sa 40),I.n 20 7 (I.sa 41)] [[],[0],[1],[2],[3],[],[4,5],[6],[],[8],[9],[10],[11],[],[],[12,13,14],[7,15],[16],[16],[17,16,0,1,2,3,4,5,6,7,8,9,10,11,12,13,14,15,16,17,18],[18,19,0,1,2,3,4,5,6,7,8,9,10,11,12,13,14,15,16,17,18,19]]) .ret))):=by
 intro c h
 have:c = Tryd.f38.body.get rfl:=by rw [<- Option.some_inj,<- h];rfl
 rw [this];rfl
def Tz (t:ByteArray) (Ls:List (List Sp)) (r:Int):AV:=if 0 <= r /\ r <= Ls.length then allA t (Ls.take r.toNat) else .dD [.v (.string ⟨#[]⟩),.v (.int .i64 6)]
theorem ad9{G:Prop}(h:G:=by (refine Ev.VL [0,1,4,5,11] 65536 [.tmp 4,.tmp 5] Tryd.func30 (aaQ _ rfl) (fun ct=>?_));all_goals(rcases(⟨_⟩:PLift _)with⟨h⟩;exact h)):G:=h
theorem TA (vb vl fl vs fs:Nat) (Ls:List (List Sp)) (Ns:List Int) (t:ByteArray) (r:Int) (hx:∀ x ∈ Ls,x.length <= 100000000) (hb:t.size + lH Ls <= 1000000000) (hL:Ls.length <= 1000000) :
   dM env 65536 30 [.ptr 7000 vb 0 0,.v (.int .i64 r)] (gQ 7000 7001 7002 vb vl fl vs fs Ls Ns t) (fun x h=>x = Tz t Ls r /\ ∃ pq:Nat,subs h (gQ 7000 7001 7002 vb vl pq vs fs Ls Ns t)):=by
 have hrl:=bK Ls
 unfold Tz
 by_cases hr:0 <= r /\ r <= Ls.length
 · rw [if_pos hr]
   obtain ⟨h1,h2⟩:=hr
   have hA:=G7 t (Ls.take r.toNat) (by rw [List.length_take];omega) (fun x h=>hx x (List.mem_of_mem_take h)) (by have:=Dl Ls r.toNat;omega)
   unfold allA at hA ⊢
   have hcut:List.take (r.toNat - 0) (List.drop (0 + 0) (aJ Ls)) = aJ (Ls.take r.toNat):=by simp [aJ]
   rw [<- hcut] at hA
   refine' ad9
   repeat' (first | (with_reducible refine Ev.bQ h2 ?_) | (with_reducible refine Ev.dR h2 ?_) | (with_reducible refine Ev.bQ h1 ?_) | (with_reducible refine Ev.dR h1 ?_) | refine' Ev.zP | refine' Ev.zS | ((with_reducible refine Ev.kr (hs:=[29,77]) (fun Q hQ=>?_));refine' Ev.zR) | ((with_reducible refine Ev.jJ 29 ?_);refine Ev.il 29 [0,2] [.tmp 2] Tryd.func29 (fK _ rfl) (fun aN=>?_)) | ((with_reducible refine Ev.jJ 77 ?_);refine Ev.il 77 [0,1,4] [.tmp 4] Tryd.func77 (uj _ rfl) (fun aN=>?_)) | ((with_reducible refine Ev.ca0 ?_);(first | refine Ev.ca (hA) ?_);conv=>whnf) | ((with_reducible refine Ev.jO ?_);(first | refine Ev.dr 3 [29,77] [0,1,2,3,4,5,6,7,8,9,10,11,12,13,14,15] ?_);intro Q hQ;(simp only [Ev.aK,Ev.aT]);conv=>whnf) | refine' Ev.zT | fail)
   all_goals exact ⟨rfl,_,Ev.ah rfl rfl,Ev.ah rfl rfl,Ev.ah rfl rfl,trivial⟩
 · rw [if_neg hr]
   by_cases h1:0 <= r
   · have h2:¬ r <= Ls.length:=fun h2=>hr ⟨h1,h2⟩
     refine' ad9
     repeat' (first | (with_reducible refine Ev.bT h2 ?_) | (with_reducible refine Ev.bW h2 ?_) | (with_reducible refine Ev.bQ h1 ?_) | (with_reducible refine Ev.dR h1 ?_) | refine' Ev.zP | refine' Ev.zS | ((with_reducible refine Ev.kr (hs:=[29,77]) (fun Q hQ=>?_));refine' Ev.zR) | ((with_reducible refine Ev.jJ 29 ?_);refine Ev.il 29 [0,2] [.tmp 2] Tryd.func29 (fK _ rfl) (fun aN=>?_)) | ((with_reducible refine Ev.jJ 77 ?_);refine Ev.il 77 [0,1,4] [.tmp 4] Tryd.func77 (uj _ rfl) (fun aN=>?_)) | ((with_reducible refine Ev.jO ?_);(first | refine Ev.dr 3 [29,77] [0,1,2,3,4,5,6,7,8,9,10,11,12,13,14,15] ?_);intro Q hQ;(simp only [Ev.aK,Ev.aT]);conv=>whnf) | refine' Ev.zT | fail)
     all_goals exact ⟨rfl,fl,Ev.ah rfl rfl,Ev.ah rfl rfl,Ev.ah rfl rfl,trivial⟩
   · refine' ad9
     repeat' (first | (with_reducible refine Ev.bT h1 ?_) | (with_reducible refine Ev.bW h1 ?_) | refine' Ev.zP | refine' Ev.zS | ((with_reducible refine Ev.kr (hs:=[29,77]) (fun Q hQ=>?_));refine' Ev.zR) | ((with_reducible refine Ev.jJ 29 ?_);refine Ev.il 29 [0,2] [.tmp 2] Tryd.func29 (fK _ rfl) (fun aN=>?_)) | ((with_reducible refine Ev.jJ 77 ?_);refine Ev.il 77 [0,1,4] [.tmp 4] Tryd.func77 (uj _ rfl) (fun aN=>?_)) | ((with_reducible refine Ev.jO ?_);(first | refine Ev.dr 3 [29,77] [0,1,2,3,4,5,6,7,8,9,10,11,12,13,14,15] ?_);intro Q hQ;(simp only [Ev.aK,Ev.aT]);conv=>whnf) | refine' Ev.zT | fail)
     all_goals exact ⟨rfl,fl,Ev.ah rfl rfl,Ev.ah rfl rfl,Ev.ah rfl rfl,trivial⟩
theorem DI (Ls:List (List Sp)) (i:Nat):pO (Ls.drop i) <= pO Ls:=by
 induction Ls generalizing i with
 | nil=>simp
 | cons x L ih =>
   cases i with
   | zero=>exact Nat.le_refl _
   | succ i=>rw [List.drop_succ_cons,(gq x L).1];have:=ih i;omega
def O5 (Ls:List (List Sp)) (Ns:List Int) (r s:Int):AV:=if 0 <= r /\ r <= s /\ s <= Ls.length then xY (eu (Ns.getD r.toNat 0)) ((Ls.drop r.toNat).take (s.toNat - r.toNat)) else .dD [nilA,.v (.int .i64 6)]
theorem xu (Ls:List (List Sp)) (i:Nat):pO (Ls.take i) <= pO Ls /\ rZ (Ls.take i) <= rZ Ls:=by
 induction Ls generalizing i with
 | nil=>simp
 | cons x L ih =>
   cases i with
   | zero=>rw [List.take_zero];exact ⟨Nat.zero_le _,Nat.zero_le _⟩
   | succ i=>rw [List.take_succ_cons,(gq x L).1,(gq x L).2,(gq x _).1,(gq x _).2];have:=ih i;omega
theorem DJ (Ls:List (List Sp)) (i:Nat):rZ (Ls.drop i) <= rZ Ls:=by
 induction Ls generalizing i with
 | nil=>simp
 | cons x L ih =>
   cases i with
   | zero=>exact Nat.le_refl _
   | succ i=>rw [List.drop_succ_cons,(gq x L).2];have:=ih i;omega
theorem aai{G:Prop}(h:G:=by
 rw [hR] at hF ⊢
 refine Ev.VL [0,1,2,6,7,22] 65536 [.tmp 6,.tmp 7] Tryd.func38 (Tv _ rfl) (fun ct=>?_)
 repeat' (first | (with_reducible refine Ev.bT h0' ?_) | (with_reducible refine Ev.bW h0' ?_) | (with_reducible refine Ev.bT h1' ?_) | (with_reducible refine Ev.bW h1' ?_) | (with_reducible refine Ev.bQ h2 ?_) | (with_reducible refine Ev.dR h2 ?_) | (with_reducible refine Ev.bQ hs0 ?_) | (with_reducible refine Ev.dR hs0 ?_) | refine' Ev.zP | refine' Ev.zS | ((with_reducible refine Ev.kr (hs:=[29,77]) (fun Q hQ=>?_));refine' Ev.zR) | ((with_reducible refine Ev.jJ 29 ?_);refine Ev.il 29 [0,2] [.tmp 2] Tryd.func29 (fK _ rfl) (fun aN=>?_)) | ((with_reducible refine Ev.jJ 77 ?_);refine Ev.il 77 [0,1,4] [.tmp 4] Tryd.func77 (uj _ rfl) (fun aN=>?_)) | ((with_reducible refine Ev.ca0 ?_);(first | refine Ev.ca (hF) ?_);conv=>whnf) | ((with_reducible refine Ev.jO ?_);(first | refine Ev.dr 3 [29,77] [0,1,2,3,4,5,6,7,8,9,10,11,12,13,14,15,16,17,18,19,20] ?_);intro Q hQ;(simp only [Ev.aK,Ev.aT]);conv=>whnf) | refine' Ev.zT | fail)
 all_goals(rcases(⟨_⟩:PLift _)with⟨h⟩;exact h)):G:=h
theorem adr{G:Prop}(h:G:=by (refine Ev.VL [0,1,2,6,7,22] 65536 [.tmp 6,.tmp 7] Tryd.func38 (Tv _ rfl) (fun ct=>?_));all_goals(rcases(⟨_⟩:PLift _)with⟨h⟩;exact h)):G:=h
theorem TB (vb vl fl vs fs:Nat) (Ls:List (List Sp)) (Ns:List Int) (t:ByteArray) (r s:Int) (hN:Ns.length = Ls.length + 1) (hn:∀ n ∈ Ns,0 <= n /\ n <= 1048576) (hl:pO Ls <= 9999999) (hb:rZ Ls <= 100000000) (hL:Ls.length <= 1000000) :
   dM env 65536 38 [.ptr 7000 vb 0 0,.v (.int .i64 r),.v (.int .i64 s)] (gQ 7000 7001 7002 vb vl fl vs fs Ls Ns t) (fun x h=>x = O5 Ls Ns r s /\ ∃ pq:Nat,subs h (gQ 7000 7001 7002 vb vl pq vs fs Ls Ns t)):=by
 have hrl:=bK Ls
 have hil:=ig Ns
 unfold O5
 by_cases hr:0 <= r /\ r <= s /\ s <= Ls.length
 · obtain ⟨h0,h1,h2⟩:=hr
   obtain ⟨n,rfl⟩:=Int.eq_ofNat_of_zero_le h0
   have hnn:(n:Int).toNat = n:=Int.toNat_natCast n
   have hrn:n < Ns.length:=by omega
   have hd:Ns.getD (n:Int).toNat 0 = Ns[n]'hrn:=by rw [hnn,List.getD_eq_getElem?_getD,List.getElem?_eq_getElem hrn];rfl
   rw [if_pos ⟨h0,h1,h2⟩,hd]
   have hF:=OZ Ns[n] (hn _ (List.getElem_mem hrn)) ((Ls.drop (n:Int).toNat).take (s.toNat - (n:Int).toNat)) (by have:=(xu (Ls.drop (n:Int).toNat) (s.toNat - (n:Int).toNat)).1;have:=DI Ls (n:Int).toNat;omega) (by have:=(xu (Ls.drop (n:Int).toNat) (s.toNat - (n:Int).toNat)).2;have:=DJ Ls (n:Int).toNat;omega) (by simp;omega)
   have hcut:List.take (s.toNat - (n:Int).toNat) (List.drop (0 + (n:Int).toNat) (aJ Ls)) = aJ ((Ls.drop (n:Int).toNat).take (s.toNat - (n:Int).toNat)):=by simp [aJ]
   rw [<- hcut] at hF
   have h0':¬ (n:Int) < 0:=by omega
   have h1':¬ s < (n:Int):=by omega
   have hs0:0 <= s:=by omega
   have hR:xY (eu Ns[n]) ((Ls.drop (n:Int).toNat).take (s.toNat - (n:Int).toNat)) = .dD [if (fJ (eu Ns[n]) ((Ls.drop (n:Int).toNat).take (s.toNat - (n:Int).toNat))).2 = 0 then .lst 3 (bM (fJ (eu Ns[n]) ((Ls.drop (n:Int).toNat).take (s.toNat - (n:Int).toNat))).1) else nilA,.v (.int .i64 (fJ (eu Ns[n]) ((Ls.drop (n:Int).toNat).take (s.toNat - (n:Int).toNat))).2)]:=rfl
   generalize fJ (eu Ns[n]) ((Ls.drop (n:Int).toNat).take (s.toNat - (n:Int).toNat)) = G at *
   by_cases hG:G.2 = 0
   · rw [if_pos hG] at hR
     refine' aai
     all_goals exact ⟨rfl,_,Ev.ah rfl rfl,Ev.ah rfl rfl,Ev.ah rfl rfl,trivial⟩
   · rw [if_neg hG] at hR
     refine' aai
     all_goals exact ⟨rfl,_,Ev.ah rfl rfl,Ev.ah rfl rfl,Ev.ah rfl rfl,trivial⟩
 · rw [if_neg hr]
   by_cases h0:r < 0
   · refine' adr
     repeat' (first | (with_reducible refine Ev.bQ h0 ?_) | (with_reducible refine Ev.dR h0 ?_) | refine' Ev.zP | refine' Ev.zS | ((with_reducible refine Ev.kr (hs:=[29,77]) (fun Q hQ=>?_));refine' Ev.zR) | ((with_reducible refine Ev.jJ 29 ?_);refine Ev.il 29 [0,2] [.tmp 2] Tryd.func29 (fK _ rfl) (fun aN=>?_)) | ((with_reducible refine Ev.jJ 77 ?_);refine Ev.il 77 [0,1,4] [.tmp 4] Tryd.func77 (uj _ rfl) (fun aN=>?_)) | ((with_reducible refine Ev.jO ?_);(first | refine Ev.dr 3 [29,77] [0,1,2,3,4,5,6,7,8,9,10,11,12,13,14,15,16,17,18,19,20] ?_);intro Q hQ;(simp only [Ev.aK,Ev.aT]);conv=>whnf) | refine' Ev.zT | fail)
     all_goals exact ⟨rfl,fl,Ev.ah rfl rfl,Ev.ah rfl rfl,Ev.ah rfl rfl,trivial⟩
   · by_cases h1:s < r
     · refine' adr
       repeat' (first | (with_reducible refine Ev.bT h0 ?_) | (with_reducible refine Ev.bW h0 ?_) | (with_reducible refine Ev.bQ h1 ?_) | (with_reducible refine Ev.dR h1 ?_) | refine' Ev.zP | refine' Ev.zS | ((with_reducible refine Ev.kr (hs:=[29,77]) (fun Q hQ=>?_));refine' Ev.zR) | ((with_reducible refine Ev.jJ 29 ?_);refine Ev.il 29 [0,2] [.tmp 2] Tryd.func29 (fK _ rfl) (fun aN=>?_)) | ((with_reducible refine Ev.jJ 77 ?_);refine Ev.il 77 [0,1,4] [.tmp 4] Tryd.func77 (uj _ rfl) (fun aN=>?_)) | ((with_reducible refine Ev.jO ?_);(first | refine Ev.dr 3 [29,77] [0,1,2,3,4,5,6,7,8,9,10,11,12,13,14,15,16,17,18,19,20] ?_);intro Q hQ;(simp only [Ev.aK,Ev.aT]);conv=>whnf) | refine' Ev.zT | fail)
       all_goals exact ⟨rfl,fl,Ev.ah rfl rfl,Ev.ah rfl rfl,Ev.ah rfl rfl,trivial⟩
     · have h2:¬ s <= Ls.length:=fun h2=>hr ⟨by omega,by omega,h2⟩
       have hs0:0 <= s:=by omega
       refine' adr
       repeat' (first | (with_reducible refine Ev.bT h0 ?_) | (with_reducible refine Ev.bW h0 ?_) | (with_reducible refine Ev.bT h1 ?_) | (with_reducible refine Ev.bW h1 ?_) | (with_reducible refine Ev.bT h2 ?_) | (with_reducible refine Ev.bW h2 ?_) | (with_reducible refine Ev.bQ hs0 ?_) | (with_reducible refine Ev.dR hs0 ?_) | refine' Ev.zP | refine' Ev.zS | ((with_reducible refine Ev.kr (hs:=[29,77]) (fun Q hQ=>?_));refine' Ev.zR) | ((with_reducible refine Ev.jJ 29 ?_);refine Ev.il 29 [0,2] [.tmp 2] Tryd.func29 (fK _ rfl) (fun aN=>?_)) | ((with_reducible refine Ev.jJ 77 ?_);refine Ev.il 77 [0,1,4] [.tmp 4] Tryd.func77 (uj _ rfl) (fun aN=>?_)) | ((with_reducible refine Ev.jO ?_);(first | refine Ev.dr 3 [29,77] [0,1,2,3,4,5,6,7,8,9,10,11,12,13,14,15,16,17,18,19,20] ?_);intro Q hQ;(simp only [Ev.aK,Ev.aT]);conv=>whnf) | refine' Ev.zT | fail)
       all_goals exact ⟨rfl,fl,Ev.ah rfl rfl,Ev.ah rfl rfl,Ev.ah rfl rfl,trivial⟩
end Go.Proofs.YtadlnaljicikfaaDoor.aB
namespace Go.Proofs.YtadlnaljicikfaaDoor.aB
open Go Go.Lib
theorem O6 {P:Program} {t e:TypeId} (he:P.underlying t = some (.slice e)) (A:Option Addr) (n c:Nat) (X Y:Operand) (w:World) :
   (do eqGuard .eql t X Y (.slice A n c) (.slice none 0 0);binOp .eql t (.slice A n c) (.slice none 0 0):Sem Value).run P w = .ok (.bool A.isNone) w:=by
 have key:(Op.equal t (.slice A n c) (.slice none 0 0)).run P w = .ok A.isNone w:=by
   have key:∀ d,(Op.equalIn (d + 1) t (.slice A n c) (.slice none 0 0)).run P w = .ok A.isNone w:=by
     intro d
     simp only [Op.equalIn,Sem.run_bind,run_underlying he,Result.andThen_ok]
     cases A <;> rfl
   exact key 9999
 simp only [Sem.run_bind,pF .eql t X Y (.slice A n c) (.slice none 0 0) (by simp) (by simp) w,Result.andThen_ok,binOp,key,Sem.run_pure]
namespace Ev
section
variable {E:Env} {nt:Nat}
theorem Lh {K:Exit -> St -> Prop} {sl:List (Nat × AV)} {hp:List (Nat × au)} {ct id i j x t0 d t e u sz:Nat} {xs:List (List AV)} (he:E.P.underlying t = some (.slice e)) (hx:get sl x = some (.lst sz xs))
   (h1:xs = [] -> K .normal ⟨(d,.v (.bool true)) :: (t0,.lst sz xs) :: sl,hp,ct⟩) (h2:K .normal ⟨(d,.v (.bool false)) :: (t0,.lst sz xs) :: sl,hp,ct⟩) :
   Wp E nt (.reg id [⟨i,some t0,.move (.tmp x),none⟩,⟨j,some d,.binOp .eql t (.tmp t0) (.const (.slice none 0 0)) u,none⟩]) K ⟨sl,hp,ct⟩:=by
 intro c hc hok M0 w0 M J tm w inv hsz
 obtain ⟨ops,rfl,hl⟩:=Rt hc
 obtain ⟨z1,z2⟩:=yY ops
 refine wp_region ?_
 rw [<- z2]
 change insL ops (ops.toList.zipIdx.map fun p=>(p.2,p.1)) = _ at hl
 generalize ops.toList.zipIdx.map (fun p=>(p.2,p.1)) = L at hl z1 ⊢
 have hlen:=FY hl
 match L,hl with
 | [],hl=>simp at hlen
 | [p],hl=>simp at hlen
 | p :: q :: r :: L',hl=>simp at hlen
 | [p,q],hl =>
   simp only [insL] at hl
   split at hl
   case h_2=>cases hl
   rename_i a r ha hr
   split at hr
   case h_2=>cases hr
   rename_i a2 r2 ha2 hr2
   obtain rfl:=Option.some.inj hr2
   obtain rfl:=Option.some.inj hr
   obtain hl:=Option.some.inj hl
   injection hl with hl1 hl2
   injection hl2 with hl2 _
   subst hl1;subst hl2
   obtain ⟨i',o1⟩:=p
   obtain ⟨j',o2⟩:=q
   have hg1:o1.guard = none /\ i' = i /\ o1.dst = some t0 /\ o1.op = .move (.tmp x):=by
     simp only [insOf] at ha
     split at ha
     · rename_i hg;injection Option.some.inj ha with h1 h2 h3;exact ⟨hg,h1,h2,h3⟩
     · rw [Option.map_eq_some_iff] at ha;obtain ⟨t',_,h'⟩:=ha;injection h' with _ _ _ h4;cases h4
   have hg2:o2.guard = none /\ j' = j /\ o2.dst = some d /\ o2.op = .binOp .eql t (.tmp t0) (.const (.slice none 0 0)) u:=by
     simp only [insOf] at ha2
     split at ha2
     · rename_i hg;injection Option.some.inj ha2 with h1 h2 h3;exact ⟨hg,h1,h2,h3⟩
     · rw [Option.map_eq_some_iff] at ha2;obtain ⟨t',_,h'⟩:=ha2;injection h' with _ _ _ h4;cases h4
   obtain ⟨g1,rfl,g3,g4⟩:=hg1
   obtain ⟨k1,rfl,k3,k4⟩:=hg2
   have e1:ops[i']? = some o1:=z1 (i',o1) (by simp)
   have e2:ops[j']? = some o2:=z1 (j',o2) (by simp)
   have hdst:∀ {q:Nat} {o:Oper},ops[q]? = some o -> ∀ t,o.dst = some t -> t < nt:=by
     intro q o hq t ht
     simp only [bI,xE] at hok
     rw [List.all_eq_true] at hok
     have:=hok o (by rw [Array.mem_toList_iff];exact Array.mem_of_getElem? hq)
     rw [ht] at this;simpa using this
   have hd1:=hdst e1 t0 g3
   have hd2:=hdst e2 d k3
   obtain ⟨v,hv,hr⟩:=inv.slot x _ hx
   have hp:=hr.oh
   cases hp with
   | lst uu hn hcap hz hA hM hh =>
     rename_i A n cap
     simp only [List.map_cons,List.map_nil,wpOps,e1,e2]
     have w1:Region.wanted o1 (yielded ops tm) = true:=by simp [Region.wanted,g1]
     rw [if_pos w1]
     refine .inl ?_
     have hev:(⟨tm,M0.d⟩:Act).eval (.tmp x) = .slice A n cap:=by simp [Act.eval,hv]
     unfold Oper.wp execOp
     rw [g4]
     simp only [hev,Sem.run_pure,Oper.upon_value]
     have aeK:((⟨tm,M0.d⟩:Act).put o1.dst (.slice A n cap)) = ⟨tm.setIfInBounds t0 (.slice A n cap),M0.d⟩:=by rw [g3];rfl
     rw [aeK]
     have i1:Inv E M0 w0 ct M J ⟨(t0,.lst sz xs) :: sl,hp,ct⟩ (tm.setIfInBounds t0 (.slice A n cap)) w:=by
       have:=Inv.put inv (d:=some t0) (x:=.lst sz xs) (v:=.slice A n cap) (ds:=[]) (.pure (.lst uu hn hcap hz hA hM hh)) (fun t ht=>by have e:=Option.some.inj ht;subst e;rw [hsz];exact hd1)
       exact this
     have w2:Region.wanted o2 (yielded ops (tm.setIfInBounds t0 (.slice A n cap))) = true:=by simp [Region.wanted,k1]
     rw [if_pos w2]
     refine .inl ?_
     have hev2:(⟨tm.setIfInBounds t0 (.slice A n cap),M0.d⟩:Act).eval (.tmp t0) = .slice A n cap:=by
       have:t0 < tm.size:=by rw [hsz];exact hd1
       simp [Act.eval,this]
     rw [k4]
     simp only [hev2]
     have hrun:=O6 he A n cap (.tmp t0) (.const (.slice none 0 0)) w
     have agw:(⟨tm.setIfInBounds t0 (.slice A n cap),M0.d⟩:Act).eval (.const (.slice none 0 0)) = .slice none 0 0:=rfl
     rw [agw]
     rw [Sem.run_bind,hrun]
     simp only [Result.andThen_ok,Sem.run_pure,Oper.upon_value]
     have i2:∀ b:Bool,Inv E M0 w0 ct M J ⟨(d,.v (.bool b)) :: (t0,.lst sz xs) :: sl,hp,ct⟩ ((tm.setIfInBounds t0 (.slice A n cap)).setIfInBounds d (.bool b)) w:=fun b=>by
       have:=Inv.put i1 (d:=some d) (x:=.v (.bool b)) (v:=.bool b) (ds:=[]) (.pure (.v _)) (fun t ht=>by have e:=Option.some.inj ht;subst e;rw [Array.size_setIfInBounds,hsz];exact hd2)
       exact this
     have aeL:∀ b:Bool,((⟨tm.setIfInBounds t0 (.slice A n cap),M0.d⟩:Act).put o2.dst (.bool b)) = ⟨(tm.setIfInBounds t0 (.slice A n cap)).setIfInBounds d (.bool b),M0.d⟩:=fun b=>by rw [k3];rfl
     rw [aeL]
     cases hAn:A with
     | none =>
       have hnil:xs = []:=Decidable.byContradiction fun hne=>by
         obtain ⟨b,o,e⟩:=hA hne
         rw [hAn] at e;cases e
       refine ⟨_,M,J,h1 hnil,?_,?_,rfl⟩
       · subst hAn;exact i2 true
       · simp;exact hsz
     | some a =>
       refine ⟨_,M,J,h2,?_,?_,rfl⟩
       · subst hAn;exact i2 false
       · simp;exact hsz
end
end Ev
end Go.Proofs.YtadlnaljicikfaaDoor.aB
namespace Go.Proofs.YtadlnaljicikfaaDoor.aB
open Go
set_option maxRecDepth 100000
attribute [local irreducible] Ev.gV Ev.iy Ev.bC Ev.runK Ev.bD Ev.fD Ev.Side Ev.Wp Ev.Again Ev.To Ev.Fin
open Go.Lib Go.RowKit
theorem TD:∀ c,Tryd.f75.body = some c -> comp c = (.seq (.reg 0 [I.n 0 2 I.sn]) (.seq (.seq (.reg 1 [I.n 0 3 (I.mv 0),I.n 1 4 (.binOp .eql 23 (.tmp 3) (.const (Value.slice none 0 0)) 23)]) (.cond (.tmp 4) (.seq (.reg 2 [I.n 0 2 I.sn]) .ret) .skip)) (.seq (.reg 3 [I.n 0 5 (.buildSlice 23 0 #[]),I.n 1 6 (I.mv 0),I.n 2 7 (I.ap 5 6 23 23),I.n 3 2 (I.sa 7)]) .ret))):=by
 intro c h
 have:c = Tryd.f75.body.get rfl:=by rw [<- Option.some_inj,<- h];rfl
 rw [this];rfl
theorem aaR:∀ c,Tryd.f26.body = some c -> comp c = (.seq (.reg 0 [I.n 0 2 (.alloc 27)]) (.seq (.reg 1 [I.n 0 6 (I.mv 0),I.n 1 7 (I.nc 6),I.n 2 8 (I.fa 44 7 1),I.n 3 9 (I.ld 9 8),I.n 4 10 (.buildSlice 25 1 #[(0,.const (Value.int .i64 0))]),I.n 5 11 (.build 27 #[(0,.tmp 9),(1,.tmp 10)]),I.n 6 3 (.alloc 27),I.u 7 (I.st 27 3 11)]) (.seq (.seq (.reg 2 [I.n 0 12 (I.mv 0),I.n 1 13 (I.nc 12),I.n 2 14 (I.fa 44 13 0),I.n 3 15 (I.fa 42 14 0),I.n 4 16 (I.ld 22 15),I.n 5 17 (I.ln 16 22),I.n 6 18 (.move (.const (Value.int .i64 0)))]) (.block 0 (.loop (.seq (.reg 3 [I.n 0 19 (I.bo .lss 3 18 17 3)]) (.seq (.cond (.tmp 19) .skip (.exit 0)) (.seq (.block 1 (.seq (.reg 4 [I.n 0 20 (I.mv 18),I.n 1 21 (I.ia 22 16 18),I.n 2 22 (I.ld 23 21),I.n 3 4 (I.sa 20),I.n 4 5 (I.sa 22)]) (.seq (.reg 5 [I.n 0 23 (I.fa 27 3 1),I.n 1 24 (I.ld 25 23),I.n 2 25 (I.mv 4),I.n 3 26 (I.bc .add 3 25 1 3),I.n 4 27 (I.b1 25 26),I.n 5 28 (I.ap 24 27 25 25),I.n 6 29 (I.fa 27 3 1),I.u 7 (I.st 25 29 28)]) (.draw 6 [I.n 0 30 (I.fa 27 3 2),I.n 1 31 (I.ld 22 30),I.n 2 32 (I.mv 5),I.n 3 33 (I.c1 75 32 23),I.n 4 34 (I.b1 22 33),I.n 5 35 (I.ap 31 34 22 22),I.n 6 36 (I.fa 27 3 2),I.u 7 (I.st 22 36 35)] [[],[0],[],[2],[3],[1,4,3],[0,1,2,3,4,5],[6,5,5,0,1,2,3,4,5]])))) (.reg 7 [I.n 0 37 (I.bc .add 3 18 1 3),I.n 1 18 (I.mv 37)]))))))) (.seq (.reg 8 [I.n 0 38 (I.ld 27 3),I.u 1 (I.st 27 2 38)]) .ret)))):=by
 intro c h
 have:c = Tryd.f26.body.get rfl:=by rw [<- Option.some_inj,<- h];rfl
 rw [this];rfl
theorem JR (l:List Sp) (hl:l.length <= 100000000):aH env 75 [.lst 3 (bM l)] (fun r hs=>r = .lst 3 (bM l) /\ hs = []):=by
 have hsl:=dw l
 have hu:env.P.underlying 23 = some (.slice 35):=Tryd.underlying23
 by_cases h0:l = []
 · subst h0
   refine aH.res (R:=fun r hs=>nC r (.lst 3 (bM [])) /\ hs = []) ?_ (fun r hs ⟨a,b⟩=>⟨_,⟨rfl,b⟩,a⟩)
   refine Ev.fn [0,2,4] 0 [.tmp 2] Tryd.func75 (TD _ rfl) ?_
   repeat' (first | refine' Ev.zP | (with_reducible refine Ev.Lh hu rfl (fun h=>?_) ?_) | refine' Ev.zS | refine' Ev.zK | refine' Ev.zT | fail)
   · exact ⟨nC.nil 3,rfl⟩
   · exact ⟨nC.refl _,rfl⟩
 · have hne:bM l ≠ []:=by intro e;have:=congrArg List.length e;rw [hsl] at this;exact h0 (List.length_eq_zero_iff.1 (by simpa using this))
   refine Ev.fn [0,2,4] 0 [.tmp 2] Tryd.func75 (TD _ rfl) ?_
   repeat' (first | refine' Ev.zP | (with_reducible refine Ev.Lh hu rfl (fun h=>absurd h hne) ?_) | refine' Ev.zS | refine' Ev.zK | refine' Ev.zT | fail)
   refine ⟨?_,rfl⟩
   show AV.lst 3 (List.take (0 + (bM l).length) (List.drop 0 (bM l))) = _
   rw [List.drop_zero,Nat.zero_add,List.take_length]
def gJ (n:Nat):List Int:=(List.range (n + 1)).map fun i:Nat=>(i:Int)
theorem DK (n:Nat):(gJ n).length = n + 1:=by simp [gJ]
theorem JU (n:Nat):ints (gJ n) ++ List.take 1 (List.drop 0 [[AV.v (.int .i64 ((n + 1:Nat):Int))]]) = ints (gJ (n + 1)):=by
 have:gJ (n + 1) = gJ n ++ [((n + 1:Nat):Int)]:=by
   unfold gJ;rw [List.range_succ,List.map_append];rfl
 rw [this,H9]
set_option maxHeartbeats 4000000 in
theorem O7 (vb vl fl vs fs:Nat) (Ls:List (List Sp)) (Ns:List Int) (t:ByteArray) (hx:∀ x ∈ Ls,x.length <= 100000000) (hL:Ls.length <= 1000000) :
    dM env 65536 26 [.ptr 7000 vb 0 0] (gQ 7000 7001 7002 vb vl fl vs fs Ls Ns t)
      (fun x h=>∃ v1 v2:Nat,x = .agg [.v (.string t),.own 66080 v1 0 (Ls.length + 1),.own 9100 v2 0 Ls.length] /\ subs h (gQ 7000 7001 7002 vb vl fl vs fs Ls Ns t ++ [(66080,⟨1,3,v1,0,false,ints (gJ Ls.length)⟩),(9100,⟨1,23,v2,0,false,aJ Ls⟩)])):=by
  have hrl:=bK Ls
  refine Ev.VL [0,2,3,4,5,16,17,18,19] 65536 [.cell 2 27] Tryd.func26 (aaR _ rfl) (fun ct=>?_)
  repeat' (first | refine' Ev.zP | refine' Ev.zS | refine' Ev.zK | ((with_reducible refine Ev.jO ?_);(first | refine Ev.dr 6 [] [0,1,2,3,4,5,6,7] ?_);intro Q hQ;(simp only [Ev.aK,Ev.aT]);conv=>whnf) | refine' Ev.zT | fail)
  refine Ev.Hw 66096 9100 1 23 2 rfl rfl rfl ?_
  refine Ev.loop (fun k st=>∃ (i c v0 v3 v1 v2:Nat),st = ⟨[(2,.ptr 65536 v0 0 0),(3,.ptr 66096 v3 0 0),(16,.own 7001 vl 0 Ls.length),(17,.v (.int .i64 Ls.length)),(18,.v (.int .i64 i))],
    gQ 7000 7001 7002 vb vl fl vs fs Ls Ns t ++ [(65536,⟨3,27,v0,0,true,[[.v (.string ⟨#[]⟩),nilA,nilA]]⟩),(66096,⟨3,27,v3,0,true,[[.v (.string t),.own 66080 v1 0 (i + 1),.own 9100 v2 0 i]]⟩),(66080,⟨1,3,v1,0,false,ints (gJ i)⟩),(9100,⟨1,23,v2,0,false,aJ (Ls.take i)⟩)],c⟩ /\ k + i = Ls.length) ?_ ?_
  · refine Ev.zB ⟨Ls.length,0,?_,?_,?_,?_,?_,rfl,?_⟩
    omega
  rintro k s1 ⟨i,c,v0,v3,v1,v2,rfl,hk⟩
  have hil:=ig (gJ i)
  rw [DK] at hil
  have htl:=bK (Ls.take i)
  rw [List.length_take] at htl
  by_cases hi:i < Ls.length
  · have hii:(i:Int) < (Ls.length:Int):=by omega
    obtain ⟨k',rfl⟩:∃ k',k = k' + 1:=⟨k - 1,by omega⟩
    have hw:IntKind.i64.wrap ((i:Int) + 1) = ((i + 1:Nat):Int):=by rw [aY (by omega)];omega
    have hC:=JR Ls[i] (hx _ (List.getElem_mem hi))
    repeat' (first | (with_reducible refine Ev.bQ hii ?_) | (with_reducible refine Ev.dR hii ?_) | refine' Ev.zP | refine' Ev.zS | refine' Ev.zK | ((with_reducible refine Ev.ca0 ?_);(first | refine Ev.ca (hC) ?_);conv=>whnf) | ((with_reducible refine Ev.jO ?_);(first | refine Ev.dr 6 [] [0,1,2,3,4,5,6,7] ?_);intro Q hQ;(simp only [Ev.aK,Ev.aT]);conv=>whnf) | refine' Ev.zT | fail)
    have hr:=JU i
    rw [<- hw] at hr
    have hs:aJ (Ls.take i) ++ List.take 1 (List.drop 0 [[AV.lst 3 (bM Ls[i])]]) = aJ (Ls.take (i + 1)):=by rw [DF,List.take_succ_eq_append_getElem hi]
    refine Ev.zA (k') ⟨i + 1,?_,v0,v3,?_,?_,rfl,?_⟩ (by refine' Ev.zp <;> first | (first | exact hw | exact congrArg (fun e=>au.mk 1 3 _ 0 false e) hr | exact congrArg (fun e=>au.mk 1 23 _ 0 false e) hs | (simp;done) | rfl) | rfl | (refine' Ev.ze;(first | exact hw | exact congrArg (fun e=>au.mk 1 3 _ 0 false e) hr | exact congrArg (fun e=>au.mk 1 23 _ 0 false e) hs | (simp;done) | rfl)) | fail)
    omega
  · have hii:¬ (i:Int) < (Ls.length:Int):=by omega
    repeat' (first | (with_reducible refine Ev.bT hii ?_) | (with_reducible refine Ev.bW hii ?_) | refine' Ev.zP | refine' Ev.zS | refine' Ev.zK | ((with_reducible refine Ev.jO ?_);(first | refine Ev.dr 6 [] [0,1,2,3,4,5,6,7] ?_);intro Q hQ;(simp only [Ev.aK,Ev.aT]);conv=>whnf) | refine' Ev.zT | fail)
    have e:i = Ls.length:=by omega
    subst e
    rw [List.take_length]
    exact ⟨v1,v2,rfl,Ev.ah rfl rfl,Ev.ah rfl rfl,Ev.ah rfl rfl,Ev.ah rfl rfl,Ev.ah rfl rfl,trivial⟩
end Go.Proofs.YtadlnaljicikfaaDoor.aB
namespace Go.Proofs.YtadlnaljicikfaaDoor.aB
open Go Go.Lib
namespace Ev
theorem O8 {E:Env} {nm:Nat} {f:FuncId} (a b:List AV) {x y:AV} {hp hp':List (Nat × au)} {ct:Nat} {K:AV -> List (Nat × au) -> Nat -> Prop}
   (hx:∀ K:AV -> List (Nat × au) -> Prop,K y hp' -> oG hp deep x fun y m=>yg hp m fun hp'=>K y hp') (h:dU E nm f (a ++ y :: b) hp' ct K):dU E nm f (a ++ x :: b) hp ct K:=by
 obtain ⟨N,h⟩:=h
 refine ⟨N,fun M0 w0 c M J w vs inv hn hr=>?_⟩
 have hlt:a.length < vs.size:=by rw [hn];simp
 have hxa:(a ++ x :: b)[a.length]? = some x:=by simp
 have hrx:=hr a.length x vs[a.length] hxa (by simp [hlt])
 have hpu:=sV (sl:=[]) (ct:=0) (hx (fun p q=>p = y /\ q = hp') ⟨rfl,rfl⟩) (K':=fun p s=>p = y /\ s = (⟨[],hp',0⟩:St)) (fun p q ⟨e1,e2⟩=>⟨e1,by rw [e2]⟩)
 obtain ⟨y',s',M',⟨e1,e2⟩,hsub,i1,pr,hc⟩:=inv.pure hrx hpu
 subst e1;subst e2
 obtain ⟨p,q⟩:=h M0 w0 c M' J w vs i1 (by simpa using hn) (fun i z v hz hv=>by
   by_cases hi:i = a.length
   · subst hi
     have:(a ++ y' :: b)[a.length]? = some y':=by simp
     rw [this] at hz;obtain rfl:=Option.some.inj hz
     have hv2:vs[a.length]? = some vs[a.length]:=by simp [hlt]
     rw [hv2] at hv;obtain rfl:=Option.some.inj hv
     exact .pure pr
   · refine (hr i z v ?_ hv).mono hsub (gW.refl J)
     rw [<- hz]
     rcases Nat.lt_or_ge i a.length with h1 | h1
     · rw [List.getElem?_append_left h1,List.getElem?_append_left h1]
     · rw [List.getElem?_append_right h1,List.getElem?_append_right h1]
       obtain ⟨k,hk⟩:∃ k,i - a.length = k + 1:=⟨i - a.length - 1,by omega⟩
       rw [hk];rfl)
 refine ⟨p,q.mono ?_⟩
 rintro e w' ⟨v,r,hp1,c',M2,J',x1,x2,x3,x4,x5,x6⟩
 exact ⟨v,r,hp1,c',M2,J',x1,x2,x3,x4,hsub.trans x5,x6⟩
theorem DL {E:Env} {nm:Nat} {f:FuncId} (a b:List AV) {hp:List (Nat × au)} {ct r v off len sz ty eG:Nat} {es:List (List AV)} {K:AV -> List (Nat × au) -> Nat -> Prop} (hk:get hp r = some ⟨sz,ty,v,eG,false,es⟩) (hl:off + len <= es.length)
   (h:dU E nm f (a ++ .lst sz ((es.drop off).take len) :: b) ((r,⟨sz,ty,v,max eG (min (off + len) es.length),false,es⟩) :: hp) ct K):dU E nm f (a ++ .own r v off len :: b) hp ct K:=by
 refine O8 a b (fun K hK=>?_) h
 have q1:(Nat.beq v v && !false) = true:=by simp
 simp only [oG,deep,hk,kM]
 refine iJ (sided ?_ (Side.of hl)) q1
 simp only [yg,hk,kM]
 exact hK
end Ev
theorem dM.mono {E:Env} {N:Nat} {f:FuncId} {args:List AV} {hp:List (Nat × au)} {R R':AV -> List (Nat × au) -> Prop} (hc:dM E N f args hp R) (h:∀ r hp1,R r hp1 -> R' r hp1):dM E N f args hp R':=by
 intro M0 w0 c M J w vs inv hn hr
 obtain ⟨a,b⟩:=hc M0 w0 c M J w vs inv hn hr
 refine ⟨a,b.mono ?_⟩
 rintro e w' ⟨v,r,hp1,c',M',J',x1,x2,x3⟩
 exact ⟨v,r,hp1,c',M',J',x1,h r hp1 x2,x3⟩
abbrev TF (B L S:Nat) (r:Nat):Nat:=if r = B then 7000 else if r = L then 7001 else if r = S then 7002 else r
abbrev aaS (B L S:Nat) (r:Nat):Nat:=if r = 7000 then B else if r = 7001 then L else if r = 7002 then S else r
theorem TG {B L S vb vl fl vs fs:Nat} {Ls:List (List Sp)} {Ns:List Int} {t:ByteArray} (h1:L ≠ B) (h2:S ≠ B) (h3:S ≠ L):Pn (TF B L S) (gQ B L S vb vl fl vs fs Ls Ns t) = gQ 7000 7001 7002 vb vl fl vs fs Ls Ns t:=by
 simp [Pn,lD,H8,TF,h1,h2,h3]
theorem Lj {B L S vb vl fl vs fs:Nat} {Ls:List (List Sp)} {Ns:List Int} {t:ByteArray} {q:Nat} (h:get (gQ B L S vb vl fl vs fs Ls Ns t) q ≠ none):q = B ∨ q = L ∨ q = S:=by
 rw [aj,aj,aj,get_nil] at h
 split at h
 · rename_i e;exact .inl e
 · split at h
   · rename_i e;exact .inr (.inl e)
   · split at h
     · rename_i e;exact .inr (.inr e)
     · exact absurd rfl h
section
variable {nm ct:Nat} {hp:List (Nat × au)} {K:AV -> List (Nat × au) -> Nat -> Prop} (B L S:Nat) (F:List (Nat × au)) {vb vl fl vs fs:Nat} {Ls:List (List Sp)} {Ns:List Int} {t:ByteArray}
theorem aaT {f:FuncId} {args args':List AV} {P:AV -> Nat -> Nat -> Nat -> List (List Sp) -> List Int -> Prop} (hne:L ≠ B /\ S ≠ B /\ S ≠ L)
   (hc:dM env 65536 f args' (gQ 7000 7001 7002 vb vl fl vs fs Ls Ns t) fun r h=>∃ pJ pq vs' Bg Ns',P r pJ pq vs' Bg Ns' /\ subs h (gQ 7000 7001 7002 vb pJ pq vs' fs Bg Ns' t)) (ha:lD (TF B L S) args = args')
   (hs:subs hp (gQ B L S vb vl fl vs fs Ls Ns t)) (hF:subs hp F) (hB:get F B = none /\ get F L = none /\ get F S = none)
   (hk:∀ r pJ pq vs' Bg Ns',P r pJ pq vs' Bg Ns' -> ∀ c',ct + 8 <= c' -> K (H8 (aaS B L S) r) (gQ B L S vb pJ pq vs' fs Bg Ns' t ++ F) c'):Ev.dU env nm f args hp ct K:=by
 have hc':=jA (R':=fun r h=>∃ pJ pq vs' Bg Ns',P r pJ pq vs' Bg Ns' /\ h = gQ 7000 7001 7002 vb pJ pq vs' fs Bg Ns' t) hc (fun r h ⟨pJ,pq,vs',Bg,Ns',h1,h2⟩=>⟨_,⟨pJ,pq,vs',Bg,Ns',h1,rfl⟩,h2⟩)
 have out:∀ {vl fl vs:Nat} {Ls:List (List Sp)} {Ns:List Int} (q:Nat),get (gQ B L S vb vl fl vs fs Ls Ns t) q ≠ none -> get F q = none:=by
   intro vl fl vs Ls Ns q h
   rcases Lj h with rfl | rfl | rfl
   · exact hB.1
   · exact hB.2.1
   · exact hB.2.2
 refine xZ (TF B L S) (aaS B L S) F hc' ha (TG hne.1 hne.2.1 hne.2.2) hs hF out ?_
 rintro r h1 ⟨pJ,pq,vs',Bg,Ns',hP,rfl⟩
 exact ⟨out,hk r pJ pq vs' Bg Ns' hP⟩
theorem aeM {w:List Sp} {e:Int} (hne:L ≠ B /\ S ≠ B /\ S ≠ L) (hw:w.length <= 100000000) (hb:bU w <= 1000000000) (hN:Ns.length = Ls.length + 1) (hL:Ls.length <= 1000000) (he:∀ h:Ns ≠ [],mJ w (Ns.getLast h) = e)
   (hs:subs hp (gQ B L S vb vl fl vs fs Ls Ns t)) (hF:subs hp F) (hB:get F B = none /\ get F L = none /\ get F S = none)
   (hk:∀ pJ vs' c',ct + 8 <= c' -> K (.v (.int .i64 e)) (gQ B L S vb pJ fl vs' fs (Ls ++ if e = 0 then [norm w] else []) (Ns ++ if e = 0 then [outW w] else []) t ++ F) c'):Ev.dU env nm 25 [.ptr B vb 0 0,.lst 3 (bM w)] hp ct K:=by
 have hc:=O4 vb vl fl vs fs Ls Ns t w hw hb hN hL
 have hne':Ns ≠ []:=by intro h;rw [h] at hN;simp at hN
 rw [he hne'] at hc
 refine aaT (P:=fun r pJ pq vs' Bg Ns'=>r = .v (.int .i64 e) /\ pq = fl /\ Bg = Ls ++ (if e = 0 then [norm w] else []) /\ Ns' = Ns ++ (if e = 0 then [outW w] else [])) B L S F hne (hc.mono ?_) (by simp [lD,H8]) hs hF hB ?_
 · rintro r h ⟨rfl,pJ,vs',rfl⟩
   exact ⟨pJ,fl,vs',_,_,⟨rfl,rfl,rfl,rfl⟩,⟨Ev.ah rfl rfl,Ev.ah rfl rfl,Ev.ah rfl rfl,trivial⟩⟩
 · rintro r pJ pq vs' Bg Ns' ⟨rfl,rfl,rfl,rfl⟩ c' hc'
   exact hk pJ vs' c' hc'
theorem aaU {r:Int} {X:AV} (hX:Tz t Ls r = X) (hp0:∀ ρ,H8 ρ X = X) (hne:L ≠ B /\ S ≠ B /\ S ≠ L) (hx:∀ x ∈ Ls,x.length <= 100000000) (hb:t.size + lH Ls <= 1000000000) (hL:Ls.length <= 1000000)
   (hs:subs hp (gQ B L S vb vl fl vs fs Ls Ns t)) (hF:subs hp F) (hB:get F B = none /\ get F L = none /\ get F S = none)
   (hk:∀ pq c',ct + 8 <= c' -> K X (gQ B L S vb vl pq vs fs Ls Ns t ++ F) c'):Ev.dU env nm 30 [.ptr B vb 0 0,.v (.int .i64 r)] hp ct K:=by
 refine aaT (P:=fun x pJ pq vs' Bg Ns'=>x = X /\ pJ = vl /\ vs' = vs /\ Bg = Ls /\ Ns' = Ns) B L S F hne ((TA vb vl fl vs fs Ls Ns t r hx hb hL).mono ?_) (by simp [lD,H8]) hs hF hB ?_
 · rintro x h ⟨rfl,pq,h'⟩
   exact ⟨vl,pq,vs,Ls,Ns,⟨hX,rfl,rfl,rfl,rfl⟩,h'⟩
 · rintro r pJ pq vs' Bg Ns' ⟨rfl,rfl,rfl,rfl,rfl⟩ c' hc'
   rw [hp0];exact hk pq c' hc'
theorem aaV {r s:Int} {X:AV} (hX:O5 Ls Ns r s = X) (hp0:∀ ρ,H8 ρ X = X) (hne:L ≠ B /\ S ≠ B /\ S ≠ L) (hN:Ns.length = Ls.length + 1) (hn:∀ n ∈ Ns,0 <= n /\ n <= 1048576) (hl:pO Ls <= 9999999) (hb:rZ Ls <= 100000000) (hL:Ls.length <= 1000000)
   (hs:subs hp (gQ B L S vb vl fl vs fs Ls Ns t)) (hF:subs hp F) (hB:get F B = none /\ get F L = none /\ get F S = none)
   (hk:∀ pq c',ct + 8 <= c' -> K X (gQ B L S vb vl pq vs fs Ls Ns t ++ F) c'):Ev.dU env nm 38 [.ptr B vb 0 0,.v (.int .i64 r),.v (.int .i64 s)] hp ct K:=by
 refine aaT (P:=fun x pJ pq vs' Bg Ns'=>x = X /\ pJ = vl /\ vs' = vs /\ Bg = Ls /\ Ns' = Ns) B L S F hne ((TB vb vl fl vs fs Ls Ns t r s hN hn hl hb hL).mono ?_) (by simp [lD,H8]) hs hF hB ?_
 · rintro x h ⟨rfl,pq,h'⟩
   exact ⟨vl,pq,vs,Ls,Ns,⟨hX,rfl,rfl,rfl,rfl⟩,h'⟩
 · rintro r pJ pq vs' Bg Ns' ⟨rfl,rfl,rfl,rfl,rfl⟩ c' hc'
   rw [hp0];exact hk pq c' hc'
end
end Go.Proofs.YtadlnaljicikfaaDoor.aB
namespace Go.Proofs.YtadlnaljicikfaaDoor.aB
open Go
set_option maxRecDepth 100000
attribute [local irreducible] Ev.gV Ev.iy Ev.bC Ev.runK Ev.bD Ev.fD Ev.Side Ev.Wp Ev.Again Ev.To Ev.Fin
open Go.Lib Go.RowKit
theorem aaW:∀ c,Tryd.f22.body = some c -> comp c = (.seq (.reg 0 [I.n 0 0 (I.sb false)]) (.seq (.reg 1 [I.n 0 8 (.call { callee:=.value (.func 24),args:=#[.const (Value.string { data:=#[97] })],argTypes:=#[9] }),I.n 1 7 (I.mv 8),I.n 2 9 (I.ex 7 0),I.n 3 10 (I.ex 7 1),I.n 4 1 (I.sa 9),I.n 5 2 (I.sa 10)]) (.seq (.seq (.reg 2 [I.n 0 11 (I.mv 1),I.n 1 12 (.binOp .eql 29 (.tmp 11) (.const (Value.pointer none)) 29),I.n 2 13 (I.mv 12),I.w 3 14 (I.mv 2) 13 false,I.w 4 15 (I.bc .neq 30 14 0 30) 13 false,I.n 5 16 (I.pb 13 true 15)]) (.cond (.tmp 16) (.seq (.reg 3 [I.n 0 0 (I.sb false)]) .ret) .skip)) (.seq (.reg 4 [I.n 0 17 (I.mv 1),I.n 1 18 (.build 35 #[(0,.const (Value.int .i64 2)),(2,.const (Value.string { data:=#[98] }))]),I.n 2 19 (.build 35 #[(0,.const (Value.int .i64 1)),(1,.const (Value.int .i64 1))]),I.n 3 20 (.buildSlice 23 2 #[(0,.tmp 18),(1,.tmp 19)]),I.n 4 21 (I.c2 25 17 20 29 23),I.n 5 3 (I.sa 21)]) (.seq (.reg 5 [I.n 0 22 (I.mv 1),I.n 1 23 (.build 35 #[(0,.const (Value.int .i64 3)),(1,.const (Value.int .i64 1))]),I.n 2 24 (.build 35 #[(0,.const (Value.int .i64 1)),(1,.const (Value.int .i64 1))]),I.n 3 25 (.buildSlice 23 2 #[(0,.tmp 23),(1,.tmp 24)]),I.n 4 26 (I.c2 25 22 25 29 23),I.n 5 4 (I.sa 26)]) (.seq (.reg 6 [I.n 0 28 (I.mv 1),I.n 1 29 (.call { callee:=.value (.func 38),args:=#[.tmp 28,.const (Value.int .i64 0),.const (Value.int .i64 2)],argTypes:=#[29,3,3] }),I.n 2 27 (I.mv 29),I.n 3 30 (I.ex 27 0),I.n 4 31 (I.ex 27 1),I.n 5 5 (I.sa 30),I.n 6 6 (I.sa 31)]) (.seq (.reg 7 [I.n 0 32 (I.mv 3),I.n 1 33 (I.bc .eql 30 32 0 30),I.n 2 34 (I.mv 33),I.w 3 35 (I.mv 4) 34 true,I.w 4 36 (I.bc .eql 30 35 0 30) 34 true,I.n 5 37 (I.pc 34 36 false),I.n 6 38 (I.mv 37),I.w 7 39 (I.mv 6) 38 true,I.w 8 40 (I.bc .eql 30 39 0 30) 38 true,I.n 9 41 (I.pc 38 40 false),I.n 10 42 (I.mv 41),I.w 11 43 (I.mv 5) 42 true,I.w 12 44 (I.ln 43 23) 42 true,I.w 13 45 (I.bc .eql 3 44 1 3) 42 true,I.n 14 46 (I.pc 42 45 false),I.n 15 47 (I.mv 46),I.w 16 48 (I.mv 5) 47 true,I.w 17 49 (I.ic 23 48 0) 47 true,I.w 18 50 (I.ld 35 49) 47 true,I.w 19 51 (.build 35 #[(0,.const (Value.int .i64 1)),(1,.const (Value.int .i64 1))]) 47 true,I.w 20 52 (I.bo .eql 35 50 51 35) 47 true,I.n 21 53 (I.pc 47 52 false),I.n 22 54 (I.mv 53),I.w 23 55 (I.mv 1) 54 true,I.w 24 56 (I.nc 55) 54 true,I.w 25 57 (I.fa 44 56 0) 54 true,I.w 26 58 (I.c1 29 57 42) 54 true,I.w 27 59 (I.bc .eql 3 58 2 3) 54 true,I.n 28 60 (I.pc 54 59 false),I.n 29 0 (I.sa 60)]) .ret))))))):=by
 intro c h
 have:c = Tryd.f22.body.get rfl:=by rw [<- Option.some_inj,<- h];rfl
 rw [this];rfl
namespace Ev
theorem TJ {E:Env} {nt:Nat} (id q r sz ty j0:Nat) {l:List Ins} {K:Exit -> St -> Prop} {sl:List (Nat × AV)} {hp:List (Nat × au)} {ct v0 S9 n0:Nat} {cs:List AV} (hg:get hp q = some ⟨n0,S9,v0,0,true,[cs]⟩) (hn:cs[j0]? = some nilA) (hr:get hp r = none)
 (h:Wp E nt (.reg id l) K ⟨sl,(q,⟨n0,S9,v0,0,true,[cs.set j0 (.own r ct 0 0)]⟩) :: (r,⟨sz,ty,ct,0,false,[]⟩) :: hp,ct + 8⟩):Wp E nt (.reg id l) K ⟨sl,hp,ct⟩:=Hw q r sz ty j0 hg hn hr h
end Ev
theorem JV {nm ct:Nat} {hp:List (Nat × au)} {K:AV -> List (Nat × au) -> Nat -> Prop} (B L S:Nat) (F:List (Nat × au)) {vb vl fl vs fs:Nat} {Ls:List (List Sp)} {Ns:List Int} {t:ByteArray} {w:List Sp} (hne:L ≠ B /\ S ≠ B /\ S ≠ L) (hw:w.length <= 100000000) (hb:bU w <= 1000000000) (hN:Ns.length = Ls.length + 1) (hL:Ls.length <= 1000000) (he:∀ h:Ns ≠ [],mJ w (Ns.getLast h) = 0)
   (hs:subs hp (gQ B L S vb vl fl vs fs Ls Ns t)) (hF:subs hp F) (hB:get F B = none /\ get F L = none /\ get F S = none)
   (hk:∀ pJ vs' c',ct + 8 <= c' -> K (.v (.int .i64 0)) (gQ B L S vb pJ fl vs' fs (Ls ++ [norm w]) (Ns ++ [outW w]) t ++ F) c'):Ev.dU env nm 25 [.ptr B vb 0 0,.lst 3 (bM w)] hp ct K :=
 aeM B L S F hne hw hb hN hL he hs hF hB (fun pJ vs' c' h=>by rw [if_pos rfl,if_pos rfl];exact hk pJ vs' c' h)
def XD:List Sp:=[⟨2,0,⟨#[98]⟩⟩,⟨1,1,⟨#[]⟩⟩]
def sh2:List Sp:=[⟨3,1,⟨#[]⟩⟩,⟨1,1,⟨#[]⟩⟩]
theorem TL:norm XD = XD:=by decide +kernel
theorem TM:norm sh2 = sh2:=by decide +kernel
theorem aaY:O5 [XD,sh2] [1,2,1] 0 2 = .dD [.lst 3 (bM [⟨1,1,⟨#[]⟩⟩]),.v (.int .i64 0)]:=by rfl
theorem EO:aH env 22 [] (fun r hs=>r = .v (.bool true) /\ hs = []):=by
 have hNew:=Ld ⟨#[97]⟩ (by decide) (by decide +kernel)
 have hc:O1 ⟨#[97]⟩ = 1:=by decide +kernel
 rw [hc] at hNew
 have e1:outW XD = 2:=by decide +kernel
 have e2:outW sh2 = 1:=by decide +kernel
 have g1:mJ XD 1 = 0:=by decide +kernel
 have g2:mJ sh2 2 = 0:=by decide +kernel
 refine Ev.fn [0,1,2,3,4,5,6,16] 0 [.tmp 0] Tryd.func22 (aaW _ rfl) ?_
 repeat' (first | (with_reducible refine Ev.TJ 2 512 9100 1 23 0 rfl rfl rfl ?_) | refine' Ev.zP | refine' Ev.zS | ((with_reducible refine Ev.kr (hs:=[25,38,29]) (fun Q hQ=>?_));refine' Ev.zR) | ((with_reducible refine Ev.jJ 29 ?_);refine Ev.il 29 [0,2] [.tmp 2] Tryd.func29 (fK _ rfl) (fun aN=>?_)) | ((refine Ev.zq hNew rfl (by simp) ⟨rfl,rfl,trivial⟩ ?_);conv=>whnf) | ((((with_reducible refine Ev.gY ?_);refine Ev.DL [_] [] rfl (by decide) ?_;refine JV 512 9100 513 [] (Ls:=[]) (Ns:=[1]) (t:=⟨#[97]⟩) (w:=XD) (by decide) (by decide) (by decide +kernel) rfl (by decide) (fun _=>g1) ⟨Ev.ah rfl rfl,Ev.ah rfl rfl,Ev.ah rfl rfl,trivial⟩ trivial ⟨rfl,rfl,rfl⟩ (fun pJ vs' c' _=>?_);rw [TL,e1];conv=>whnf));conv=>whnf) | ((((with_reducible refine Ev.gY ?_);refine Ev.DL [_] [] rfl (by decide) ?_;refine JV 512 9100 513 [] (Ls:=[XD]) (Ns:=[1,2]) (t:=⟨#[97]⟩) (w:=sh2) (by decide) (by decide) (by decide +kernel) rfl (by decide) (fun _=>g2) ⟨Ev.ah rfl rfl,Ev.ah rfl rfl,Ev.ah rfl rfl,trivial⟩ trivial ⟨rfl,rfl,rfl⟩ (fun pJ vs' c' _=>?_);rw [TM,e2];conv=>whnf));conv=>whnf) | ((((with_reducible refine Ev.gY ?_);refine aaV 512 9100 513 [] (Ls:=[XD,sh2]) (Ns:=[1,2,1]) (t:=⟨#[97]⟩) aaY (fun _=>rfl) (by decide) rfl (by decide) (by decide) (by decide +kernel) (by decide) ⟨Ev.ah rfl rfl,Ev.ah rfl rfl,Ev.ah rfl rfl,trivial⟩ trivial ⟨rfl,rfl,rfl⟩ (fun pq c' _=>?_);conv=>whnf));conv=>whnf) | refine' Ev.zT | fail)
 exact ⟨rfl,rfl⟩
end Go.Proofs.YtadlnaljicikfaaDoor.aB
namespace Go.Proofs.YtadlnaljicikfaaDoor.aB
open Go Go.Lib
theorem aaZ (l:List (List Sp)) (n:Int):nY n l ≠ []:=by intro h;have:=mD l n;rw [h] at this;simp at this
theorem Ia:∀ (l:List (List Sp)) (n:Int) (h:nY n l ≠ []),(nY n l).getLast h = iT n l
 | [],n,h=>rfl
 | x :: l,n,h=>by
   show (n :: nY (outW x) l).getLast _ = _
   rw [List.getLast_cons (aaZ l _),Ia l];rfl
theorem Ll:∀ (l:List (List Sp)) (n:Int) (x:List Sp),nY n (l ++ [x]) = nY n l ++ [outW x]
 | [],n,x=>rfl
 | y :: l,n,x=>by show n :: nY (outW y) (l ++ [x]) = _;rw [Ll l];rfl
theorem EP:∀ (l:List (List Sp)) (n:Int) (i:Nat),i <= l.length -> (nY n l).getD i 0 = iT n (l.take i)
 | l,n,0,_=>by cases l <;> rfl
 | [],n,i + 1,h=>by simp at h
 | x :: l,n,i + 1,h=>by
   show (nY (outW x) l).getD i 0 = iT (outW x) (l.take i)
   exact EP l (outW x) i (by simpa using h)
theorem Ib:∀ (l:List (List Sp)) (n:Int) (x:List Sp),iT n (l ++ [x]) = outW x
 | [],n,x=>rfl
 | y :: l,n,x=>Ib l (outW y) x
theorem yP {n:Int} {x:List Sp} (h:jd n x = 0):aF x = 0 /\ jK x = n /\ outW x <= 1048576 /\ Bd x = true /\ mJ x n = 0:=by
 unfold jd at h
 by_cases m0:aF x = 0
 · rw [if_neg (by simpa using m0)] at h
   by_cases m1:jK x = n
   · rw [if_neg (by simpa using m1)] at h
     by_cases m2:1048576 < outW x
     · rw [if_pos m2] at h;cases h
     · rw [if_neg m2] at h
       by_cases m3:Bd x = true
       · exact ⟨m0,m1,by omega,m3,by unfold mJ;rw [if_neg (by simpa using m0),if_neg (by simpa using m1),if_neg m2]⟩
       · rw [if_neg m3] at h;cases h
   · rw [if_pos m1] at h;cases h
 · rw [if_pos m0] at h;exact absurd h m0
theorem O9 {x:List Sp} (hn:Bd x = true):norm x = x:=RX hn
theorem xw {n:Int} {l:List (List Sp)} (h:dn n l = 0) {i:Nat} (hi:i < l.length):jd (iT n (l.take i)) l[i] = 0:=by
 have:=(o8 h i).2
 rw [List.drop_eq_getElem_cons hi] at this
 simp only [dn] at this
 by_cases h0:jd (iT n (l.take i)) l[i] = 0
 · exact h0
 · rw [if_neg h0] at this;exact absurd this h0
theorem Pe {n:Int} {l:List (List Sp)} (h:dn n l = 0) {x:List Sp} (hx:x ∈ l):∃ m,jd m x = 0:=by
 obtain ⟨i,hi,rfl⟩:=List.getElem_of_mem hx
 exact ⟨_,xw h hi⟩
theorem Xg {x:List Sp} (h:aF x = 0) (hl:x.length <= 1000000000) (ho:aS bZ x <= 9000000000000000000):0 <= outW x /\ outW x = aS bZ x:=by
 have o:=(sS.of h hl).1
 have e1:=iF x
 have e2:0 <= aS bZ x:=by have:=dB o.all;omega
 rw [aY (by omega)] at e1
 omega
theorem TN {x:List Sp} (h:aF x = 0) (hl:x.length <= 10000000) (hb:bU x <= 100000000):0 <= outW x /\ outW x = aS bZ x:=by
 have o:=(sS.of h (by omega)).1
 have f:=lC x o.all
 have b:=o.bnd
 exact Xg h (by omega) (by omega)
end Go.Proofs.YtadlnaljicikfaaDoor.aB
namespace Go.Proofs.YtadlnaljicikfaaDoor.aB
open Go
set_option maxRecDepth 100000
attribute [local irreducible] Ev.gV Ev.iy Ev.bC Ev.runK Ev.bD Ev.fD Ev.Side Ev.Wp Ev.Again Ev.To Ev.Fin
open Go.Lib Go.RowKit
theorem TI.last {a:List Sp} {L:List (List Sp)} (ho:∀ s ∈ L,aF s = 0 -> aS bZ s <= 1048576):∀ (k i:Nat) (x:List Sp),k + i = L.length -> TI a L i x -> ∃ y,TI a L L.length y
 | 0,i,x,hk,h=>by
                        obtain rfl:i = L.length:=by omega
                        exact ⟨x,h⟩
 | k + 1,i,x,hk,h=>TI.last ho k (i + 1) _ (by omega) (h.next (by omega) ho).2.2
theorem Lm {k:Nat}:∀ (l:List (List Sp)),(∀ x ∈ l,x.length <= k) -> pO l <= k * l.length
 | [],_=>Nat.zero_le _
 | x :: l,h=>by
   rw [(gq x l).1,List.length_cons,Nat.mul_succ]
   have:=Lm l (fun y hy=>h y (by simp [hy]))
   have:=h x (by simp)
   omega
structure FH (c:Lg) (n0:Int):Prop where
 seg:dn n0 c.aA = 0
 val:validD c.base.data.toList = true
 cnt:aI c.base.data.toList = n0
 n0b:0 <= n0 /\ n0 <= 1048576
 nl:c.aA.length <= 20
 each:∀ x ∈ c.aA,x.length <= 13 /\ bU x <= 312
 bs:c.base.size <= 4000
 tot:lH c.aA <= 10000
theorem TP (t:ByteArray) (l:List (List Sp)):∀ x ∈ (kZ t l).aA,x.length <= 13 /\ bU x <= 312:=by
 intro x hx
 refine' aeb
 have hcc:=wR (t.extract 0 (min t.size 20))
 have hcw:=Ez l (n:=aI (jm (t.extract 0 (min t.size 20))).data.toList) (by omega)
 have hx:x ∈ (OL l (aI (jm (t.extract 0 (min t.size 20))).data.toList)).map norm:=hx
 rw [List.mem_map] at hx
 obtain ⟨z,hz,rfl⟩:=hx
 obtain ⟨y,m,rfl,m1,m2⟩:=yL hcw.1 z hz
 exact (GN y (by omega)).2
theorem TQ (t:ByteArray) (l:List (List Sp)):∃ n0,FH (kZ t l) n0:=by
 obtain ⟨g1,g2,g3,g4,g5⟩:=H6 t l
 obtain ⟨h1,h2,h3,h4,h5⟩:=Td g1
 have hc:0 <= aI (kZ t l).base.data.toList:=by
   unfold EU at g1
   exact Decidable.byContradiction fun h=>by rw [if_pos (by omega)] at g1;cases g1
 exact ⟨_,h5,h1,rfl,⟨hc,h2⟩,g5,TP t l,g3,g4⟩
theorem FH.lens {c:Lg} {n0:Int} (h:FH c n0):pO c.aA <= 260:=by
 have:=Lm (k:=13) c.aA (fun x hx=>(h.each x hx).1)
 have:=h.nl
 omega
theorem FH.ends {c:Lg} {n0:Int} (h:FH c n0) (i:Nat) (hi:i <= c.aA.length):0 <= iT n0 (c.aA.take i) /\ iT n0 (c.aA.take i) <= 1048576:=by
 cases i with
 | zero=>rw [List.take_zero];exact h.n0b
 | succ i =>
   have hlt:i < c.aA.length:=hi
   rw [List.take_succ_eq_append_getElem hlt,Ib]
   obtain ⟨a,b,c',d,e⟩:=yP (xw h.seg hlt)
   obtain ⟨e1,e2⟩:=h.each _ (List.getElem_mem hlt)
   exact ⟨(TN a (by omega) (by omega)).1,c'⟩
theorem FH.out {c:Lg} {n0:Int} (h:FH c n0):∀ x ∈ c.aA,aF x = 0 -> aS bZ x <= 1048576:=fun x hx _=>by
 obtain ⟨m,hm⟩:=Pe h.seg hx
 obtain ⟨a,b,c',d,e⟩:=yP hm
 obtain ⟨e1,e2⟩:=h.each x hx
 have:=(TN a (by omega) (by omega)).2
 omega
theorem FH.szs {c:Lg} {n0:Int} (h:FH c n0):∀ n ∈ nY n0 c.aA,0 <= n /\ n <= 1048576:=fun n hn=>by
 obtain ⟨i,hi,rfl⟩:=List.getElem_of_mem hn
 rw [mD] at hi
 have e:=EP c.aA n0 i (by omega)
 rw [List.getD_eq_getElem?_getD,List.getElem?_eq_getElem (by rw [mD];exact hi)] at e
 have e:(nY n0 c.aA)[i]'(by rw [mD];exact hi) = _:=e
 rw [e]
 exact h.ends i (by omega)
end Go.Proofs.YtadlnaljicikfaaDoor.aB
namespace Go.Proofs.YtadlnaljicikfaaDoor.aB
open Go Go.Lib
theorem ER {l:List Sp} {t:ByteArray} (h:pR l t = 0) (hl:l.length <= 1000000000):eX l (pts t.data.toList) = jl (gK l) (pts t.data.toList):=by
 obtain ⟨h1,h2,h3⟩:=nN h
 obtain ⟨o,e⟩:=sS.of h1 hl
 exact Au l _ o.all (by omega)
theorem Pg {b x:List Sp} {t:ByteArray} (hb:pR b t = 0) (hc:lI b x = 0) (lb:b.length <= 10000000) (lx:x.length <= 10000000) (tb:bU b <= 100000000) (tx:bU x <= 100000000) (ht:t.size <= 100000000) :
   pR (jG b x) t = 0 /\ pR x (vJ b t) = 0 /\ vJ (jG b x) t = vJ x (vJ b t):=by
 obtain ⟨h1,h2,h3⟩:=nN hb
 obtain ⟨c1,c2,c3⟩:=EN hc
 obtain ⟨m1,m2,m3⟩:=H7 hc lb lx tb tx
 obtain ⟨s1,s2⟩:=o9 hc lb lx tb
 obtain ⟨f1,f2,f3,f4⟩:=Dk hb (by omega) (by omega)
 obtain ⟨ob,eb⟩:=sS.of c1 (by omega)
 obtain ⟨ox,ex⟩:=sS.of c2 (by omega)
 have g1:pR (jG b x) t = 0:=ED m1 h2 (by rw [m2];exact h3)
 have g2:pR x (vJ b t) = 0:=ED c2 f1 (by rw [f3,c3])
 refine ⟨g1,g2,?_⟩
 have e1:vJ (jG b x) t = txt (eX (jG b x) (pts t.data.toList)):=if_pos g1
 have e2:vJ x (vJ b t) = txt (eX x (pts (vJ b t).data.toList)):=if_pos g2
 rw [e1,e2,ER g1 (by omega),ER g2 (by omega),f2,ER hb (by omega)]
 have so:=iF b
 have fo:=lC b ob.all
 have bo:=ob.bnd
 rw [aY (by omega)] at so
 have hm:=(vP ob ox (by omega)).2.1
 have zb:=dB ob.all
 have zx:=dB ox.all
 rw [hm,nR _ _ _ (by omega) (by omega)]
theorem AP:∀ (L:List (List Sp)) (b:List Sp) (t:ByteArray),pR b t = 0 -> dn (outW b) L = 0 -> b.length + pO L <= 1000000 -> bU b + rZ L <= 1000000 -> t.size <= 1000000 ->
   (fJ b L).2 = 0 /\ pR (fJ b L).1 t = 0 /\ kY L (vJ b t) = (0,vJ (fJ b L).1 t) /\ outW (fJ b L).1 = iT (outW b) L /\ (fJ b L).1.length <= b.length + pO L /\ bU (fJ b L).1 <= bU b + rZ L
 | [],b,t,hb,hs,hl,ht,hz=>⟨rfl,hb,rfl,rfl,Nat.le_add_right ..,Nat.le_add_right ..⟩
 | x :: L,b,t,hb,hs,hl,ht,hz=>by
   obtain ⟨l1,l2⟩:=gq x L
   rw [l1] at hl ⊢
   rw [l2] at ht ⊢
   simp only [dn] at hs
   by_cases h0:jd (outW b) x = 0
   · rw [if_pos h0] at hs
     obtain ⟨s0,s1,s2,s3,s4⟩:=yP h0
     have m1:=(nN hb).1
     have hc:lI b x = 0:=by unfold lI;rw [if_neg (by simpa using m1),if_neg (by simpa using s0),if_neg (by simpa using s1.symm)]
     obtain ⟨g1,g2,g3⟩:=Pg hb hc (by omega) (by omega) (by omega) (by omega) (by omega)
     obtain ⟨c1,c2,c3⟩:=H7 hc (by omega) (by omega) (by omega) (by omega)
     obtain ⟨d1,d2⟩:=o9 hc (by omega) (by omega) (by omega)
     have hf:fJ b (x :: L) = fJ (jG b x) L:=by simp only [fJ];rw [if_pos hc]
     obtain ⟨i1,i2,i3,i4,i5,i6⟩:=AP L (jG b x) t g1 (by rw [c3];exact hs) (by omega) (by omega) hz
     rw [hf]
     refine ⟨i1,i2,?_,by rw [i4,c3];rfl,by omega,by omega⟩
     simp only [kY]
     rw [if_pos g2,<- g3];exact i3
   · rw [if_neg h0] at hs;exact absurd hs h0
theorem Ic {t:ByteArray} {m:Int} (hv:validD t.data.toList = true) (hc:aI t.data.toList = m) (hm:0 <= m /\ m <= 1048576):pR (eu m) t = 0 /\ vJ (eu m) t = t:=by
 obtain ⟨k1,k2,k3⟩:=DC hm
 have hp:=cu hv
 have h0:pR (eu m) t = 0:=ED k1 hv (by rw [k3];omega)
 refine ⟨h0,?_⟩
 have e1:vJ (eu m) t = txt (eX (eu m) (pts t.data.toList)):=if_pos h0
 rw [e1]
 unfold eu
 by_cases hz:m = 0
 · have:pts t.data.toList = []:=List.eq_nil_of_length_eq_zero (by omega)
   rw [if_pos hz]
   have e:=rJ hv
   rw [this] at e
   exact e
 · rw [if_neg hz]
   show txt ((pts t.data.toList).take m.toNat ++ []) = t
   rw [List.append_nil,List.take_of_length_le (by omega),rJ hv]
end Go.Proofs.YtadlnaljicikfaaDoor.aB
