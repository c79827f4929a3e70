/- A part of the proof: a calculus over values, and contracts of functions. No condition. -/
import Derived.Test.YtadlnaljicikfaaDoorZN8
set_option linter.unusedVariables false
set_option linter.unusedSimpArgs false
namespace Go.Proofs.YtadlnaljicikfaaDoor.aI
open Go Go.Lib
theorem Fg (l:List Sp) (hl:l.length <= 100000000) (hb:bT l <= 1000000000):aO env 35 [.lst 3 (aT l)] (fun r hs=>∃ E:List Sp,r = .own 0 0 0 (norm l).length /\ hs = [⟨3,35,0,0,false,aT E⟩] /\ E.take (norm l).length = norm l /\ E.length = l.length):=by
 have hsl:=aV l
 have hmx:2000000003 <= maxLen:=by decide
 refine Ev.fnO [0,2,3,4,5,6,15,16,17,18,28,31] 0 [.tmp 2] Tryd.func35 (SQ _ rfl) ?_
 refine' aaw
 · refine' ae2
   · refine' ag9
   rintro k s1 ⟨i,c,rfl,hk,he⟩
   refine' aae
   · rename_i h;exact absurd h (by omega)
   · refine' adb
     · refine' adr
     rintro k s1 ⟨j,c,E,rfl,hk,hE,hj,hE1,hE2⟩
     refine' adu
     · refine' acj
     · refine' abm
       · refine' afw
       · refine' aha
     · refine' aah
   · refine Ev.zA (k - 1) ⟨i + 1,c,rfl,?_⟩
     refine ⟨by omega,fun j hj hji=>?_⟩
     by_cases e:j = i
     · subst e;assumption
     · exact he j hj (by omega)
   · refine' aes
   · rename_i h;exact absurd rfl h
 · rintro s1 ⟨c,v,E,rfl,hF,hF1,hF2⟩
   refine' ace
   · refine' agh
   rintro k s1 ⟨i,last,c,E,rfl,hk,hI⟩
   refine' aby
   · refine' afh
   · refine' aa9
   · refine' ag4
   · refine' abv
   · refine Ev.Side.of ?_;rw [hw];show last + 1 < E.length;omega
   · have hc:=hI
     rw [show i = (full l).length by omega] at hc
     have he:=hc.end
     have hn:(norm l).length = min (last + 1) (full l).length:=by rw [<- he,List.length_take];omega
     refine Ev.IY [(528,v)] (by simp) (fun F hF=>?_)
     refine' ag7
     have e1:(min (IntKind.i64.wrap ((last:Int) + 1)) ((full l).length:Int)).toNat - 0 = (norm l).length:=by rw [hn,hw];omega
     rw [e1]
     exact ⟨E,rfl,rfl,by rw [hn];exact he,hE⟩
 · refine Ev.Side.of ⟨by omega,?_,?_,gQ l⟩ <;> simp
end Go.Proofs.YtadlnaljicikfaaDoor.aI
namespace Go.Proofs.YtadlnaljicikfaaDoor.aI
open Go
set_option maxRecDepth 100000
attribute [local irreducible] Ev.iH Ev.iR Ev.bY Ev.runK Ev.cu Ev.gK Ev.Side Ev.Wp Ev.Again Ev.To Ev.Fin
open Go.Lib Go.RowKit
def Fh:Ev.Pl:=(.one 0 false (.one 7 false (.two 1 (.one 2 false (.one 3 false (.one 4 false (.one 5 false (.one 6 false (.one 8 false (.one 9 false (.one 10 false (.one 11 false (.one 12 true (.one 13 false .fin))))))))))) 8 (.one 9 false (.one 10 false (.one 11 false (.one 1 false (.one 2 false (.one 3 false (.one 4 false (.one 5 false (.one 6 false (.one 12 true (.one 13 false .fin))))))))))))))
def Lu:Ev.Pl:=(.one 0 false (.one 1 false (.one 5 false (.one 8 false (.one 12 false (.two 2 (.one 3 false (.one 4 false (.one 6 true (.one 7 false (.one 14 false (.two 9 (.one 10 false (.two 11 (.one 13 true (.one 15 false (.one 16 false (.one 17 false (.one 18 false .fin))))) 15 (.one 11 false (.one 13 true (.one 16 false (.one 17 false (.one 18 false .fin))))))) 15 (.one 9 false (.one 10 false (.one 11 false (.one 13 true (.one 16 false (.one 17 false (.one 18 false .fin))))))))))))) 9 (.one 10 false (.two 2 (.one 3 false (.one 4 false (.one 6 true (.one 7 false (.one 14 false (.two 11 (.one 13 true (.one 15 false (.one 16 false (.one 17 false (.one 18 false .fin))))) 15 (.one 11 false (.one 13 true (.one 16 false (.one 17 false (.one 18 false .fin))))))))))) 11 (.one 13 true (.one 2 false (.one 3 false (.one 4 false (.one 6 true (.one 7 false (.one 14 false (.one 15 false (.one 16 false (.one 17 false (.one 18 false .fin)))))))))))))))))))
theorem Xq:∀ c,Tryd.f154.body = some c -> comp c = (.seq (.reg 0 [I.n 0 2 (I.si 0)]) (.seq (.seq (.reg 1 [I.n 0 3 (I.mv 0),I.n 1 4 (I.nc 3),I.n 2 5 (I.fa 182 4 0),I.n 3 6 (I.ld 23 5),I.n 4 7 (I.ln 6 23),I.n 5 8 (I.bc .eql 3 7 0 3)]) (.cond (.tmp 8) (.seq (.reg 2 [I.n 0 2 (I.si 0)]) .ret) .skip)) (.seq (.reg 3 [I.n 0 9 (I.mv 0),I.n 1 10 (I.nc 9),I.n 2 11 (I.fa 182 10 0),I.n 3 12 (I.ld 23 11),I.n 4 13 (I.ic 23 12 0),I.n 5 14 (I.fa 35 13 0),I.n 6 15 (I.ld 3 14),I.n 7 2 (I.sa 15)]) .ret))):=by
 intro c h
 have:c = Tryd.f154.body.get rfl:=by rw [<- Option.some_inj,<- h];rfl
 rw [this];rfl
theorem Fj:∀ c,Tryd.f156.body = some c -> comp c = (.seq (.reg 0 [I.n 0 2 (I.si 0)]) (.seq (.draw 1 [I.n 0 3 (I.mv 0),I.n 1 4 (I.nc 3),I.n 2 5 (I.fa 182 4 0),I.n 3 6 (I.ld 23 5),I.n 4 7 (I.ic 23 6 0),I.n 5 8 (I.fa 35 7 1),I.n 6 9 (I.ld 3 8),I.n 7 10 (I.mv 0),I.n 8 11 (I.nc 10),I.n 9 12 (I.fa 182 11 1),I.n 10 13 (I.ld 115 12),I.n 11 14 (I.ln 13 115),I.n 12 15 (I.bo .add 3 9 14 3),I.n 13 2 (I.sa 15)] [[],[0],[1],[2],[3],[4],[5],[],[7],[8],[9],[10],[6,11],[12,0,1,2,3,4,5,6,7,8,9,10,11,12]]) .ret)):=by
 intro c h
 have:c = Tryd.f156.body.get rfl:=by rw [<- Option.some_inj,<- h];rfl
 rw [this];rfl
theorem Xr:∀ c,Tryd.f155.body = some c -> comp c = (.seq (.reg 0 [I.n 0 4 (.alloc 35)]) (.seq (.reg 1 [I.n 0 6 (I.mv 0),I.n 1 7 (I.nc 6),I.n 2 8 (I.fa 182 7 0),I.n 3 9 (I.ld 23 8),I.n 4 10 (I.ic 23 9 0),I.n 5 11 (I.fa 35 10 0),I.n 6 12 (I.ld 3 11),I.n 7 13 (.build 35 #[(0,.tmp 12)]),I.n 8 5 (.alloc 35),I.u 9 (I.st 35 5 13)]) (.seq (.seq (.reg 2 [I.n 0 14 (I.fa 35 5 0),I.n 1 15 (I.ld 3 14),I.n 2 16 (I.bc .eql 3 15 2 3)]) (.cond (.tmp 16) (.draw 3 [I.n 0 17 (I.mv 0),I.n 1 18 (I.mv 0),I.n 2 19 (I.nc 18),I.n 3 20 (I.fa 182 19 1),I.n 4 21 (I.ld 115 20),I.n 5 22 (I.mv 1),I.n 6 23 (.slice 115 (.tmp 21) none (some (.tmp 22)) none),I.n 7 24 (I.cv 115 9 23),I.n 8 25 (I.mv 0),I.n 9 26 (I.nc 25),I.n 10 27 (I.fa 182 26 1),I.n 11 28 (I.ld 115 27),I.n 12 29 (I.mv 1),I.n 13 30 (.slice 115 (.tmp 28) (some (.tmp 29)) none none),I.n 14 31 (I.fa 35 5 2),I.u 15 (I.st 9 31 24),I.n 16 32 (I.nc 17),I.n 17 33 (I.fa 182 32 1),I.u 18 (I.st 115 33 30)] [[],[],[1],[2],[3],[],[4,5],[6],[],[8],[9],[10],[],[11,12],[1,2,3,4,5,6,7],[14,7,1,2,3,4,5,6,7],[0,0,1,2,3,4,5,6,7,8,9,10,11,12,13,14,15],[16,0,1,2,3,4,5,6,7,8,9,10,11,12,13,14,15],[17,13,15,0,1,2,3,4,5,6,7,8,9,10,11,12,13,14,15]]) (.seq (.reg 4 [I.n 0 34 (I.mv 1),I.n 1 35 (I.fa 35 5 1),I.u 2 (I.st 3 35 34)]) (.reg 5 [I.n 0 36 (I.mv 0),I.n 1 37 (I.nc 36),I.n 2 38 (I.fa 182 37 0),I.n 3 39 (I.ld 23 38),I.n 4 40 (I.ic 23 39 0),I.n 5 41 (I.fa 35 40 1),I.n 6 42 (I.ld 3 41),I.n 7 43 (I.mv 1),I.n 8 44 (I.bo .sub 3 42 43 3),I.n 9 45 (I.ic 23 39 0),I.n 10 46 (I.fa 35 45 1),I.u 11 (I.st 3 46 44)])))) (.seq (.seq (.reg 6 [I.n 0 47 (I.mv 0),I.n 1 48 (I.c1 156 47 164),I.n 2 49 (I.bc .eql 3 48 0 3)]) (.cond (.tmp 49) (.seq (.reg 7 [I.n 0 50 (I.mv 0),I.n 1 51 (I.mv 0),I.n 2 52 (I.nc 51),I.n 3 53 (I.fa 182 52 0),I.n 4 54 (I.ld 23 53),I.n 5 55 (.slice 23 (.tmp 54) (some (.const (Value.int .i64 1))) none none),I.n 6 56 (I.nc 50),I.n 7 57 (I.fa 182 56 0),I.u 8 (I.st 23 57 55)]) (.reg 8 [I.n 0 58 (I.mv 0),I.n 1 59 (I.c1 164 58 164)])) .skip)) (.seq (.reg 9 [I.n 0 60 (I.ld 35 5),I.u 1 (I.st 35 4 60)]) .ret))))):=by
 intro c h
 have:c = Tryd.f155.body.get rfl:=by rw [<- Option.some_inj,<- h];rfl
 rw [this];rfl
theorem Fp:∀ c,Tryd.f164.body = some c -> comp c = (.seq (.reg 0 [I.n 0 2 (I.mv 0),I.n 1 3 (I.nc 2),I.n 2 4 (I.fa 182 3 1),I.u 3 (.store 115 (.tmp 4) (.const (Value.slice none 0 0)))]) (.seq (.reg 1 [I.n 0 5 (I.mv 0),I.n 1 6 (I.nc 5),I.n 2 7 (I.fa 182 6 0),I.n 3 8 (I.ld 23 7),I.n 4 9 (I.ln 8 23),I.n 5 10 (I.bc .gtr 3 9 0 3)]) (.cond (.tmp 10) (.reg 2 [I.n 0 11 (I.mv 0),I.n 1 12 (I.mv 0),I.n 2 13 (I.nc 12),I.n 3 14 (I.fa 182 13 0),I.n 4 15 (I.ld 23 14),I.n 5 16 (I.ic 23 15 0),I.n 6 17 (I.fa 35 16 2),I.n 7 18 (I.ld 9 17),I.n 8 19 (I.cv 9 115 18),I.n 9 20 (I.nc 11),I.n 10 21 (I.fa 182 20 1),I.u 11 (I.st 115 21 19)]) .skip))):=by
 intro c h
 have:c = Tryd.f164.body.get rfl:=by rw [<- Option.some_inj,<- h];rfl
 rw [this];rfl
def zN:List Sp -> AV
 | []=>nilA
 | s :: _=>.lst 1 (bK (eU (pts s.t.data.toList)))
def Tt:List Sp -> Int
 | []=>0
 | s :: _=>s.k
def Iu (x E:List Sp) (off:Nat):Prop:=off + x.length <= E.length /\ ∀ s l,x = s :: l -> ∃ t,∀ h:off < E.length,E[off] = ⟨s.k,s.n,t⟩ /\ (E.drop (off + 1)).take l.length = l
abbrev O9 (vb w:Nat) (E:List Sp) (off n:Nat) (tx:AV):List (Nat × aG):=[(5128,⟨2,182,vb,0,true,[[.own 5129 w off n,tx]]⟩),(5129,⟨3,35,w,0,false,aT E⟩)]
theorem iQ {E:Env} {N:Nat} {f:FuncId} {args:List AV} {hp:List (Nat × aG)} {R R':AV -> List (Nat × aG) -> Prop} (hc:dn E N f args hp R) (h:∀ r hp1,R r hp1 -> ∃ H,R' r H /\ subs hp1 H):dn E N f args hp R':=by
 intro M0 w0 c M J w vs inv hn hr
 obtain ⟨a,b⟩:=hc M0 w0 c M J w vs inv hn hr
 refine ⟨a,b.mono ?_⟩
 rintro e w' ⟨v,r,hp1,c',M',J',x1,x2,x3,x4⟩
 obtain ⟨H,y1,y2⟩:=h r hp1 x2
 exact ⟨v,r,H,c',M',J',x1,y1,x3.less (s':=⟨[],H,0⟩) (fun t x h=>by simp [get_nil] at h) (kW y2),x4⟩
theorem H7 (vb w:Nat) {x E:List Sp} {off:Nat} (h:Iu x E off):dn env 65536 154 [.ptr 5128 vb 0 0] (O9 vb w E off x.length (zN x)) (fun r hp1=>r = .v (.int .i64 (Tt x)) /\ hp1 = O9 vb w E off x.length (zN x)):=by
 have hE:=aV E
 have h1:=h.1
 refine Ev.Cj [0,2,8] 65536 [.tmp 2] Tryd.func154 (Xq _ rfl) (fun ct=>?_)
 refine' Ev.zW
 · rw [List.eq_nil_of_length_eq_zero (l:=x) (by omega)];exact ⟨rfl,rfl⟩
 · rename_i h0
   cases x with
   | nil=>exact absurd rfl h0
   | cons s l =>
     obtain ⟨t,e⟩:=h.2 s l rfl
     refine ⟨?_,rfl⟩
     show AV.v (Value.int .i64 (E[off + Int.toNat 0]'hi).k) = _
     simp only [Int.toNat_zero,Nat.add_zero,(e hi).1];rfl
theorem LC {s:Sp} (h:bM s) (ht:s.t.size <= 1000000000):IntKind.i64.wrap (s.n + (bK (eU (pts s.t.data.toList))).length) = dS s:=by
 rw [fM,gy]
 rcases h.cases with ⟨a,b,c,d⟩ | ⟨a,b,c⟩
 · rw [fP (by omega),d]
   have:pts (⟨#[]⟩:ByteArray).data.toList = []:=rfl
   rw [this,List.length_nil,Int.natCast_zero,Int.add_zero,bg (by omega)];omega
 · have:=oq s.t.data.toList
   rw [bD] at this
   rw [ug a,b,bg (by omega)];omega
theorem H8 (vb w:Nat) {s:Sp} {l E:List Sp} {off:Nat} (h:Iu (s :: l) E off) (hs:bM s) (ht:s.t.size <= 1000000000):dn env 65536 156 [.ptr 5128 vb 0 0] (O9 vb w E off (l.length + 1) (zN (s :: l))) (fun r hp1=>r = .v (.int .i64 (dS s)) /\ hp1 = O9 vb w E off (l.length + 1) (zN (s :: l))):=by
 have hE:=aV E
 obtain ⟨t,e⟩:=h.2 s l rfl
 have h1:off + (l.length + 1) <= E.length:=h.1
 unfold zN
 refine Ev.Cj [0,2] 65536 [.tmp 2] Tryd.func156 (Fj _ rfl) (fun ct=>?_)
 repeat' (first | refine' Ev.zS | refine' Ev.zK | ((with_reducible refine Ev.dG ?_);(first | refine Ev.Bq 1 [] Fh ?_);intro Q hQ;(simp only [Ev.dU,Ev.dA,Ev.dB,Ev.dV]);conv=>whnf) | ((with_reducible refine Ev.both ?_ ?_) <;> (conv=>whnf)) | refine' Ev.zT | fail)
 all_goals
   refine ⟨?_,rfl⟩
   show AV.v (Value.int .i64 (IntKind.i64.wrap ((E[off + Int.toNat 0]'hi).n + ((bK (eU (pts s.t.data.toList))).length:Int)))) = _
   simp only [Int.toNat_zero,Nat.add_zero,(e hi).1,LC hs ht]
set_option maxHeartbeats 4000000 in
theorem H9 (vb w:Nat) {s:Sp} {l E:List Sp} {off m:Nat} (h:Iu (s :: l) E off) (hs:bM s) (hb:bT (s :: l) <= 1000000000) (hm:m <= dS s):dn env 65536 155 [.ptr 5128 vb 0 0,.v (.int .i64 m)] (O9 vb w E off (l.length + 1) (zN (s :: l))) (fun r hp1=>∃ E' off',r = lH (dJ s m).k (dJ s m).n (dJ s m).t /\ hp1 = O9 vb w E' off' (aS s m l).length (zN (aS s m l)) /\ Iu (aS s m l) E' off'):=by
  have hE:=aV E
  obtain ⟨t,e⟩:=h.2 s l rfl
  have h1:off + (l.length + 1) <= E.length:=h.1
  unfold zN
  have ht:s.t.size <= 1000000000:=by rw [aN] at hb;omega
  have hmz:(m:Int) <= 1048576 ∨ s.k = 2:=by
    rcases hs.cases with ⟨a,b,c,d⟩ | ⟨a,b,c⟩
    · rw [fP (by omega)] at hm;omega
    · exact .inr a
  have hpl:=oq s.t.data.toList
  rw [bD] at hpl
  have hk2:∀ hi:off + Int.toNat 0 < E.length,E[off + Int.toNat 0] = ⟨s.k,s.n,t⟩:=fun hi=>(e hi).1
  have f2:s.k = 2 -> pts (bI s m).t.data.toList = (pts s.t.data.toList).drop m /\ dJ s m = ⟨2,0,txt ((pts s.t.data.toList).take m)⟩ /\ bI s m = ⟨2,0,txt ((pts s.t.data.toList).drop m)⟩ /\ s.n = 0 /\ m <= (pts s.t.data.toList).length:=by
    intro a
    rcases hs.cases with ⟨a',_⟩ | ⟨a,b,c⟩
    · omega
    have hp:=(jd _ c).2
    have e2:bI s m = ⟨2,0,txt ((pts s.t.data.toList).drop m)⟩:=if_pos a
    refine ⟨?_,if_pos a,e2,b,by rw [ug a] at hm;exact hm⟩
    rw [e2]
    show pts (txt _).data.toList = _
    rw [fD,(lU _ (fun p hp'=>hp p (List.mem_of_mem_drop hp'))).2]
  have f1:s.k ≠ 2 -> s.t = ⟨#[]⟩ /\ dJ s m = ⟨s.k,m,⟨#[]⟩⟩ /\ bI s m = ⟨s.k,s.n - m,⟨#[]⟩⟩ /\ (m:Int) <= s.n /\ s.n <= 1048576:=by
    intro a
    rcases hs.cases with ⟨a',b,c,d⟩ | ⟨a',b,c⟩
    · rw [fP a] at hm
      exact ⟨d,if_neg a,if_neg a,by omega,c⟩
    · exact absurd a' a
  refine iQ (R:=fun r hp1=>r = lH (dJ s m).k (dJ s m).n (dJ s m).t /\ ∃ E' off',Iu (aS s m l) E' off' /\ subs hp1 (O9 vb w E' off' (aS s m l).length (zN (aS s m l)))) ?_ ?_
  · refine Ev.Cj [0,1,4,5,16,49] 65536 [.cell 4 35] Tryd.func155 (Xr _ rfl) (fun ct=>?_)
    repeat' (first | (with_reducible refine Ev.join (a:=.seq (.reg 2 _) _) (fun s'=>∃ (c c1:Nat) (E1:List Sp) (P1:List Nat),s' = ⟨[(0,.ptr 5128 vb 0 0),(1,.v (.int .i64 m)),(4,.ptr 65536 ct 0 0),(5,.ptr 66112 c1 0 0)],[(5128,⟨2,182,vb,0,true,[[.own 5129 w off (l.length + 1),.lst 1 (bK (eU P1))]]⟩),(5129,⟨3,35,w,0,false,aT E1⟩),(65536,⟨3,35,ct,0,true,[qR ⟨0,0,⟨#[]⟩⟩]⟩),(66112,⟨3,35,c1,0,true,[qR (dJ s m)]⟩)],c⟩ /\ E1.length = E.length /\ Iu (bI s m :: l) E1 off /\ P1 = pts (bI s m).t.data.toList) ?_ ?_) | refine' Ev.zS | ((with_reducible refine Ev.kr (hs:=[156,164]) (fun Q hQ=>?_));refine' Ev.zR) | ((with_reducible refine Ev.kZ 156 ?_);refine Ev.il 156 [0,2] [.tmp 2] Tryd.func156 (Fj _ rfl) (fun aW=>?_)) | ((with_reducible refine Ev.kZ 164 ?_);refine Ev.il 164 [0,10] [] Tryd.func164 (Fp _ rfl) (fun aW=>?_)) | ((with_reducible refine Ev.dG ?_);(first | refine Ev.Bq 3 [156,164] Lu ?_ | refine Ev.Bq 1 [156,164] Fh ?_);intro Q hQ;(simp only [Ev.dU,Ev.dA,Ev.dB,Ev.dV]);conv=>whnf) | ((with_reducible refine Ev.both ?_ ?_) <;> (conv=>whnf)) | refine' Ev.zT | fail)
    all_goals try (
      have hkk:(E[off + Int.toNat 0]'hi).k = 2:=by assumption
      rw [hk2] at hkk
      obtain ⟨g1,g2,g3,g4,g5⟩:=f2 hkk)
    all_goals try (refine Ev.Side.of ⟨by omega,?_⟩;rw [fM,gy];omega)
    · have r1:List.take ((bK (eU (pts s.t.data.toList))).length - (m:Int).toNat) (List.drop (m:Int).toNat (bK (eU (pts s.t.data.toList)))) = bK (eU (pts (bI s m).t.data.toList)):=by
        rw [g1,Int.toNat_natCast,List.take_of_length_le (by simp)];simp [bK,eU,List.map_drop]
      have r2:[AV.v (.int .i64 (E[off + Int.toNat 0]'hi).k),AV.v (.int .i64 0),AV.v (.string (runesBytes (List.take ((m:Int).toNat - 0) (List.drop 0 (eU (pts s.t.data.toList))))))] = qR (dJ s m):=by
        rw [hk2,hkk,g2,List.drop_zero,Nat.sub_zero,Int.toNat_natCast]
        have:List.take m (eU (pts s.t.data.toList)) = eU ((pts s.t.data.toList).take m):=by simp [eU,List.map_take]
        rw [this,kS];rfl
      refine Ev.zB ⟨?_,?_,E,pts (bI s m).t.data.toList,rfl,?_⟩ (by refine' Ev.zp <;> first | (first | exact congrArg (fun x=>aG.mk 2 182 vb 0 true [[AV.own 5129 w off (l.length + 1),AV.lst 1 x]]) r1 | exact congrArg (fun x=>aG.mk 3 35 _ 0 true [x]) r2 | rfl) | rfl | (refine' Ev.ze;(first | exact congrArg (fun x=>aG.mk 2 182 vb 0 true [[AV.own 5129 w off (l.length + 1),AV.lst 1 x]]) r1 | exact congrArg (fun x=>aG.mk 3 35 _ 0 true [x]) r2 | rfl)) | fail)
      exact ⟨rfl,⟨by simpa using h1,fun s' l' hx=>by
        obtain ⟨rfl,rfl⟩:=List.cons.inj hx
        exact ⟨t,fun hi=>by rw [(e hi).1,g3,hkk,g4];exact ⟨rfl,(e hi).2⟩⟩⟩,rfl⟩
    · have r1:List.take ((bK (eU (pts s.t.data.toList))).length - (m:Int).toNat) (List.drop (m:Int).toNat (bK (eU (pts s.t.data.toList)))) = bK (eU (pts (bI s m).t.data.toList)):=by
        rw [g1,Int.toNat_natCast,List.take_of_length_le (by simp)];simp [bK,eU,List.map_drop]
      have r2:[AV.v (.int .i64 (E[off + Int.toNat 0]'hi).k),AV.v (.int .i64 0),AV.v (.string (runesBytes (List.take ((m:Int).toNat - 0) (List.drop 0 (eU (pts s.t.data.toList))))))] = qR (dJ s m):=by
        rw [hk2,hkk,g2,List.drop_zero,Nat.sub_zero,Int.toNat_natCast]
        have:List.take m (eU (pts s.t.data.toList)) = eU ((pts s.t.data.toList).take m):=by simp [eU,List.map_take]
        rw [this,kS];rfl
      refine Ev.zB ⟨?_,?_,E,pts (bI s m).t.data.toList,rfl,?_⟩ (by refine' Ev.zp <;> first | (first | exact congrArg (fun x=>aG.mk 2 182 vb 0 true [[AV.own 5129 w off (l.length + 1),AV.lst 1 x]]) r1 | exact congrArg (fun x=>aG.mk 3 35 _ 0 true [x]) r2 | rfl) | rfl | (refine' Ev.ze;(first | exact congrArg (fun x=>aG.mk 2 182 vb 0 true [[AV.own 5129 w off (l.length + 1),AV.lst 1 x]]) r1 | exact congrArg (fun x=>aG.mk 3 35 _ 0 true [x]) r2 | rfl)) | fail)
      exact ⟨rfl,⟨by simpa using h1,fun s' l' hx=>by
        obtain ⟨rfl,rfl⟩:=List.cons.inj hx
        exact ⟨t,fun hi=>by rw [(e hi).1,g3,hkk,g4];exact ⟨rfl,(e hi).2⟩⟩⟩,rfl⟩
    · have r1:List.take ((bK (eU (pts s.t.data.toList))).length - (m:Int).toNat) (List.drop (m:Int).toNat (bK (eU (pts s.t.data.toList)))) = bK (eU (pts (bI s m).t.data.toList)):=by
        rw [g1,Int.toNat_natCast,List.take_of_length_le (by simp)];simp [bK,eU,List.map_drop]
      have r2:[AV.v (.int .i64 (E[off + Int.toNat 0]'hi).k),AV.v (.int .i64 0),AV.v (.string (runesBytes (List.take ((m:Int).toNat - 0) (List.drop 0 (eU (pts s.t.data.toList))))))] = qR (dJ s m):=by
        rw [hk2,hkk,g2,List.drop_zero,Nat.sub_zero,Int.toNat_natCast]
        have:List.take m (eU (pts s.t.data.toList)) = eU ((pts s.t.data.toList).take m):=by simp [eU,List.map_take]
        rw [this,kS];rfl
      refine Ev.zB ⟨?_,?_,E,pts (bI s m).t.data.toList,rfl,?_⟩ (by refine' Ev.zp <;> first | (first | exact congrArg (fun x=>aG.mk 2 182 vb 0 true [[AV.own 5129 w off (l.length + 1),AV.lst 1 x]]) r1 | exact congrArg (fun x=>aG.mk 3 35 _ 0 true [x]) r2 | rfl) | rfl | (refine' Ev.ze;(first | exact congrArg (fun x=>aG.mk 2 182 vb 0 true [[AV.own 5129 w off (l.length + 1),AV.lst 1 x]]) r1 | exact congrArg (fun x=>aG.mk 3 35 _ 0 true [x]) r2 | rfl)) | fail)
      exact ⟨rfl,⟨by simpa using h1,fun s' l' hx=>by
        obtain ⟨rfl,rfl⟩:=List.cons.inj hx
        exact ⟨t,fun hi=>by rw [(e hi).1,g3,hkk,g4];exact ⟨rfl,(e hi).2⟩⟩⟩,rfl⟩
    · have r1:List.take ((bK (eU (pts s.t.data.toList))).length - (m:Int).toNat) (List.drop (m:Int).toNat (bK (eU (pts s.t.data.toList)))) = bK (eU (pts (bI s m).t.data.toList)):=by
        rw [g1,Int.toNat_natCast,List.take_of_length_le (by simp)];simp [bK,eU,List.map_drop]
      have r2:[AV.v (.int .i64 (E[off + Int.toNat 0]'hi).k),AV.v (.int .i64 0),AV.v (.string (runesBytes (List.take ((m:Int).toNat - 0) (List.drop 0 (eU (pts s.t.data.toList))))))] = qR (dJ s m):=by
        rw [hk2,hkk,g2,List.drop_zero,Nat.sub_zero,Int.toNat_natCast]
        have:List.take m (eU (pts s.t.data.toList)) = eU ((pts s.t.data.toList).take m):=by simp [eU,List.map_take]
        rw [this,kS];rfl
      refine Ev.zB ⟨?_,?_,E,pts (bI s m).t.data.toList,rfl,?_⟩ (by refine' Ev.zp <;> first | (first | exact congrArg (fun x=>aG.mk 2 182 vb 0 true [[AV.own 5129 w off (l.length + 1),AV.lst 1 x]]) r1 | exact congrArg (fun x=>aG.mk 3 35 _ 0 true [x]) r2 | rfl) | rfl | (refine' Ev.ze;(first | exact congrArg (fun x=>aG.mk 2 182 vb 0 true [[AV.own 5129 w off (l.length + 1),AV.lst 1 x]]) r1 | exact congrArg (fun x=>aG.mk 3 35 _ 0 true [x]) r2 | rfl)) | fail)
      exact ⟨rfl,⟨by simpa using h1,fun s' l' hx=>by
        obtain ⟨rfl,rfl⟩:=List.cons.inj hx
        exact ⟨t,fun hi=>by rw [(e hi).1,g3,hkk,g4];exact ⟨rfl,(e hi).2⟩⟩⟩,rfl⟩
    · have r1:List.take ((bK (eU (pts s.t.data.toList))).length - (m:Int).toNat) (List.drop (m:Int).toNat (bK (eU (pts s.t.data.toList)))) = bK (eU (pts (bI s m).t.data.toList)):=by
        rw [g1,Int.toNat_natCast,List.take_of_length_le (by simp)];simp [bK,eU,List.map_drop]
      have r2:[AV.v (.int .i64 (E[off + Int.toNat 0]'hi).k),AV.v (.int .i64 0),AV.v (.string (runesBytes (List.take ((m:Int).toNat - 0) (List.drop 0 (eU (pts s.t.data.toList))))))] = qR (dJ s m):=by
        rw [hk2,hkk,g2,List.drop_zero,Nat.sub_zero,Int.toNat_natCast]
        have:List.take m (eU (pts s.t.data.toList)) = eU ((pts s.t.data.toList).take m):=by simp [eU,List.map_take]
        rw [this,kS];rfl
      refine Ev.zB ⟨?_,?_,E,pts (bI s m).t.data.toList,rfl,?_⟩ (by refine' Ev.zp <;> first | (first | exact congrArg (fun x=>aG.mk 2 182 vb 0 true [[AV.own 5129 w off (l.length + 1),AV.lst 1 x]]) r1 | exact congrArg (fun x=>aG.mk 3 35 _ 0 true [x]) r2 | rfl) | rfl | (refine' Ev.ze;(first | exact congrArg (fun x=>aG.mk 2 182 vb 0 true [[AV.own 5129 w off (l.length + 1),AV.lst 1 x]]) r1 | exact congrArg (fun x=>aG.mk 3 35 _ 0 true [x]) r2 | rfl)) | fail)
      exact ⟨rfl,⟨by simpa using h1,fun s' l' hx=>by
        obtain ⟨rfl,rfl⟩:=List.cons.inj hx
        exact ⟨t,fun hi=>by rw [(e hi).1,g3,hkk,g4];exact ⟨rfl,(e hi).2⟩⟩⟩,rfl⟩
    · have r1:List.take ((bK (eU (pts s.t.data.toList))).length - (m:Int).toNat) (List.drop (m:Int).toNat (bK (eU (pts s.t.data.toList)))) = bK (eU (pts (bI s m).t.data.toList)):=by
        rw [g1,Int.toNat_natCast,List.take_of_length_le (by simp)];simp [bK,eU,List.map_drop]
      have r2:[AV.v (.int .i64 (E[off + Int.toNat 0]'hi).k),AV.v (.int .i64 0),AV.v (.string (runesBytes (List.take ((m:Int).toNat - 0) (List.drop 0 (eU (pts s.t.data.toList))))))] = qR (dJ s m):=by
        rw [hk2,hkk,g2,List.drop_zero,Nat.sub_zero,Int.toNat_natCast]
        have:List.take m (eU (pts s.t.data.toList)) = eU ((pts s.t.data.toList).take m):=by simp [eU,List.map_take]
        rw [this,kS];rfl
      refine Ev.zB ⟨?_,?_,E,pts (bI s m).t.data.toList,rfl,?_⟩ (by refine' Ev.zp <;> first | (first | exact congrArg (fun x=>aG.mk 2 182 vb 0 true [[AV.own 5129 w off (l.length + 1),AV.lst 1 x]]) r1 | exact congrArg (fun x=>aG.mk 3 35 _ 0 true [x]) r2 | rfl) | rfl | (refine' Ev.ze;(first | exact congrArg (fun x=>aG.mk 2 182 vb 0 true [[AV.own 5129 w off (l.length + 1),AV.lst 1 x]]) r1 | exact congrArg (fun x=>aG.mk 3 35 _ 0 true [x]) r2 | rfl)) | fail)
      exact ⟨rfl,⟨by simpa using h1,fun s' l' hx=>by
        obtain ⟨rfl,rfl⟩:=List.cons.inj hx
        exact ⟨t,fun hi=>by rw [(e hi).1,g3,hkk,g4];exact ⟨rfl,(e hi).2⟩⟩⟩,rfl⟩
    · have hkk:¬ (E[off + Int.toNat 0]'hi).k = 2:=by assumption
      rw [hk2] at hkk
      obtain ⟨g1,g2,g3,g4,g5⟩:=f1 hkk
      have hw:IntKind.i64.wrap ((E[off + Int.toNat 0]'hi).n - m) = s.n - m:=by rw [hk2];exact bg (by simp only;omega)
      have r1:(aT E).set (off + Int.toNat 0) (dN (qR (E[off + Int.toNat 0]'hi)) (0 + 1) [AV.v (.int .i64 (IntKind.i64.wrap ((E[off + Int.toNat 0]'hi).n - m)))]) = aT (E.set off ⟨s.k,s.n - m,t⟩):=by
        rw [hw,hk2,<- lJ];rfl
      have r2:[AV.v (.int .i64 (E[off + Int.toNat 0]'hi).k),AV.v (.int .i64 m),AV.v (.string ⟨#[]⟩)] = qR (dJ s m):=by rw [hk2,g2];rfl
      have r3:bK (eU (pts s.t.data.toList)) = bK (eU (pts (bI s m).t.data.toList)):=by rw [g1,g3]
      refine Ev.zB ⟨?_,?_,E.set off ⟨s.k,s.n - m,t⟩,pts (bI s m).t.data.toList,rfl,?_⟩ (by refine' Ev.zp <;> first | (first | exact congrArg (fun x=>aG.mk 2 182 vb 0 true [[AV.own 5129 w off (l.length + 1),AV.lst 1 x]]) r3 | exact congrArg (fun x=>aG.mk 3 35 _ 0 true [x]) r2 | exact congrArg (fun x=>aG.mk 3 35 w 0 false x) r1 | rfl) | rfl | (refine' Ev.ze;(first | exact congrArg (fun x=>aG.mk 2 182 vb 0 true [[AV.own 5129 w off (l.length + 1),AV.lst 1 x]]) r3 | exact congrArg (fun x=>aG.mk 3 35 _ 0 true [x]) r2 | exact congrArg (fun x=>aG.mk 3 35 w 0 false x) r1 | rfl)) | fail)
      refine ⟨by simp,⟨by simpa using h1,fun s' l' hx=>?_⟩,rfl⟩
      obtain ⟨rfl,rfl⟩:=List.cons.inj hx
      refine ⟨t,fun hi=>?_⟩
      rw [List.getElem_set_self,g3]
      exact ⟨rfl,by rw [List.drop_set_of_lt (by omega)];exact (e (by omega)).2⟩
    · rintro s' ⟨c,c1,E1,P1,rfl,hE1,hR1,hP1⟩
      have hE1':=aV E1
      obtain ⟨t1,e1⟩:=hR1.2 _ _ rfl
      have h11:off + (l.length + 1) <= E1.length:=hR1.1
      obtain ⟨p1,p2,p3,p4,p5,p6,p7⟩:=kE hs hm
      have hz:∀ hi:off + Int.toNat 0 < E1.length,IntKind.i64.wrap ((E1[off + Int.toNat 0]'hi).n + ((bK (eU P1)).length:Int)) = ((dS s - m:Nat):Int):=by
        intro hi
        have q1:E1[off + Int.toNat 0]'hi = ⟨(bI s m).k,(bI s m).n,t1⟩:=(e1 hi).1
        rw [q1,hP1,LC p2 (by omega)]
        have q2:=kV p2
        rw [p4,List.length_drop,kV hs] at q2
        rw [q2]
      have hE2:∀ (hi:off + Int.toNat 1 + Int.toNat 0 < E1.length) (h0:0 < l.length),E1[off + Int.toNat 1 + Int.toNat 0]'hi = l[0] /\ (E1.drop (off + 1 + 1)).take (l.length - 1) = l.drop 1:=by
        intro hi h0
        have q:=(e1 (by omega)).2
        have hi':off + 1 < E1.length:=hi
        rw [List.drop_eq_getElem_cons hi'] at q
        cases l with
        | nil=>exact absurd h0 (by simp)
        | cons a l =>
          rw [List.length_cons,List.take_succ_cons] at q
          obtain ⟨x1,x2⟩:=List.cons.inj q
          exact ⟨x1,x2⟩
      repeat' (first | refine' Ev.zS | ((with_reducible refine Ev.kr (hs:=[156,164]) (fun Q hQ=>?_));refine' Ev.zR) | ((with_reducible refine Ev.kZ 156 ?_);refine Ev.il 156 [0,2] [.tmp 2] Tryd.func156 (Fj _ rfl) (fun aW=>?_)) | ((with_reducible refine Ev.kZ 164 ?_);refine Ev.il 164 [0,10] [] Tryd.func164 (Fp _ rfl) (fun aW=>?_)) | ((with_reducible refine Ev.dG ?_);(first | refine Ev.Bq 3 [156,164] Lu ?_ | refine Ev.Bq 1 [156,164] Fh ?_);intro Q hQ;(simp only [Ev.dU,Ev.dA,Ev.dB,Ev.dV]);conv=>whnf) | ((with_reducible refine Ev.both ?_ ?_) <;> (conv=>whnf)) | refine' Ev.zT | fail)
      · have q:((dS s - m:Nat):Int) = 0:=(hz (by show off + 0 < E1.length;omega)).symm.trans (by assumption)
        have hl:aS s m l = l:=if_pos (by omega)
        have h0:0 < l.length:=by omega
        have y:=hE2 hi h0
        rw [hl]
        cases l with
        | nil=>simp at h0
        | cons a l =>
          have r1:jh (E1[off + Int.toNat 1 + Int.toNat 0]'hi).t = bK (eU (pts a.t.data.toList)):=by rw [y.1,runes_all];rfl
          refine ⟨rfl,E1,off + 1,⟨by simp at h11 ⊢;omega,fun s' l' hx=>?_⟩,Ev.ah rfl ?_,Ev.ah rfl rfl,trivial⟩
          · obtain ⟨rfl,rfl⟩:=List.cons.inj hx
            exact ⟨_,fun hi=>y⟩
          · exact congrArg (fun x=>aG.mk 2 182 vb 0 true [[AV.own 5129 w (off + 1) (l.length + 1),AV.lst 1 x]]) r1
      · refine Ev.Side.of ?_
        rw [(hE2 hi (by omega)).1]
        have:=o9 (l:=l) (i:=0) (by omega)
        rw [List.drop_zero] at this
        rw [aN] at hb
        omega
      · have q:((dS s - m:Nat):Int) = 0:=(hz (by show off + 0 < E1.length;omega)).symm.trans (by assumption)
        have hl:aS s m l = l:=if_pos (by omega)
        have h0:l = []:=List.eq_nil_of_length_eq_zero (by omega)
        rw [hl]
        subst h0
        exact ⟨rfl,E1,off + 1,⟨by simpa using h11,fun s' l' hx=>by cases hx⟩,Ev.ah rfl rfl,Ev.ah rfl rfl,trivial⟩
      · have q:¬ ((dS s - m:Nat):Int) = 0:=by rw [<- hz (by show off + 0 < E1.length;omega)];assumption
        have hl:aS s m l = bI s m :: l:=if_neg (by omega)
        rw [hl]
        subst hP1
        exact ⟨rfl,E1,off,hR1,Ev.ah rfl rfl,Ev.ah rfl rfl,trivial⟩
      · have q:((dS s - m:Nat):Int) = 0:=(hz (by show off + 0 < E1.length;omega)).symm.trans (by assumption)
        have hl:aS s m l = l:=if_pos (by omega)
        have h0:0 < l.length:=by omega
        have y:=hE2 hi h0
        rw [hl]
        cases l with
        | nil=>simp at h0
        | cons a l =>
          have r1:jh (E1[off + Int.toNat 1 + Int.toNat 0]'hi).t = bK (eU (pts a.t.data.toList)):=by rw [y.1,runes_all];rfl
          refine ⟨rfl,E1,off + 1,⟨by simp at h11 ⊢;omega,fun s' l' hx=>?_⟩,Ev.ah rfl ?_,Ev.ah rfl rfl,trivial⟩
          · obtain ⟨rfl,rfl⟩:=List.cons.inj hx
            exact ⟨_,fun hi=>y⟩
          · exact congrArg (fun x=>aG.mk 2 182 vb 0 true [[AV.own 5129 w (off + 1) (l.length + 1),AV.lst 1 x]]) r1
      · refine Ev.Side.of ?_
        rw [(hE2 hi (by omega)).1]
        have:=o9 (l:=l) (i:=0) (by omega)
        rw [List.drop_zero] at this
        rw [aN] at hb
        omega
      · have q:((dS s - m:Nat):Int) = 0:=(hz (by show off + 0 < E1.length;omega)).symm.trans (by assumption)
        have hl:aS s m l = l:=if_pos (by omega)
        have h0:l = []:=List.eq_nil_of_length_eq_zero (by omega)
        rw [hl]
        subst h0
        exact ⟨rfl,E1,off + 1,⟨by simpa using h11,fun s' l' hx=>by cases hx⟩,Ev.ah rfl rfl,Ev.ah rfl rfl,trivial⟩
      · have q:¬ ((dS s - m:Nat):Int) = 0:=by rw [<- hz (by show off + 0 < E1.length;omega)];assumption
        have hl:aS s m l = bI s m :: l:=if_neg (by omega)
        rw [hl]
        subst hP1
        exact ⟨rfl,E1,off,hR1,Ev.ah rfl rfl,Ev.ah rfl rfl,trivial⟩
  · rintro r hp1 ⟨a,E',off',b,c⟩
    exact ⟨_,⟨E',off',a,rfl,b⟩,c⟩
theorem Xt:∀ c,Tryd.f153.body = some c -> comp c = (.seq (.reg 0 [I.n 0 2 (.assign (.const (Value.pointer none)))]) (.seq (.reg 1 [I.n 0 4 (I.mv 0),I.n 1 5 (I.c1 35 4 23),I.n 2 6 (.build 182 #[(0,.tmp 5)]),I.n 3 7 (.box 182 (.tmp 6)),I.n 4 3 (I.sa 7)]) (.seq (.reg 2 [I.n 0 8 (I.mv 3),I.n 1 9 (I.c1 164 8 164)]) (.seq (.reg 3 [I.n 0 10 (I.mv 3),I.n 1 2 (I.sa 10)]) .ret)))):=by
 intro c h
 have:c = Tryd.f153.body.get rfl:=by rw [<- Option.some_inj,<- h];rfl
 rw [this];rfl
theorem agd{G:Prop}(h:G:=by
 have h0:0 < (norm l).length:=by omega
 have hE0:0 < E.length:=by have:=congrArg List.length hE1;rw [List.length_take] at this;omega
 all_goals(rcases(⟨_⟩:PLift _)with⟨h⟩;exact h)):G:=h
theorem sQ (l:List Sp) (hl:l.length <= 100000000) (hb:bT l <= 1000000000) (hbn:bT (norm l) <= 1000000000):aO env 153 [.lst 3 (aT l)] (fun r hs=>∃ E,r = .ptr 0 0 0 0 /\ hs = [⟨2,182,0,0,true,[[.own 1 1 0 (norm l).length,zN (norm l)]]⟩,⟨3,35,1,0,false,aT E⟩] /\ Iu (norm l) E 0):=by
 refine Ev.fnO [0,2,3] 0 [.tmp 2] Tryd.func153 (Xt _ rfl) ?_
 repeat' (first | refine' Ev.zS | ((with_reducible refine Ev.kr (hs:=[164]) (fun Q hQ=>?_));refine' Ev.zR) | ((with_reducible refine Ev.kZ 164 ?_);refine Ev.il 164 [0,10] [] Tryd.func164 (Fp _ rfl) (fun aW=>?_)) | ((((with_reducible refine Ev.ca0 ?_);refine ⟨(Fg l hl hb).mono ?_⟩;rintro _ _ ⟨E,rfl,rfl,hE1,hE2⟩;refine ⟨Nat.le_of_ble_eq_true rfl,⟨rfl,trivial⟩,?_⟩;conv=>whnf));conv=>whnf) | refine' Ev.zT | fail)
 · refine' agd
   have hlE:(norm l).length <= E.length:=by have:=congrArg List.length hE1;rw [List.length_take] at this;omega
   refine Ev.IY [(536,1),(520,0)] (by simp) (fun F hF=>?_)
   conv=>whnf
   refine hF _ ?_
   generalize norm l = x at *
   cases x with
   | nil=>simp at h0
   | cons s x =>
     rw [List.length_cons] at hE1
     have e0:E = E[0] :: E.drop 1:=(List.drop_eq_getElem_cons hE0)
     have e1:=hE1
     rw [e0,List.take_succ_cons] at e1
     obtain ⟨x1,x2⟩:=List.cons.inj e1
     have r1:jh E[0].t = bK (eU (pts s.t.data.toList)):=by rw [x1,runes_all]
     refine ⟨E,rfl,?_,by simpa using hlE,fun s' l' hx=>?_⟩
     · exact congrArg (fun x'=>[aG.mk 2 182 0 0 true [[AV.own 1 1 0 (x.length + 1),AV.lst 1 x']],aG.mk 3 35 1 0 false (aT E)]) r1
     · obtain ⟨rfl,rfl⟩:=List.cons.inj hx
       exact ⟨_,fun _=>⟨x1,x2⟩⟩
 · refine Ev.Side.of ?_
   refine' agd
   have e0:E = E[0] :: E.drop 1:=(List.drop_eq_getElem_cons hE0)
   have ht:=hbn
   generalize norm l = x at *
   cases x with
   | nil=>simp at h0
   | cons s x =>
     rw [List.length_cons] at hE1
     rw [e0,List.take_succ_cons] at hE1
     obtain ⟨x1,x2⟩:=List.cons.inj hE1
     show E[0].t.size <= _
     rw [x1];rw [aN] at ht;omega
 · refine Ev.Side.of ?_
   show 0 < E.length
   have:=congrArg List.length hE1
   rw [List.length_take] at this;omega
 · have h0:norm l = []:=List.eq_nil_of_length_eq_zero (by omega)
   refine Ev.IY [(536,1),(520,0)] (by simp) (fun F hF=>?_)
   conv=>whnf
   refine hF _ ?_
   rw [h0]
   exact ⟨E,rfl,rfl,by simp,fun s' l' hx=>by cases hx⟩
end Go.Proofs.YtadlnaljicikfaaDoor.aI
namespace Go.Proofs.YtadlnaljicikfaaDoor.aI
open Go Go.Lib
abbrev Fq (B R vb w:Nat) (E:List Sp) (off n:Nat) (tx:AV):List (Nat × aG):=[(B,⟨2,182,vb,0,true,[[.own R w off n,tx]]⟩),(R,⟨3,35,w,0,false,aT E⟩)]
theorem Fv {M:Mem} {J:bJ} {r r' v off n:Nat} {u:Value} (h:Rel M J (.own r v off n) u):Rel M J (.own r' v off n) u:=by
 cases h with
 | pure h=>cases h
 | own hL hl hN hA hc=>exact .own hL hl hN hA hc
theorem Xu {M:Mem} {J:bJ} {r r' v i o:Nat} {u:Value} (h:Rel M J (.ptr r v i o) u):Rel M J (.ptr r' v i o) u:=by
 cases h with
 | pure h=>cases h
 | ptr hL hN=>exact .ptr hL hN
theorem xH {B R vb w:Nat} {E:List Sp} {off n:Nat} {tx:AV} {r:Nat} {k:aG} (h:get (Fq B R vb w E off n tx) r = some k) :
   (r = B /\ k = ⟨2,182,vb,0,true,[[.own R w off n,tx]]⟩) ∨ (r = R /\ k = ⟨3,35,w,0,false,aT E⟩):=by
 rw [au,au,get_nil] at h
 split at h
 · rename_i e;exact .inl ⟨e.symm ▸ rfl,(Option.some.inj h).symm⟩
 · split at h
   · rename_i e;exact .inr ⟨e.symm ▸ rfl,(Option.some.inj h).symm⟩
   · cases h
theorem ac8{G:Prop}(h:G:=by (refine ⟨inv.below,inv.mem,inv.kH,inv.jV,inv.glob,fun t x h=>by simp [get_nil] at h,?_,?_,?_,inv.vers,inv.jF,inv.far⟩);all_goals(rcases(⟨_⟩:PLift _)with⟨h⟩;exact h)):G:=h
theorem Inv.Tv {E:Env} {M0:qV} {w0:World} {c:Nat} {M:Mem} {J:bJ} {W:World} {B R B' R' vb w:Nat} {S:List Sp} {off n:Nat} {tx:AV} (hne:B ≠ R) (inv:Inv E M0 w0 c M J ⟨[],Fq B R vb w S off n tx,0⟩ #[] W) :
   Inv E M0 w0 c M J ⟨[],Fq B' R' vb w S off n tx,0⟩ #[] W:=by
 have gB:get (Fq B R vb w S off n tx) B = some ⟨2,182,vb,0,true,[[.own R w off n,tx]]⟩:=by rw [au,if_pos rfl]
 have gR:get (Fq B R vb w S off n tx) R = some ⟨3,35,w,0,false,aT S⟩:=by rw [au,if_neg (Ne.symm hne),au,if_pos rfl]
 refine' ac8
 · intro r k hk
   rcases xH hk with ⟨rfl,rfl⟩ | ⟨rfl,rfl⟩
   · obtain ⟨L,C,h1,h2,h3⟩:=inv.heap _ _ gB
     refine ⟨L,C,h1,h2,h3.blk,h3.none,h3.size,h3.fits,h3.fH,h3.sz,?_,?_,h3.cap⟩
     · intro i e he
       cases i with
       | zero=>obtain rfl:=Option.some.inj he;rfl
       | succ i=>simp at he
     · intro i e j c he hc
       cases i with
       | zero =>
         obtain rfl:=Option.some.inj he
         cases j with
         | zero =>
           obtain rfl:=Option.some.inj hc
           obtain ⟨u,u1,u2,u3⟩:=h3.cell 0 _ 0 _ rfl rfl
           exact ⟨u,u1,u2,Fv u3⟩
         | succ j=>exact h3.cell 0 _ (j + 1) c rfl hc
       | succ i=>simp at he
   · exact inv.heap _ _ gR
 · intro r r' k k' L L' hk hk' hL hL' hN hN' hr
   rcases xH hk with ⟨rfl,rfl⟩ | ⟨rfl,rfl⟩ <;> rcases xH hk' with ⟨rfl,rfl⟩ | ⟨rfl,rfl⟩
   · exact absurd rfl hr
   · exact inv.apart _ _ _ _ L L' gB gR hL hL' hN hN' hne
   · exact inv.apart _ _ _ _ L L' gR gB hL hL' hN hN' (Ne.symm hne)
   · exact absurd rfl hr
 · intro r k L o u hk hL hN hu
   rcases xH hk with ⟨rfl,rfl⟩ | ⟨rfl,rfl⟩
   · have:=inv.owns _ _ L o u gB hL hN hu;exact this
   · exact inv.owns _ _ L o u gR hL hN hu
theorem Tz {E:Env} {N:Nat} {f:FuncId} {vb w:Nat} {S:List Sp} {off n:Nat} {tx:AV} {args:List AV} {R:AV -> Nat -> List Sp -> Nat -> Nat -> AV -> Prop} (B' R':Nat) (hne:B' ≠ R')
   (hc:dn E N f (.ptr 5128 vb 0 0 :: args) (O9 vb w S off n tx) fun r hp1=>∃ S' off' n' zO,hp1 = O9 vb w S' off' n' zO /\ R r w S' off' n' zO) :
   dn E N f (.ptr B' vb 0 0 :: args) (Fq B' R' vb w S off n tx) fun r hp1=>∃ S' off' n' zO,hp1 = Fq B' R' vb w S' off' n' zO /\ R r w S' off' n' zO:=by
 intro M0 w0 c M J W vs inv hn hr
 obtain ⟨a,b⟩:=hc M0 w0 c M J W vs (inv.Tv (B':=5128) (R':=5129) hne) hn (fun i x v hx hv=>by
   cases i with
   | zero=>obtain rfl:=Option.some.inj hx;exact Xu (hr 0 _ v rfl hv)
   | succ i=>exact hr (i + 1) x v hx hv)
 refine ⟨a,b.mono ?_⟩
 rintro e w' ⟨v,r,hp1,c',M',J',x1,⟨S',off',n',zO,rfl,x2⟩,x3,x4⟩
 exact ⟨v,r,_,c',M',J',x1,⟨S',off',n',zO,rfl,x2⟩,x3.Tv (by decide),x4⟩
namespace Ev
theorem aa6{G:Prop}(h:G:=by
 have hct:J ct = none:=by
   cases h:J ct with
   | none=>rfl
   | some L=>exact absurd (inv.vers ct L h) (Nat.lt_irrefl _)
 let J':bJ:=fun x=>if x = ct then some ⟨0,0,sz,true⟩ else J x
 have hJ:∀ q L,J q = some L -> J' q = some L:=by
   intro q L h
   show (if q = ct then _ else J q) = _
   rw [if_neg (by rintro rfl;rw [hct] at h;cases h)];exact h
 have hc:J' ct = some ⟨0,0,sz,true⟩:=if_pos rfl
 all_goals(rcases(⟨_⟩:PLift _)with⟨h⟩;exact h)):G:=h
theorem aco{G:Prop}(h:G:=by
 exact ⟨L,C,hJ _ _ h1,h2,h3.blk,h3.none,h3.size,h3.fits,h3.fH,h3.sz,h3.len,fun i e j c h h'=>by
   obtain ⟨u,u1,u2,u3⟩:=h3.cell i e j c h h'
   exact ⟨u,u1,u2,u3.mono (fun _ _ _ h=>h) hJ⟩,h3.cap⟩):G:=h
theorem ad5{G:Prop}(h:G:=by (refine ⟨⟨0,0,sz,true⟩,#[],hc,fun h=>Bool.noConfusion h,⟨fun h=>Bool.noConfusion h,fun _=>rfl,?_,Nat.le_refl _,Nat.le_refl _,rfl,fun i e h=>?_,fun i e j c h=>?_,Nat.zero_le _⟩⟩);all_goals(rcases(⟨_⟩:PLift _)with⟨h⟩;exact h)):G:=h
theorem aew{G:Prop}(h:G:=by
 have hold:∀ q k L,get hp q = some k -> J' k.ver = some L -> J k.ver = some L:=by
   intro q k L h hL
   obtain ⟨L1,C1,a1,_⟩:=inv.heap q k h
   rw [hJ _ _ a1] at hL;rw [a1,hL]
 all_goals(rcases(⟨_⟩:PLift _)with⟨h⟩;exact h)):G:=h
theorem afp{G:Prop}(h:G:=by
 have h:(if q = ct then some ⟨0,0,sz,true⟩ else J q) = some L:=h
 split at h
 all_goals(rcases(⟨_⟩:PLift _)with⟨h⟩;exact h)):G:=h
theorem af2{G:Prop}(h:G:=by
 obtain rfl:=Option.some.inj hk
 rw [hc] at hL;obtain rfl:=Option.some.inj hL;cases hN):G:=h
theorem agj{G:Prop}(h:G:=by
 obtain ⟨u,h1,h2⟩:=inv.slot t' x hx
 exact ⟨u,h1,h2.mono (fun _ _ _ h=>h) hJ⟩):G:=h
theorem abM {E:Env} {sl:List (Nat × AV)} {hp:List (Nat × aG)} {ct t r sz ty:Nat} (hg:get sl t = some nilA) (hr:get hp r = none) :
   Gh E ⟨sl,hp,ct⟩ ⟨(t,.own r ct 0 0) :: sl,(r,⟨sz,ty,ct,0,false,[]⟩) :: hp,ct + 8⟩:=by
 intro M0 w0 M J tm w inv
 obtain ⟨v,hv,hrel⟩:=inv.slot t _ hg
 refine' aa6
 have hback:∀ q L,J' q = some L -> L.nil = false -> J q = some L:=by
   intro q L h hN
   refine' afp
   · obtain rfl:=Option.some.inj h;cases hN
   · exact h
 refine' aew
 have hv':v = .slice none 0 0:=by
   cases hrel with
   | pure h=>cases h;rfl
 refine ⟨M,J',inv.below,inv.mem,inv.kH,inv.jV,inv.glob,?_,?_,?_,?_,?_,fun q L h=>hJ _ _ (inv.jF q L h),inv.far⟩
 · intro t' x hx
   rw [au] at hx
   split at hx
   · rename_i e
     obtain rfl:=Option.some.inj hx
     subst e;subst hv'
     exact ⟨_,hv,.own hc (Nat.le_refl _) (fun _=>rfl) (fun h=>by cases h) rfl⟩
   · refine' agj
 · intro q k hk
   rw [au] at hk
   split at hk
   · obtain rfl:=Option.some.inj hk
     refine' ad5
     · show 0 = 0 * sz;omega
     · cases h
     · cases h
   · obtain ⟨L,C,h1,h2,h3⟩:=inv.heap q k hk
     refine' aco
 · intro q q' k k' L L' hk hk' hL hL' hN hN' hne
   have f:∀ q k L,get ((r,(⟨sz,ty,ct,0,false,[]⟩:aG)) :: hp) q = some k -> J' k.ver = some L -> L.nil = false -> get hp q = some k /\ J k.ver = some L:=by
     intro q k L hk hL hN
     rw [au] at hk
     split at hk
     · refine' af2
     · exact ⟨hk,hold q k L hk hL⟩
   obtain ⟨a1,a2⟩:=f q k L hk hL hN
   obtain ⟨b1,b2⟩:=f q' k' L' hk' hL' hN'
   exact inv.apart q q' k k' L L' a1 b1 a2 b2 hN hN' hne
 · intro q k L o u hk hL hN hu
   rw [au] at hk
   split at hk
   · refine' af2
   · exact inv.owns q k L o u hk (hold q k L hk hL) hN hu
 · intro q L h
   refine' afp
   · rename_i e;subst e;show q < q + 8;omega
   · exact Nat.lt_of_lt_of_le (inv.vers q L h) (Nat.le_add_right ct 8)
theorem Xv {E:Env} {nt:Nat} (t r sz ty:Nat) {c:CC} {K:Exit -> St -> Prop} {sl:List (Nat × AV)} {hp:List (Nat × aG)} {ct:Nat} (hg:get sl t = some nilA) (hr:get hp r = none)
 (h:Wp E nt c K ⟨(t,.own r ct 0 0) :: sl,(r,⟨sz,ty,ct,0,false,[]⟩) :: hp,ct + 8⟩):Wp E nt c K ⟨sl,hp,ct⟩:=uK.ghost (abM hg hr) h
end Ev
namespace Ev
theorem Xw {E:Env} {sl:List (Nat × AV)} {hp:List (Nat × aG)} {ct q v0 TA r sz ty n0 j0:Nat} {cs:List AV} (hg:get hp q = some ⟨n0,TA,v0,0,true,[cs]⟩) (hn:cs[j0]? = some nilA) (hr:get hp r = none) :
   Gh E ⟨sl,hp,ct⟩ ⟨sl,(q,⟨n0,TA,v0,0,true,[cs.set j0 (.own r ct 0 0)]⟩) :: (r,⟨sz,ty,ct,0,false,[]⟩) :: hp,ct + 8⟩:=by
 intro M0 w0 M J tm w inv
 have hqr:q ≠ r:=by rintro rfl;rw [hr] at hg;cases hg
 refine' aa6
 refine' aew
 have hcase:∀ p k,get ((q,(⟨n0,TA,v0,0,true,[cs.set j0 (.own r ct 0 0)]⟩:aG)) :: (r,(⟨sz,ty,ct,0,false,[]⟩:aG)) :: hp) p = some k ->
     (p = q /\ k = ⟨n0,TA,v0,0,true,[cs.set j0 (.own r ct 0 0)]⟩) ∨ (p = r /\ k = ⟨sz,ty,ct,0,false,[]⟩) ∨ (p ≠ q /\ p ≠ r /\ get hp p = some k):=by
   intro p k hk
   rw [au] at hk
   split at hk
   · rename_i e;exact .inl ⟨e,(Option.some.inj hk).symm⟩
   · rename_i e
     rw [au] at hk
     split at hk
     · rename_i e2;exact .inr (.inl ⟨e2,(Option.some.inj hk).symm⟩)
     · rename_i e2;exact .inr (.inr ⟨e,e2,hk⟩)
 have f:∀ p k L,get ((q,(⟨n0,TA,v0,0,true,[cs.set j0 (.own r ct 0 0)]⟩:aG)) :: (r,(⟨sz,ty,ct,0,false,[]⟩:aG)) :: hp) p = some k -> J' k.ver = some L -> L.nil = false ->
     ∃ k0,get hp p = some k0 /\ J k0.ver = some L /\ k0.fH = k.fH /\ k0.sz = k.sz:=by
   intro p k L hk hL hN
   rcases hcase p k hk with ⟨rfl,rfl⟩ | ⟨rfl,rfl⟩ | ⟨_,_,h⟩
   · exact ⟨_,hg,hold _ _ L hg hL,rfl,rfl⟩
   · rw [hc] at hL;obtain rfl:=Option.some.inj hL;cases hN
   · exact ⟨k,h,hold p k L h hL,rfl,rfl⟩
 refine ⟨M,J',inv.below,inv.mem,inv.kH,inv.jV,inv.glob,?_,?_,?_,?_,?_,fun q L h=>hJ _ _ (inv.jF q L h),inv.far⟩
 · intro t' x hx
   refine' agj
 · intro p k hk
   rcases hcase p k hk with ⟨rfl,rfl⟩ | ⟨rfl,rfl⟩ | ⟨_,_,h⟩
   · obtain ⟨L,C,h1,h2,h3⟩:=inv.heap p _ hg
     refine ⟨L,C,hJ _ _ h1,h2,h3.blk,h3.none,h3.size,h3.fits,h3.fH,h3.sz,fun i e h=>?_,fun i e j c h h'=>?_,h3.cap⟩
     · cases i with
       | zero=>simp at h;subst h;rw [List.length_set];exact h3.len 0 cs rfl
       | succ i=>simp at h
     · cases i with
       | succ i=>simp at h
       | zero =>
         simp at h;subst h
         rw [List.getElem?_set] at h'
         split at h'
         · rename_i e
           subst e
           split at h'
           · obtain rfl:=Option.some.inj h'
             obtain ⟨u,u1,u2,u3⟩:=h3.cell 0 cs j0 nilA rfl hn
             refine ⟨u,u1,u2,?_⟩
             have u4:Rel M J nilA u:=u3.rel
             obtain rfl:=u4.bZ
             exact .own hc (Nat.le_refl _) (fun _=>rfl) (fun h=>by cases h) rfl
           · cases h'
         · obtain ⟨u,u1,u2,u3⟩:=h3.cell 0 cs j c rfl h'
           exact ⟨u,u1,u2,u3.mono (fun _ _ _ h=>h) hJ⟩
   · refine' ad5
     · show 0 = 0 * sz;omega
     · cases h
     · cases h
   · obtain ⟨L,C,h1,h2,h3⟩:=inv.heap p k h
     refine' aco
 · intro p p' k k' L L' hk hk' hL hL' hN hN' hne
   obtain ⟨k1,a1,a2,_⟩:=f p k L hk hL hN
   obtain ⟨k2,b1,b2,_⟩:=f p' k' L' hk' hL' hN'
   exact inv.apart p p' k1 k2 L L' a1 b1 a2 b2 hN hN' hne
 · intro p k L o u hk hL hN hu
   obtain ⟨k1,a1,a2,a3,a4⟩:=f p k L hk hL hN
   have:=inv.owns p k1 L o u a1 a2 hN hu
   rw [a3,a4] at this;exact this
 · intro q L h
   refine' afp
   · rename_i e;subst e;show q < q + 8;omega
   · exact Nat.lt_of_lt_of_le (inv.vers q L h) (Nat.le_add_right ct 8)
theorem xI {E:Env} {nt:Nat} (q r sz ty j0:Nat) {c:CC} {K:Exit -> St -> Prop} {sl:List (Nat × AV)} {hp:List (Nat × aG)} {ct v0 TA n0:Nat} {cs:List AV} (hg:get hp q = some ⟨n0,TA,v0,0,true,[cs]⟩) (hn:cs[j0]? = some nilA) (hr:get hp r = none)
 (h:Wp E nt c K ⟨sl,(q,⟨n0,TA,v0,0,true,[cs.set j0 (.own r ct 0 0)]⟩) :: (r,⟨sz,ty,ct,0,false,[]⟩) :: hp,ct + 8⟩):Wp E nt c K ⟨sl,hp,ct⟩:=uK.ghost (Xw hg hn hr) h
end Ev
structure CI (C:List Sp) (k:Nat) (x y out:List Sp):Prop where
 len:x.length + y.length <= k
 ax:bf x
 ay:bf y
 fx:Ir x
 fy:Ir y
 ho:dF (iC x) = dY (iC y)
 eq:out ++ kK k x y = C
 bl:out.length + (x.length + y.length) <= 20000000
 bt:bT x + bT y <= 1000000000
theorem CI.fin {C:List Sp} {k:Nat} {out:List Sp} (h:CI C k [] [] out):out = C:=by
 have:=h.eq
 cases k <;> simpa [kK] using this
theorem CI.vk {C:List Sp} {k:Nat} {v:Sp} {y out:List Sp} (h:CI C k [] (v :: y) out):v.k = 2:=by
 have ho:=h.ho
 rw [aQ,eP,gX] at ho
 simp only [dF] at ho
 refine Decidable.byContradiction fun hk=>?_
 have h1:=(jE h.ay.head).1
 have h2:=xG h.ay.head (h.fy v (by simp))
 rw [fP hk] at h2
 rcases jq h.ay.head with ⟨a,_⟩ | ⟨a,b,c,d⟩
 · exact hk a
 · omega
theorem CI.uk {C:List Sp} {k:Nat} {u:Sp} {x out:List Sp} (h:CI C k (u :: x) [] out):u.k = 3:=by
 have ho:=h.ho
 rw [aQ,fZ,gX] at ho
 simp only [dY] at ho
 have h2:=xG h.ax.head (h.fx u (by simp))
 have h3:=kV h.ax.head
 refine Decidable.byContradiction fun hk=>?_
 have h4:=iJ h.ax.head (Nat.le_refl (dS u))
 rw [List.take_of_length_le (by omega)] at h4
 rcases h4 with ⟨_,e⟩ | ⟨a,_⟩ | ⟨_,l,e1,e2⟩
 · rw [e] at ho;have:=(je (dS u)).2;omega
 · exact hk a
 · rw [e2] at ho;have:=(ou l).2;omega
theorem aau{G:Prop}(h:G:=by (obtain ⟨k',rfl⟩:∃ k',k = k' + 1:=⟨k - 1,by omega⟩);all_goals(rcases(⟨_⟩:PLift _)with⟨h⟩;exact h)):G:=h
theorem ab3{G:Prop}(h:G:=by
 have hl:=h.len
 simp only [List.length_cons] at hl
 refine' aau
 have ho:=h.ho
 have hb:=h.bt
 have hbl:=h.bl
 all_goals(rcases(⟨_⟩:PLift _)with⟨h⟩;exact h)):G:=h
theorem CI.s1 {C:List Sp} {k:Nat} {v:Sp} {x y out:List Sp} (h:CI C k x (v :: y) out) (hv:v.k = 2):∃ k',k = k' + 1 /\ CI C k' x y (out ++ [v]):=by
 refine' ab3
 have hv0:=yS hv
 rw [aQ v,eP] at ho
 rw [aN v] at hb
 simp only [List.length_cons] at hbl
 refine ⟨k',rfl,by omega,h.ax,h.ay.tail,h.fx,h.fy.tail,by omega,?_,by simp;omega,by omega⟩
 rw [<- h.eq]
 cases x with
 | nil=>simp only [kK];rw [if_pos hv];simp
 | cons u x=>simp only [kK];rw [if_pos hv];simp
theorem CI.s2 {C:List Sp} {k:Nat} {u:Sp} {x y out:List Sp} (h:CI C k (u :: x) y out) (hu:u.k = 3) (hv:∀ v ∈ y.head?,v.k ≠ 2):∃ k',k = k' + 1 /\ CI C k' x y (out ++ [u]):=by
 refine' ab3
 have hu0:=Hz hu
 rw [aQ u,fZ] at ho
 rw [aN u] at hb
 simp only [List.length_cons] at hbl
 refine ⟨k',rfl,by omega,h.ax.tail,h.ay,h.fx.tail,h.fy,by omega,?_,by simp;omega,by omega⟩
 rw [<- h.eq]
 cases y with
 | nil=>simp only [kK];simp
 | cons v y=>simp only [kK];rw [if_neg (hv v (by simp)),if_pos hu];simp
theorem aa7{G:Prop}(h:G:=by
 simp only [List.length_cons] at hbl
 obtain ⟨a1,a2,a3,a4,a5⟩:=nG hx.head hx.tail hn1
 obtain ⟨b1,b2,b3,b4,b5⟩:=nG hy.head hy.tail hn2
 have mx:=lY hx.head hx.tail hn1
 have my:=lY hy.head hy.tail hn2
 have hlen:(aS u n x).length + (aS v n y).length <= x.length + y.length + 1:=by
   rcases hone with h | h
   · have:=a4 h;omega
   · have:=b4 h;omega
 all_goals(rcases(⟨_⟩:PLift _)with⟨h⟩;exact h)):G:=h
theorem ac6{G:Prop}(h:G:=by
 have hl:=h.len
 simp only [List.length_cons] at hl
 refine' aau
 have hn1:n <= dS u:=by omega
 have hn2:n <= dS v:=by omega
 have hone:dS u = n ∨ dS v = n:=by omega
 have hx:=h.ax
 have hy:=h.ay
 have ho:=h.ho
 have hb:=h.bt
 all_goals(rcases(⟨_⟩:PLift _)with⟨h⟩;exact h)):G:=h
theorem CI.s3 {C:List Sp} {k n:Nat} {u v:Sp} {x y out:List Sp} (h:CI C k (u :: x) (v :: y) out) (hv2:v.k ≠ 2) (hu3:u.k ≠ 3) (hn:min (dS u) (dS v) = n) :
   n <= dS u /\ n <= dS v /\ ∃ k',k = k' + 1 /\ CI C k' (aS u n x) (aS v n y) (out ++ if v.k = 1 then [dJ u n] else if u.k = 1 then [dJ v n] else []):=by
 refine' ac6
 have hbl:=h.bl
 refine' aa7
 have hom:dF ((nD u).take n) = n /\ dY ((nD v).take n) = n:=by
   refine ⟨?_,?_⟩
   · rcases iJ hx.head hn1 with ⟨_,e⟩ | ⟨e,_⟩ | ⟨_,l,e1,e2⟩
     · rw [e];exact (je n).2
     · exact absurd e hu3
     · rw [e2,<- e1];exact (ou l).2
   · rcases iJ hy.head hn2 with ⟨_,e⟩ | ⟨_,e⟩ | ⟨e,_⟩
     · rw [e];exact (je n).1
     · rw [e];exact (kD n).1
     · exact absurd e hv2
 rw [mx,my,fZ,eP] at ho
 rw [aN,aN v] at hb
 refine ⟨hn1,hn2,k',rfl,by omega,a1,b1,jR hx.head h.fx.tail hn1,jR hy.head h.fy.tail hn2,by omega,?_,?_,by omega⟩
 · rw [<- h.eq]
   simp only [kK]
   rw [if_neg hv2,if_neg hu3,hn,List.append_assoc]
 · have:(if v.k = 1 then [dJ u n] else if u.k = 1 then [dJ v n] else []).length <= 1:=by split <;> (try split) <;> simp
   rw [List.length_append];omega
theorem xJ {s:Sp} (h:bM s):dJ s (dS s) = s:=by
 rcases h.cases with ⟨a,b,c,d⟩ | ⟨a,b,c⟩
 · rw [sJ _ (by omega),fP (by omega)]
   obtain ⟨k,n,t⟩:=s
   simp only at b d ⊢
   subst d
   have:((n.toNat:Nat):Int) = n:=by omega
   rw [this]
 · have e:dJ s (dS s) = ⟨2,0,txt ((pts s.t.data.toList).take (dS s))⟩:=if_pos a
   rw [e,ug a,List.take_length,qN c]
   obtain ⟨k,n,t⟩:=s
   simp only at a b ⊢
   subst a;subst b;rfl
theorem jS (s:Sp) (l:List Sp):aS s (dS s) l = l:=if_pos rfl
structure OI (C:List Sp) (k:Nat) (x y out:List Sp):Prop where
 len:x.length + y.length <= k
 ax:bf x
 ay:bf y
 fx:Ir x
 fy:Ir y
 ho:dY (iC x) = dY (iC y)
 hb:dF (iC y) <= 1048576
 eq:out ++ kL k x y = C
 bl:out.length + (x.length + y.length) <= 20000000
 bt:bT x + bT y <= 1000000000
theorem OI.fin {C:List Sp} {k:Nat} {out:List Sp} (h:OI C k [] [] out):out = C:=by
 have:=h.eq
 cases k <;> simpa [kL] using this
theorem TB {v:Sp} {l:List Sp} (hv:bM v) (hf:emptyS v = false) (h:dY (iC (v :: l)) = 0):v.k = 2:=by
 rw [aQ,eP] at h
 refine Decidable.byContradiction fun hk=>?_
 have h1:=(jE hv).1
 have h2:=xG hv hf
 rw [fP hk] at h2
 rcases jq hv with ⟨a,_⟩ | ⟨a,b,c,d⟩
 · exact hk a
 · omega
theorem OI.vk {C:List Sp} {k:Nat} {v:Sp} {y out:List Sp} (h:OI C k [] (v :: y) out):v.k = 2 :=
 TB (l:=y) h.ay.head (h.fy v (by simp)) (by have:=h.ho;rw [gX] at this;simp only [dY] at this;omega)
theorem OI.uk {C:List Sp} {k:Nat} {u:Sp} {x out:List Sp} (h:OI C k (u :: x) [] out):u.k = 2 :=
 TB (l:=x) h.ax.head (h.fx u (by simp)) (by have:=h.ho;rw [gX] at this;simp only [dY] at this;omega)
theorem OI.s1 {C:List Sp} {k:Nat} {v:Sp} {x y out:List Sp} (h:OI C k x (v :: y) out) (hv:v.k = 2):∃ k',k = k' + 1 /\ OI C k' x y (out ++ [UG v]):=by
 refine' ab3
 have hq:=h.hb
 have hv0:=yS hv
 rw [aQ v,eP] at ho
 rw [aQ v,fZ] at hq
 rw [aN v] at hb
 simp only [List.length_cons] at hbl
 refine ⟨k',rfl,by omega,h.ax,h.ay.tail,h.fx,h.fy.tail,by omega,by omega,?_,by simp;omega,by omega⟩
 rw [<- h.eq]
 cases x with
 | nil=>simp only [kL];rw [if_pos hv];simp
 | cons u x=>simp only [kL];rw [if_pos hv];simp
theorem OI.s2 {C:List Sp} {k:Nat} {u:Sp} {x y out:List Sp} (h:OI C k (u :: x) y out) (hu:u.k = 2) (hv:∀ v ∈ y.head?,v.k ≠ 2):∃ k',k = k' + 1 /\ OI C k' x y (out ++ [u]):=by
 refine' ab3
 have hu0:=yS hu
 rw [aQ u,eP] at ho
 rw [aN u] at hb
 simp only [List.length_cons] at hbl
 refine ⟨k',rfl,by omega,h.ax.tail,h.ay,h.fx.tail,h.fy,by omega,h.hb,?_,by simp;omega,by omega⟩
 rw [<- h.eq]
 cases y with
 | nil=>simp only [kL];simp
 | cons v y=>simp only [kL];rw [if_neg (hv v (by simp)),if_pos hu];simp
theorem OI.s3 {C:List Sp} {k n:Nat} {u v:Sp} {x y out:List Sp} (h:OI C k (u :: x) (v :: y) out) (hv2:v.k ≠ 2) (hu2:u.k ≠ 2) (hn:min (dS u) (dS v) = n) :
   n <= dS u /\ n <= dS v /\ ∃ k',k = k' + 1 /\ OI C k' (aS u n x) (aS v n y) (out ++ if v.k = 1 then [dJ u n] else []):=by
 refine' ac6
 have hbl:=h.bl
 have hq:=h.hb
 refine' aa7
 have one:∀ {s:Sp},bM s -> s.k ≠ 2 -> n <= dS s -> dY ((nD s).take n) = n:=by
   intro s hs hk hn
   rcases iJ hs hn with ⟨_,e⟩ | ⟨_,e⟩ | ⟨e,_⟩
   · rw [e];exact (je n).1
   · rw [e];exact (kD n).1
   · exact absurd e hk
 have o1:=one hx.head hu2 hn1
 have o2:=one hy.head hv2 hn2
 rw [mx,my,eP,eP] at ho
 rw [my,fZ] at hq
 rw [aN,aN v] at hb
 refine ⟨hn1,hn2,k',rfl,by omega,a1,b1,jR hx.head h.fx.tail hn1,jR hy.head h.fy.tail hn2,by omega,by omega,?_,?_,by omega⟩
 · rw [<- h.eq]
   simp only [kL]
   rw [if_neg hv2,if_neg hu2,hn,List.append_assoc]
 · have:(if v.k = 1 then [dJ u n] else []).length <= 1:=by split <;> simp
   rw [List.length_append];omega
theorem rdX {N nm ct:Nat} {hp:List (Nat × aG)} {K:AV -> List (Nat × aG) -> Nat -> Prop} {f:FuncId} {args:List AV} (B R:Nat) (F:List (Nat × aG)) {va wa:Nat} {S:List Sp} {off n:Nat} {tx:AV} {P:AV -> Nat -> List Sp -> Nat -> Nat -> AV -> Prop} (hne:B ≠ R)
   (hc:dn env N f (.ptr 5128 va 0 0 :: args) (O9 va wa S off n tx) fun r hp1=>∃ S' off' n' zO,hp1 = O9 va wa S' off' n' zO /\ P r wa S' off' n' zO)
   (hs:subs hp (Fq B R va wa S off n tx)) (hF:subs hp F) (hB:get F B = none) (hR:get F R = none)
   (hk:∀ r S' off' n' zO,P r wa S' off' n' zO -> ∀ c',ct + 8 <= c' -> K r (Fq B R va wa S' off' n' zO ++ F) c'):Ev.dK env nm f (.ptr B va 0 0 :: args) hp ct K:=by
 have out:∀ (S:List Sp) (off n:Nat) (tx:AV) (r:Nat),get (Fq B R va wa S off n tx) r ≠ none -> get F r = none:=by
   intro S off n tx r h
   cases hg:get (Fq B R va wa S off n tx) r with
   | none=>exact absurd hg h
   | some k=>rcases xH hg with ⟨rfl,_⟩ | ⟨rfl,_⟩ <;> assumption
 refine Ev.sO F (Tz B R hne hc) rfl hs hF (out S off n tx) ?_
 rintro r hp1 ⟨S',off',n',zO,rfl,h⟩
 exact ⟨out S' off' n' zO,hk r S' off' n' zO h⟩
theorem Fz {vb w:Nat} {E:List Sp} {off n:Nat} {tx:AV}:subs (O9 vb w E off n tx) (O9 vb w E off n tx):=⟨Ev.ah rfl rfl,Ev.ah rfl rfl,trivial⟩
theorem qU {nm ct:Nat} {hp:List (Nat × aG)} {K:AV -> List (Nat × aG) -> Nat -> Prop} (B R:Nat) (F:List (Nat × aG)) {va wa:Nat} {x S:List Sp} {off:Nat} (h:Iu x S off) (hne:B ≠ R)
   (hs:subs hp (Fq B R va wa S off x.length (zN x))) (hF:subs hp F) (hB:get F B = none) (hR:get F R = none)
   (hk:∀ c',ct + 8 <= c' -> K (.v (.int .i64 (Tt x))) (Fq B R va wa S off x.length (zN x) ++ F) c'):Ev.dK env nm 154 [.ptr B va 0 0] hp ct K:=by
 refine rdX (P:=fun r w S' off' n' zO=>r = .v (.int .i64 (Tt x)) /\ S' = S /\ off' = off /\ n' = x.length /\ zO = zN x) B R F hne (iQ (H7 va wa h) ?_) hs hF hB hR ?_
 · rintro r hp1 ⟨rfl,rfl⟩
   exact ⟨_,⟨S,off,_,_,rfl,rfl,rfl,rfl,rfl,rfl⟩,Fz⟩
 · rintro r S' off' n' zO ⟨rfl,rfl,rfl,rfl,rfl⟩
   exact hk
theorem Ed {nm ct:Nat} {hp:List (Nat × aG)} {K:AV -> List (Nat × aG) -> Nat -> Prop} (B R:Nat) (F:List (Nat × aG)) {va wa:Nat} {s:Sp} {l S:List Sp} {off:Nat} (h:Iu (s :: l) S off) (hok:bM s) (ht:s.t.size <= 1000000000) (hne:B ≠ R)
   (hs:subs hp (Fq B R va wa S off (l.length + 1) (zN (s :: l)))) (hF:subs hp F) (hB:get F B = none) (hR:get F R = none)
   (hk:∀ c',ct + 8 <= c' -> K (.v (.int .i64 (dS s))) (Fq B R va wa S off (l.length + 1) (zN (s :: l)) ++ F) c'):Ev.dK env nm 156 [.ptr B va 0 0] hp ct K:=by
 refine rdX (P:=fun r w S' off' n' zO=>r = .v (.int .i64 (dS s)) /\ S' = S /\ off' = off /\ n' = l.length + 1 /\ zO = zN (s :: l)) B R F hne (iQ (H8 va wa h hok ht) ?_) hs hF hB hR ?_
 · rintro r hp1 ⟨rfl,rfl⟩
   exact ⟨_,⟨S,off,_,_,rfl,rfl,rfl,rfl,rfl,rfl⟩,Fz⟩
 · rintro r S' off' n' zO ⟨rfl,rfl,rfl,rfl,rfl⟩
   exact hk
theorem Ee {nm ct m:Nat} {mi:Int} {hp:List (Nat × aG)} {K:AV -> List (Nat × aG) -> Nat -> Prop} (B R:Nat) (F:List (Nat × aG)) {va wa:Nat} {s:Sp} {l S:List Sp} {off:Nat} (h:Iu (s :: l) S off) (hok:bM s) (ht:bT (s :: l) <= 1000000000) (hm:m <= dS s) (hmi:mi = (m:Int)) (hne:B ≠ R)
   (hs:subs hp (Fq B R va wa S off (l.length + 1) (zN (s :: l)))) (hF:subs hp F) (hB:get F B = none) (hR:get F R = none)
   (hk:∀ S' off',Iu (aS s m l) S' off' -> ∀ c',ct + 8 <= c' -> K (lH (dJ s m).k (dJ s m).n (dJ s m).t) (Fq B R va wa S' off' (aS s m l).length (zN (aS s m l)) ++ F) c'):Ev.dK env nm 155 [.ptr B va 0 0,.v (.int .i64 mi)] hp ct K:=by
 subst hmi
 refine rdX (P:=fun r w S' off' n' zO=>r = lH (dJ s m).k (dJ s m).n (dJ s m).t /\ Iu (aS s m l) S' off' /\ n' = (aS s m l).length /\ zO = zN (aS s m l)) B R F hne (iQ (H9 va wa h hok ht hm) ?_) hs hF hB hR ?_
 · rintro r hp1 ⟨E',off',rfl,rfl,hR'⟩
   exact ⟨_,⟨E',off',_,_,rfl,rfl,hR',rfl,rfl⟩,Fz⟩
 · rintro r S' off' n' zO ⟨rfl,hR',rfl,rfl⟩
   exact hk S' off' hR'
end Go.Proofs.YtadlnaljicikfaaDoor.aI
namespace Go.Proofs.YtadlnaljicikfaaDoor.aI
open Go
set_option maxRecDepth 100000
attribute [local irreducible] Ev.iH Ev.iR Ev.bY Ev.runK Ev.cu Ev.gK Ev.Side Ev.Wp Ev.Again Ev.To Ev.Fin
open Go.Lib Go.RowKit
theorem LD:∀ c,Tryd.f113.body = some c -> comp c = (.seq (.reg 0 [I.n 0 4 I.sn,I.n 1 5 (I.si 0)]) (.scope (.seq (.seq (.reg 1 [I.n 0 15 (I.mv 0),I.n 1 16 (I.mv 1),I.n 2 17 (.buildSlice 22 2 #[(0,.tmp 15),(1,.tmp 16)]),I.n 3 18 (I.ln 17 22),I.n 4 19 (.move (.const (Value.int .i64 0)))]) (.block 0 (.loop (.seq (.reg 2 [I.n 0 20 (I.bo .lss 3 19 18 3)]) (.seq (.cond (.tmp 20) .skip (.exit 0)) (.seq (.block 1 (.seq (.reg 3 [I.n 0 21 (I.ia 22 17 19),I.n 1 22 (I.ld 23 21),I.n 2 7 (I.sa 22)]) (.seq (.reg 4 [I.n 0 23 (I.mv 7),I.n 1 24 (I.c1 72 23 23),I.n 2 8 (I.sa 24)]) (.seq (.reg 5 [I.n 0 25 (I.mv 8),I.n 1 26 (I.bc .neq 30 25 0 30)]) (.cond (.tmp 26) (.seq (.reg 6 [I.n 0 27 (I.mv 8),I.n 1 4 I.sn,I.n 2 5 (I.sa 27)]) .ret) .skip))))) (.reg 7 [I.n 0 28 (I.bc .add 3 19 1 3),I.n 1 19 (I.mv 28)]))))))) (.seq (.seq (.reg 8 [I.n 0 29 (I.mv 0),I.n 1 30 (I.c1 73 29 23),I.n 2 31 (I.mv 1),I.n 3 32 (I.c1 74 31 23),I.n 4 33 (I.bo .neq 3 30 32 3)]) (.cond (.tmp 33) (.seq (.reg 9 [I.n 0 4 I.sn,I.n 1 5 (I.si 5)]) .ret) .skip)) (.seq (.reg 10 [I.n 0 34 (I.mv 0),I.n 1 35 (I.c1 153 34 23),I.n 2 36 (I.mv 1),I.n 3 37 (I.c1 153 36 23),I.n 4 9 (I.sa 35),I.n 5 10 (I.sa 37)]) (.seq (.reg 11 [I.n 0 11 I.sn]) (.seq (.label 0) (.seq (.block 2 (.loop (.block 3 (.seq (.block 4 (.seq (.reg 12 [I.n 0 39 (I.mv 10),I.n 1 40 (I.c1 154 39 164),I.n 2 41 (I.bc .eql 3 40 2 3),I.n 3 38 (I.sa 41)]) (.cond (.tmp 38) (.seq (.reg 13 [I.n 0 42 (I.mv 11),I.n 1 43 (I.mv 10),I.n 2 44 (I.mv 10),I.n 3 45 (I.c1 156 44 164),I.n 4 46 (I.c2 155 43 45 164 3),I.n 5 47 (I.b1 23 46),I.n 6 48 (I.ap 42 47 23 23),I.n 7 11 (I.sa 48)]) (.exit 3)) (.seq (.reg 14 [I.n 0 50 (I.mv 9),I.n 1 51 (I.c1 154 50 164),I.n 2 52 (I.bc .eql 3 51 3 3),I.n 3 49 (I.sa 52)]) (.cond (.tmp 49) (.seq (.reg 15 [I.n 0 53 (I.mv 11),I.n 1 54 (I.mv 9),I.n 2 55 (I.mv 9),I.n 3 56 (I.c1 156 55 164),I.n 4 57 (I.c2 155 54 56 164 3),I.n 5 58 (I.b1 23 57),I.n 6 59 (I.ap 53 58 23 23),I.n 7 11 (I.sa 59)]) (.exit 3)) (.seq (.reg 16 [I.n 0 61 (I.mv 9),I.n 1 62 (I.c1 154 61 164),I.n 2 63 (I.bc .eql 3 62 0 3),I.n 3 64 (I.mv 63),I.w 4 65 (I.mv 10) 64 false,I.w 5 66 (I.c1 154 65 164) 64 false,I.w 6 67 (I.bc .eql 3 66 0 3) 64 false,I.n 7 68 (I.pb 64 true 67),I.n 8 60 (I.sa 68)]) (.cond (.tmp 60) (.exit 2) .skip))))))) (.seq (.reg 17 [I.n 0 69 (I.mv 9),I.n 1 70 (I.c1 156 69 164),I.n 2 71 (I.mv 10),I.n 3 72 (I.c1 156 71 164),I.n 4 73 (.call { callee:=.builtin .min,args:=#[.tmp 70,.tmp 72],argTypes:=#[3,3] }),I.n 5 12 (I.sa 73)]) (.seq (.reg 18 [I.n 0 74 (I.mv 9),I.n 1 75 (I.mv 12),I.n 2 76 (I.c2 155 74 75 164 3),I.n 3 77 (I.mv 10),I.n 4 78 (I.mv 12),I.n 5 79 (I.c2 155 77 78 164 3),I.n 6 13 (.alloc 35),I.n 7 14 (.alloc 35),I.u 8 (I.st 35 13 76),I.u 9 (I.st 35 14 79)]) (.block 5 (.seq (.reg 19 [I.n 0 81 (I.fa 35 14 0),I.n 1 82 (I.ld 3 81),I.n 2 83 (I.bc .eql 3 82 1 3),I.n 3 80 (I.sa 83)]) (.cond (.tmp 80) (.reg 20 [I.n 0 84 (I.mv 11),I.n 1 85 (I.ld 35 13),I.n 2 86 (I.b1 23 85),I.n 3 87 (I.ap 84 86 23 23),I.n 4 11 (I.sa 87)]) (.seq (.reg 21 [I.n 0 89 (I.fa 35 13 0),I.n 1 90 (I.ld 3 89),I.n 2 91 (I.bc .eql 3 90 1 3),I.n 3 88 (I.sa 91)]) (.cond (.tmp 88) (.reg 22 [I.n 0 92 (I.mv 11),I.n 1 93 (I.ld 35 14),I.n 2 94 (I.b1 23 93),I.n 3 95 (I.ap 92 94 23 23),I.n 4 11 (I.sa 95)]) .skip))))))))))) (.seq (.reg 23 [I.n 0 96 (I.mv 11),I.n 1 97 (I.c1 35 96 23),I.n 2 4 (I.sa 97),I.n 3 5 (I.si 0)]) .ret))))))))):=by
 intro c h
 have:c = Tryd.f113.body.get rfl:=by rw [<- Option.some_inj,<- h];rfl
 rw [this];rfl
theorem lq:∀ l:List Sp,bf l -> 0 <= aY dO l /\ aY dO l <= aY dZ l + bT l
 | [],_=>by simp [aY,bT]
 | s :: l,h=>by
   obtain ⟨i1,i2⟩:=lq l h.tail
   rw [bV,bV,aN]
   have e:=jE h.head
   have e3:=h.head.dZ
   have hp:=oq s.t.data.toList
   rw [bD] at hp
   have:0 <= dO s /\ dO s <= dZ s + s.t.size:=by
     rw [<- e.2]
     rcases h.head.cases with ⟨a | a,b,c,d⟩ | ⟨a,b,c⟩
     · rw [dX a] at e ⊢;have:=(je s.n.toNat).2;have:=(je s.n.toNat).1;omega
     · rw [dQ a];have:=(kD s.n.toNat).2;omega
     · rw [dI a];have:=(ou (pts s.t.data.toList)).2;omega
   omega
theorem uh (l:List Sp) (nm ver:Nat):shift nm ver (zN l) = zN l:=by cases l <;> rfl
set_option maxHeartbeats 4000000 in
theorem abN (a b:List Sp) (la:a.length <= 10000000) (lb:b.length <= 10000000) (ta:bT a <= 100000000) (tb:bT b <= 100000000) (sa:Small a) (sb:Small b) (ma:aC a = 0) (mb:aC b = 0)
    (ho:sumW (fun s=>kQ s.k s.n s.t) a = sumW (fun s=>kN s.k s.n) b):aO env 113 [.lst 3 (aT a),.lst 3 (aT b)] (fun r hs=>r = .dM [.lst 3 (aT (kF a b)),.v (.int .i64 0)] /\ hs = []):=by
  have hA:=dL a (by omega) sa
  have hB:=dL b (by omega) sb
  rw [ma] at hA
  rw [mb] at hB
  have hO:=mY a (by omega) sa
  have hIn:=fF b (by omega)
  have oa:=(oM.of ma (by omega)).1
  have ob:=(oM.of mb (by omega)).1
  have na:=oa.norm
  have nb:=ob.norm
  have ho':aY dO a = aY dZ b:=by
    have h1:=(oM.of mb (by omega)).2
    have h2:=ku a
    have h3:=lq a oa.all
    have h4:=oa.bnd
    rw [bg (by omega)] at h2
    rw [<- h2,<- h1];exact ho
  have hco:=sN oa ob ho'
  have hmm:dF (iC (norm a)) = dY (iC (norm b)):=by
    have e1:=bU oa.all
    have e2:=bU ob.all
    rw [na.2.2.1,nb.2.2.1];omega
  refine Ev.fn [0,1,4,5,7,8,9,10,11,12,13,14,17,18,19,20,26,33,38,49,60,80,88] 0 [.tmp 4,.tmp 5] Tryd.func113 (LD _ rfl) ?_
  refine' Ev.zW
  refine Ev.jumps (r:=?_) 0 (fun k s=>False) (by rfl) ?_ (fun _ _ h=>h.elim)
  repeat' (first | refine' Ev.zP | (with_reducible refine Ev.join (a:=.reg 11 _) (fun s=>∃ (c va wa vb wb:Nat) (S T:List Sp),s = ⟨[(9,.ptr 5128 va 0 0),(10,.ptr 5144 vb 0 0),(11,nilA)],Fq 5128 5129 va wa S 0 (norm a).length (zN (norm a)) ++ Fq 5144 5145 vb wb T 0 (norm b).length (zN (norm b)),c⟩ /\ Iu (norm a) S 0 /\ Iu (norm b) T 0) ?_ ?_) | refine' Ev.zS | refine' Ev.zK | (with_reducible refine Ev.qH 3 ?_) | ((with_reducible refine Ev.ca0 ?_);(first | refine Ev.ca (hA) ?_ | refine Ev.ca (hB) ?_ | refine Ev.ca (hO) ?_ | refine Ev.ca (hIn) ?_);conv=>whnf) | ((((with_reducible refine Ev.ca0 ?_);refine ⟨(sQ a (by omega) (by omega) (by omega)).mono ?_⟩;rintro _ _ ⟨S,rfl,rfl,hS⟩;refine ⟨Nat.le_of_ble_eq_true rfl,⟨rfl,rfl,trivial⟩,?_⟩;conv=>whnf));conv=>whnf) | ((((with_reducible refine Ev.ca0 ?_);refine ⟨(sQ b (by omega) (by omega) (by omega)).mono ?_⟩;rintro _ _ ⟨T,rfl,rfl,hT⟩;refine ⟨Nat.le_of_ble_eq_true rfl,⟨rfl,rfl,trivial⟩,?_⟩;conv=>whnf));conv=>whnf) | refine' Ev.zT | fail)
  · refine Ev.zB ⟨?_,8,9,10,11,S,T,rfl,?_⟩ (by refine' Ev.zp <;> first | (first | exact congrArg (fun t=>aG.mk 2 182 8 0 true [[AV.own 5129 9 0 (norm a).length,t]]) (uh (norm a) 5128 8) | exact congrArg (fun t=>aG.mk 2 182 10 0 true [[AV.own 5145 11 0 (norm b).length,t]]) (uh (norm b) 5144 10) | rfl) | rfl | (refine' Ev.ze;(first | exact congrArg (fun t=>aG.mk 2 182 8 0 true [[AV.own 5129 9 0 (norm a).length,t]]) (uh (norm a) 5128 8) | exact congrArg (fun t=>aG.mk 2 182 10 0 true [[AV.own 5145 11 0 (norm b).length,t]]) (uh (norm b) 5144 10) | rfl)) | fail)
    exact ⟨hS,hT⟩
  · rintro s1 ⟨c,va,wa,vb,wb,S,T,rfl,hS,hT⟩
    obtain ⟨C,hC⟩:∃ C,C = kK ((norm a).length + (norm b).length) (norm a) (norm b):=⟨_,rfl⟩
    have hcC:aI.norm C = kF a b:=by rw [hC];exact hco.2.2.2.2.1
    have hcL:C.length <= 20000000 /\ bT C <= 200000000:=by
      have h1:=hco.2.2.2.2.2.2.2.1
      have h2:=hco.2.2.2.2.2.2.2.2.1
      rw [hC];omega
    refine Ev.Xv 11 9000 3 35 rfl rfl ?_
    refine' Ev.zW
    refine Ev.loop (fun k s=>∃ (c va wa vb wb v:Nat) (S T:List Sp) (off oft:Nat) (x y out:List Sp),s = ⟨[(9,.ptr 5128 va 0 0),(10,.ptr 5144 vb 0 0),(11,.own 9000 v 0 out.length)],[(5128,⟨2,182,va,0,true,[[.own 5129 wa off x.length,zN x]]⟩),(5129,⟨3,35,wa,0,false,aT S⟩),(5144,⟨2,182,vb,0,true,[[.own 5145 wb oft y.length,zN y]]⟩),(5145,⟨3,35,wb,0,false,aT T⟩),(9000,⟨3,35,v,0,false,aT out⟩)],c⟩ /\ Iu x S off /\ Iu y T oft /\ CI C k x y out) ?_ ?_
    · refine Ev.zB ⟨(norm a).length + (norm b).length,?_,?_,?_,?_,?_,?_,S,T,0,0,norm a,norm b,[],rfl,?_⟩
      exact ⟨hS,hT,by omega,na.1.all,nb.1.all,na.2.2.2.2.2.2.2,nb.2.2.2.2.2.2.2,hmm,by rw [hC];rfl,by simp;omega,by omega⟩
    rintro k s1 ⟨c,va,wa,vb,wb,v,S,T,off,oft,x,y,out,rfl,hS,hT,hI⟩
    have hol:=aV out
    have hbl:=hI.bl
    rcases x with _ | ⟨u,x⟩ <;> rcases y with _ | ⟨w,y⟩ <;> simp only [List.length_cons,List.length_nil] at hbl
    · have hout:=hI.fin
      subst hout
      repeat' (first | refine' Ev.zP | refine' Ev.zS | ((with_reducible refine Ev.kr (hs:=[154,156,155]) (fun Q hQ=>?_));refine' Ev.zR) | ((((with_reducible refine Ev.gI ?_);refine qU 5128 5129 [(5144,_),(5145,_),(9000,_)] hS (by decide) ⟨Ev.ah rfl rfl,Ev.ah rfl rfl,trivial⟩ ⟨Ev.ah rfl rfl,Ev.ah rfl rfl,Ev.ah rfl rfl,trivial⟩ rfl rfl (fun c' _=>?_);conv=>whnf));conv=>whnf) | ((((with_reducible refine Ev.gI ?_);refine qU 5144 5145 [(5128,_),(5129,_),(9000,_)] hT (by decide) ⟨Ev.ah rfl rfl,Ev.ah rfl rfl,trivial⟩ ⟨Ev.ah rfl rfl,Ev.ah rfl rfl,Ev.ah rfl rfl,trivial⟩ rfl rfl (fun c' _=>?_);conv=>whnf));conv=>whnf) | ((with_reducible refine Ev.ca0 ?_);(first | refine Ev.aU (sG out (by omega) (by omega)) rfl rfl ?_ | refine Ev.ca (sG out (by omega) (by omega)) ?_);conv=>whnf) | refine' Ev.zT | fail)
      exact ⟨by rw [hcC];rfl,rfl⟩
    · have hk:Tt (w :: y) = 2:=hI.vk
      have Ia:bT (w :: y) <= 1000000000:=by have:=hI.bt;omega
      have hsv:w.t.size <= 1000000000:=by rw [aN] at Ia;omega
      have Pe:dS w <= dS w:=Nat.le_refl _
      obtain ⟨k',rfl,hJ⟩:=hI.s1 hk
      repeat' (first | (with_reducible refine Ev.aJ hk ?_) | (with_reducible refine Ev.aF hk ?_) | refine' Ev.zP | refine' Ev.zS | ((with_reducible refine Ev.kr (hs:=[154,156,155]) (fun Q hQ=>?_));refine' Ev.zR) | ((((with_reducible refine Ev.gI ?_);refine qU 5128 5129 [(5144,_),(5145,_),(9000,_)] hS (by decide) ⟨Ev.ah rfl rfl,Ev.ah rfl rfl,trivial⟩ ⟨Ev.ah rfl rfl,Ev.ah rfl rfl,Ev.ah rfl rfl,trivial⟩ rfl rfl (fun c' _=>?_);conv=>whnf));conv=>whnf) | ((((with_reducible refine Ev.gI ?_);refine qU 5144 5145 [(5128,_),(5129,_),(9000,_)] hT (by decide) ⟨Ev.ah rfl rfl,Ev.ah rfl rfl,trivial⟩ ⟨Ev.ah rfl rfl,Ev.ah rfl rfl,Ev.ah rfl rfl,trivial⟩ rfl rfl (fun c' _=>?_);conv=>whnf));conv=>whnf) | ((((with_reducible refine Ev.gI ?_);refine Ed 5144 5145 [(5128,_),(5129,_),(9000,_)] hT hI.ay.head hsv (by decide) ⟨Ev.ah rfl rfl,Ev.ah rfl rfl,trivial⟩ ⟨Ev.ah rfl rfl,Ev.ah rfl rfl,Ev.ah rfl rfl,trivial⟩ rfl rfl (fun c' _=>?_);conv=>whnf));conv=>whnf) | ((((with_reducible refine Ev.gI ?_);refine Ee 5144 5145 [(5128,_),(5129,_),(9000,_)] hT hI.ay.head Ia Pe rfl (by decide) ⟨Ev.ah rfl rfl,Ev.ah rfl rfl,trivial⟩ ⟨Ev.ah rfl rfl,Ev.ah rfl rfl,Ev.ah rfl rfl,trivial⟩ rfl rfl (fun T' J4 hT' c' _=>?_);conv=>whnf));conv=>whnf) | refine' Ev.zT | fail)
      simp only [jS,xJ hI.ay.head]
      rw [jS] at hT'
      refine Ev.zA (k') ⟨?_,va,wa,vb,wb,?_,S,T',off,J4,[],y,out ++ [w],rfl,?_⟩
      exact ⟨hS,hT',hJ⟩
    · have hk:Tt (u :: x) = 3:=hI.uk
      have htu:bT (u :: x) <= 1000000000:=by have:=hI.bt;omega
      have hsu:u.t.size <= 1000000000:=by rw [aN] at htu;omega
      have hnu:dS u <= dS u:=Nat.le_refl _
      obtain ⟨k',rfl,hJ⟩:=hI.s2 hk (by simp)
      repeat' (first | (with_reducible refine Ev.aJ hk ?_) | (with_reducible refine Ev.aF hk ?_) | refine' Ev.zP | refine' Ev.zS | ((with_reducible refine Ev.kr (hs:=[154,156,155]) (fun Q hQ=>?_));refine' Ev.zR) | ((((with_reducible refine Ev.gI ?_);refine qU 5128 5129 [(5144,_),(5145,_),(9000,_)] hS (by decide) ⟨Ev.ah rfl rfl,Ev.ah rfl rfl,trivial⟩ ⟨Ev.ah rfl rfl,Ev.ah rfl rfl,Ev.ah rfl rfl,trivial⟩ rfl rfl (fun c' _=>?_);conv=>whnf));conv=>whnf) | ((((with_reducible refine Ev.gI ?_);refine qU 5144 5145 [(5128,_),(5129,_),(9000,_)] hT (by decide) ⟨Ev.ah rfl rfl,Ev.ah rfl rfl,trivial⟩ ⟨Ev.ah rfl rfl,Ev.ah rfl rfl,Ev.ah rfl rfl,trivial⟩ rfl rfl (fun c' _=>?_);conv=>whnf));conv=>whnf) | ((((with_reducible refine Ev.gI ?_);refine Ed 5128 5129 [(5144,_),(5145,_),(9000,_)] hS hI.ax.head hsu (by decide) ⟨Ev.ah rfl rfl,Ev.ah rfl rfl,trivial⟩ ⟨Ev.ah rfl rfl,Ev.ah rfl rfl,Ev.ah rfl rfl,trivial⟩ rfl rfl (fun c' _=>?_);conv=>whnf));conv=>whnf) | ((((with_reducible refine Ev.gI ?_);refine Ee 5128 5129 [(5144,_),(5145,_),(9000,_)] hS hI.ax.head htu hnu rfl (by decide) ⟨Ev.ah rfl rfl,Ev.ah rfl rfl,trivial⟩ ⟨Ev.ah rfl rfl,Ev.ah rfl rfl,Ev.ah rfl rfl,trivial⟩ rfl rfl (fun S' off' hS' c' _=>?_);conv=>whnf));conv=>whnf) | refine' Ev.zT | fail)
      simp only [jS,xJ hI.ax.head]
      rw [jS] at hS'
      refine Ev.zA (k') ⟨?_,va,wa,vb,wb,?_,S',T,off',oft,x,[],out ++ [u],rfl,?_⟩
      exact ⟨hS',hT,hJ⟩
    · by_cases hw2:w.k = 2
      · have hk:Tt (w :: y) = 2:=hw2
        have Ia:bT (w :: y) <= 1000000000:=by have:=hI.bt;omega
        have hsv:w.t.size <= 1000000000:=by rw [aN] at Ia;omega
        have Pe:dS w <= dS w:=Nat.le_refl _
        obtain ⟨k',rfl,hJ⟩:=hI.s1 hk
        repeat' (first | (with_reducible refine Ev.aJ hk ?_) | (with_reducible refine Ev.aF hk ?_) | refine' Ev.zP | refine' Ev.zS | ((with_reducible refine Ev.kr (hs:=[154,156,155]) (fun Q hQ=>?_));refine' Ev.zR) | ((((with_reducible refine Ev.gI ?_);refine qU 5128 5129 [(5144,_),(5145,_),(9000,_)] hS (by decide) ⟨Ev.ah rfl rfl,Ev.ah rfl rfl,trivial⟩ ⟨Ev.ah rfl rfl,Ev.ah rfl rfl,Ev.ah rfl rfl,trivial⟩ rfl rfl (fun c' _=>?_);conv=>whnf));conv=>whnf) | ((((with_reducible refine Ev.gI ?_);refine qU 5144 5145 [(5128,_),(5129,_),(9000,_)] hT (by decide) ⟨Ev.ah rfl rfl,Ev.ah rfl rfl,trivial⟩ ⟨Ev.ah rfl rfl,Ev.ah rfl rfl,Ev.ah rfl rfl,trivial⟩ rfl rfl (fun c' _=>?_);conv=>whnf));conv=>whnf) | ((((with_reducible refine Ev.gI ?_);refine Ed 5144 5145 [(5128,_),(5129,_),(9000,_)] hT hI.ay.head hsv (by decide) ⟨Ev.ah rfl rfl,Ev.ah rfl rfl,trivial⟩ ⟨Ev.ah rfl rfl,Ev.ah rfl rfl,Ev.ah rfl rfl,trivial⟩ rfl rfl (fun c' _=>?_);conv=>whnf));conv=>whnf) | ((((with_reducible refine Ev.gI ?_);refine Ee 5144 5145 [(5128,_),(5129,_),(9000,_)] hT hI.ay.head Ia Pe rfl (by decide) ⟨Ev.ah rfl rfl,Ev.ah rfl rfl,trivial⟩ ⟨Ev.ah rfl rfl,Ev.ah rfl rfl,Ev.ah rfl rfl,trivial⟩ rfl rfl (fun T' J4 hT' c' _=>?_);conv=>whnf));conv=>whnf) | refine' Ev.zT | fail)
        simp only [jS,xJ hI.ay.head]
        rw [jS] at hT'
        refine Ev.zA (k') ⟨?_,va,wa,vb,wb,?_,S,T',off,J4,u :: x,y,out ++ [w],rfl,?_⟩
        exact ⟨hS,hT',hJ⟩
      have hn2:¬ Tt (w :: y) = 2:=hw2
      by_cases hu3:u.k = 3
      · have hk:Tt (u :: x) = 3:=hu3
        have htu:bT (u :: x) <= 1000000000:=by have:=hI.bt;omega
        have hsu:u.t.size <= 1000000000:=by rw [aN] at htu;omega
        have hnu:dS u <= dS u:=Nat.le_refl _
        obtain ⟨k',rfl,hJ⟩:=hI.s2 hk (by simpa using hw2)
        repeat' (first | (with_reducible refine Ev.aJ hk ?_) | (with_reducible refine Ev.aF hk ?_) | (with_reducible refine Ev.aP hn2 ?_) | (with_reducible refine Ev.aK hn2 ?_) | refine' Ev.zP | refine' Ev.zS | ((with_reducible refine Ev.kr (hs:=[154,156,155]) (fun Q hQ=>?_));refine' Ev.zR) | ((((with_reducible refine Ev.gI ?_);refine qU 5128 5129 [(5144,_),(5145,_),(9000,_)] hS (by decide) ⟨Ev.ah rfl rfl,Ev.ah rfl rfl,trivial⟩ ⟨Ev.ah rfl rfl,Ev.ah rfl rfl,Ev.ah rfl rfl,trivial⟩ rfl rfl (fun c' _=>?_);conv=>whnf));conv=>whnf) | ((((with_reducible refine Ev.gI ?_);refine qU 5144 5145 [(5128,_),(5129,_),(9000,_)] hT (by decide) ⟨Ev.ah rfl rfl,Ev.ah rfl rfl,trivial⟩ ⟨Ev.ah rfl rfl,Ev.ah rfl rfl,Ev.ah rfl rfl,trivial⟩ rfl rfl (fun c' _=>?_);conv=>whnf));conv=>whnf) | ((((with_reducible refine Ev.gI ?_);refine Ed 5128 5129 [(5144,_),(5145,_),(9000,_)] hS hI.ax.head hsu (by decide) ⟨Ev.ah rfl rfl,Ev.ah rfl rfl,trivial⟩ ⟨Ev.ah rfl rfl,Ev.ah rfl rfl,Ev.ah rfl rfl,trivial⟩ rfl rfl (fun c' _=>?_);conv=>whnf));conv=>whnf) | ((((with_reducible refine Ev.gI ?_);refine Ee 5128 5129 [(5144,_),(5145,_),(9000,_)] hS hI.ax.head htu hnu rfl (by decide) ⟨Ev.ah rfl rfl,Ev.ah rfl rfl,trivial⟩ ⟨Ev.ah rfl rfl,Ev.ah rfl rfl,Ev.ah rfl rfl,trivial⟩ rfl rfl (fun S' off' hS' c' _=>?_);conv=>whnf));conv=>whnf) | refine' Ev.zT | fail)
        simp only [jS,xJ hI.ax.head]
        rw [jS] at hS'
        refine Ev.zA (k') ⟨?_,va,wa,vb,wb,?_,S',T,off',oft,x,w :: y,out ++ [u],rfl,?_⟩
        exact ⟨hS',hT,hJ⟩
      have hn3:¬ Tt (u :: x) = 3:=hu3
      have hn0:¬ Tt (u :: x) = 0:=by
        show ¬ u.k = 0
        rcases hI.ax.head.cases with ⟨a,_⟩ | ⟨a,_⟩ <;> omega
      have hm0:¬ Tt (w :: y) = 0:=by
        show ¬ w.k = 0
        rcases hI.ay.head.cases with ⟨a,_⟩ | ⟨a,_⟩ <;> omega
      have Ia:bT (w :: y) <= 1000000000:=by have:=hI.bt;omega
      have hsv:w.t.size <= 1000000000:=by rw [aN] at Ia;omega
      have htu:bT (u :: x) <= 1000000000:=by have:=hI.bt;omega
      have hsu:u.t.size <= 1000000000:=by rw [aN] at htu;omega
      obtain ⟨n,hn⟩:∃ n,min (dS u) (dS w) = n:=⟨_,rfl⟩
      obtain ⟨hnu,Pe,k',rfl,hJ⟩:=hI.s3 hw2 hu3 hn
      have pk:=(kE hI.ax.head hnu).2.2.2.2.2.1
      have qk:=(kE hI.ay.head Pe).2.2.2.2.2.1
      have hmin:min ((dS u:Nat):Int) ((dS w:Nat):Int) = ((n:Nat):Int):=by omega
      repeat' (first | (with_reducible refine Ev.aP hn2 ?_) | (with_reducible refine Ev.aK hn2 ?_) | (with_reducible refine Ev.aP hn3 ?_) | (with_reducible refine Ev.aK hn3 ?_) | (with_reducible refine Ev.aP hn0 ?_) | (with_reducible refine Ev.aK hn0 ?_) | (with_reducible refine Ev.aP hm0 ?_) | (with_reducible refine Ev.aK hm0 ?_) | refine' Ev.zP | refine' Ev.zS | ((with_reducible refine Ev.kr (hs:=[154,156,155]) (fun Q hQ=>?_));refine' Ev.zR) | ((((with_reducible refine Ev.gI ?_);refine qU 5128 5129 [(5144,_),(5145,_),(9000,_)] hS (by decide) ⟨Ev.ah rfl rfl,Ev.ah rfl rfl,trivial⟩ ⟨Ev.ah rfl rfl,Ev.ah rfl rfl,Ev.ah rfl rfl,trivial⟩ rfl rfl (fun c' _=>?_);conv=>whnf));conv=>whnf) | ((((with_reducible refine Ev.gI ?_);refine qU 5144 5145 [(5128,_),(5129,_),(9000,_)] hT (by decide) ⟨Ev.ah rfl rfl,Ev.ah rfl rfl,trivial⟩ ⟨Ev.ah rfl rfl,Ev.ah rfl rfl,Ev.ah rfl rfl,trivial⟩ rfl rfl (fun c' _=>?_);conv=>whnf));conv=>whnf) | ((((with_reducible refine Ev.gI ?_);refine Ed 5128 5129 [(5144,_),(5145,_),(9000,_)] hS hI.ax.head hsu (by decide) ⟨Ev.ah rfl rfl,Ev.ah rfl rfl,trivial⟩ ⟨Ev.ah rfl rfl,Ev.ah rfl rfl,Ev.ah rfl rfl,trivial⟩ rfl rfl (fun c' _=>?_);conv=>whnf));conv=>whnf) | ((((with_reducible refine Ev.gI ?_);refine Ed 5144 5145 [(5128,_),(5129,_),(9000,_)] hT hI.ay.head hsv (by decide) ⟨Ev.ah rfl rfl,Ev.ah rfl rfl,trivial⟩ ⟨Ev.ah rfl rfl,Ev.ah rfl rfl,Ev.ah rfl rfl,trivial⟩ rfl rfl (fun c' _=>?_);conv=>whnf));conv=>whnf) | ((((with_reducible refine Ev.gI ?_);refine Ee 5128 5129 [(5144,_),(5145,_),(9000,_)] hS hI.ax.head htu hnu hmin (by decide) ⟨Ev.ah rfl rfl,Ev.ah rfl rfl,trivial⟩ ⟨Ev.ah rfl rfl,Ev.ah rfl rfl,Ev.ah rfl rfl,trivial⟩ rfl rfl (fun S' off' hS' c' _=>?_);conv=>whnf));conv=>whnf) | ((((with_reducible refine Ev.gI ?_);refine Ee 5144 5145 [(5128,_),(5129,_),(9000,_)] hT hI.ay.head Ia Pe hmin (by decide) ⟨Ev.ah rfl rfl,Ev.ah rfl rfl,trivial⟩ ⟨Ev.ah rfl rfl,Ev.ah rfl rfl,Ev.ah rfl rfl,trivial⟩ rfl rfl (fun T' J4 hT' c' _=>?_);conv=>whnf));conv=>whnf) | refine' Ev.zT | fail)
      · have hwk:w.k = 1:=by rw [<- qk];assumption
        rw [if_pos hwk] at hJ
        refine Ev.zA (k') ⟨?_,va,wa,vb,wb,?_,S',T',off',J4,aS u n x,aS w n y,out ++ [dJ u n],rfl,?_⟩
        exact ⟨hS',hT',hJ⟩
      · have hwk:¬ w.k = 1:=by rw [<- qk];assumption
        have vS:u.k = 1:=by rw [<- pk];assumption
        rw [if_neg hwk,if_pos vS] at hJ
        refine Ev.zA (k') ⟨?_,va,wa,vb,wb,?_,S',T',off',J4,aS u n x,aS w n y,out ++ [dJ w n],rfl,?_⟩
        exact ⟨hS',hT',hJ⟩
      · have hwk:¬ w.k = 1:=by rw [<- qk];assumption
        have vS:¬ u.k = 1:=by rw [<- pk];assumption
        rw [if_neg hwk,if_neg vS,List.append_nil] at hJ
        refine Ev.zA (k') ⟨?_,va,wa,vb,wb,v,S',T',off',J4,aS u n x,aS w n y,out,rfl,?_⟩
        exact ⟨hS',hT',hJ⟩
  · rename_i h;exact absurd ho h
theorem Pg {n:Int} {x:List Sp} (h:qZ n x = 0):aC x = 0 /\ iT x = n /\ outW x <= 1048576 /\ UF x = true:=by
 unfold qZ at h
 by_cases h1:aC x = 0
 · rw [if_neg (by simp [h1])] at h
   by_cases h2:iT x = n
   · rw [if_neg (by simp [h2])] at h
     by_cases h3:1048576 < outW x
     · rw [if_pos h3] at h;cases h
     · rw [if_neg h3] at h
       cases h4:UF x with
       | true=>exact ⟨h1,h2,by omega,rfl⟩
       | false=>rw [h4] at h;cases h
   · rw [if_pos h2] at h;cases h
 · rw [if_pos h1] at h;exact absurd h h1
theorem Xx {n:Int} {x:List Sp} (h1:aC x = 0) (h2:iT x = n) (h3:outW x <= 1048576) (h4:UF x = true):qZ n x = 0:=by
 unfold qZ;rw [if_neg (by simp [h1]),if_neg (by simp [h2]),if_neg (by omega),if_pos h4]
theorem Ef:∀ (l:List (List Sp)) (n:Int) (t:ByteArray),validD t.data.toList = true -> bG t.data.toList = n -> gW n l = 0 -> (∀ x ∈ l,x.length <= 100000000) -> t.size + rC l <= 1000000000 ->
   ∃ u,lC l t = (0,u) /\ validD u.data.toList = true /\ bG u.data.toList = pq n l /\ u.size <= t.size + rC l
 | [],n,t,hv,hc,_,_,_=>⟨t,rfl,hv,hc,by simp [rC]⟩
 | x :: l,n,t,hv,hc,hs,hx,hb=>by
   have h0:qZ n x = 0:=by
     simp only [gW] at hs
     by_cases h:qZ n x = 0
     · exact h
     · rw [if_neg h] at hs;exact absurd hs h
   simp only [gW] at hs
   rw [if_pos h0] at hs
   obtain ⟨a1,a2,a3,a4⟩:=Pg h0
   rw [yN] at hb
   have hz:lV x t = 0:=vK a1 hv (by rw [a2,<- hc,bH hv])
   obtain ⟨b1,b2,b3,b4⟩:=yM hz (by have:=hx x (by simp);omega) (by omega)
   obtain ⟨u,c1,c2,c3,c4⟩:=Ef l (outW x) (oL x t) b1 (by rw [bH b1,b3]) hs (fun y hy=>hx y (by simp [hy])) (by omega)
   refine ⟨u,?_,c2,c3,by rw [yN];omega⟩
   simp only [lC];rw [if_pos hz];exact c1
theorem BQ:∀ (a b:List (List Sp)) (t:ByteArray),(lC a t).1 = 0 -> lC (a ++ b) t = lC b (lC a t).2
 | [],b,t,_=>rfl
 | x :: a,b,t,h=>by
   rw [List.cons_append]
   simp only [lC] at h ⊢
   by_cases h0:lV x t = 0
   · rw [if_pos h0] at h ⊢;rw [if_pos h0];exact BQ a b _ h
   · rw [if_neg h0] at h;exact absurd h h0
theorem nH {l:List (List Sp)} {n:Int} (h:gW n l = 0) (i:Nat):gW n (l.take i) = 0 /\ gW (pq n (l.take i)) (l.drop i) = 0:=by
 have e:=yJ (l.take i) (l.drop i) n
 rw [List.take_append_drop,h] at e
 by_cases h0:gW n (l.take i) = 0
 · rw [if_pos h0] at e;exact ⟨h0,e.symm⟩
 · rw [if_neg h0] at e;exact absurd e.symm h0
def Ph (c:Lg) (i:Nat):ByteArray:=(lC (c.dP.take i) c.base).2
theorem afT {l:List Int} {w:Int} {n:Nat} (hw:w = (n:Int)) (h:w.toNat < l.length) (h':n < l.length):l[w.toNat] = l[n]:=by
 subst hw;rfl
theorem Af:∀ c,Tryd.f103.body = some c -> comp c = (.seq (.reg 0 [I.n 0 4 (.assign (.const (Value.string { data:=#[] }))),I.n 1 5 (I.si 0)]) (.seq (.reg 1 [I.n 0 12 (I.mv 0),I.n 1 13 (I.c1 100 12 23),I.n 2 6 (I.sa 13)]) (.seq (.seq (.reg 2 [I.n 0 14 (I.mv 6),I.n 1 15 (I.bc .neq 30 14 0 30)]) (.cond (.tmp 15) (.seq (.reg 3 [I.n 0 16 (I.mv 6),I.n 1 4 (.assign (.const (Value.string { data:=#[] }))),I.n 2 5 (I.sa 16)]) .ret) .skip)) (.seq (.reg 4 [I.n 0 18 (I.mv 1),I.n 1 19 (I.c1 117 18 9),I.n 2 17 (I.mv 19),I.n 3 20 (I.ex 17 0),I.n 4 21 (I.ex 17 1),I.n 5 7 (I.sa 20),I.n 6 8 (I.sa 21)]) (.seq (.seq (.reg 5 [I.n 0 22 (I.mv 8),I.n 1 23 (.unOp .not 4 (.tmp 22))]) (.cond (.tmp 23) (.seq (.reg 6 [I.n 0 4 (.assign (.const (Value.string { data:=#[] }))),I.n 1 5 (I.si 3)]) .ret) .skip)) (.seq (.seq (.reg 7 [I.n 0 24 (I.mv 7),I.n 1 25 (I.ln 24 25),I.n 2 26 (I.bc .sub 3 25 1 3),I.n 3 27 (I.mv 0),I.n 4 28 (I.c1 101 27 23),I.n 5 29 (I.bo .neq 3 26 28 3)]) (.cond (.tmp 29) (.seq (.reg 8 [I.n 0 4 (.assign (.const (Value.string { data:=#[] }))),I.n 1 5 (I.si 5)]) .ret) .skip)) (.seq (.reg 9 [I.n 0 9 (.assign (.const (Value.string { data:=#[] })))]) (.seq (.reg 10 [I.n 0 10 (I.si 0)]) (.seq (.seq (.reg 11 [I.n 0 11 (I.si 0)]) (.block 0 (.loop (.seq (.seq (.reg 12 [I.n 0 30 (I.mv 11),I.n 1 31 (I.mv 0),I.n 2 32 (I.ln 31 23),I.n 3 33 (I.bo .lss 3 30 32 3)]) (.cond (.tmp 33) .skip (.exit 0))) (.seq (.block 1 (.seq (.reg 14 [I.n 0 36 (I.mv 0),I.n 1 37 (I.mv 11),I.n 2 38 (I.ia 23 36 37),I.n 3 39 (I.fa 35 38 0),I.n 4 40 (I.ld 3 39)]) (.block 2 (.seq (.reg 16 [I.n 0 49 (I.bc .eql 3 40 2 3),I.n 1 48 (I.sa 49)]) (.cond (.tmp 48) (.reg 17 [I.n 0 50 (I.mv 9),I.n 1 51 (I.mv 0),I.n 2 52 (I.mv 11),I.n 3 53 (I.ia 23 51 52),I.n 4 54 (I.fa 35 53 2),I.n 5 55 (I.ld 9 54),I.n 6 56 (I.bo .add 9 50 55 9),I.n 7 9 (I.sa 56)]) (.seq (.reg 18 [I.n 0 58 (I.bc .eql 3 40 1 3),I.n 1 57 (I.sa 58)]) (.cond (.tmp 57) (.seq (.draw 19 [I.n 0 59 (I.mv 9),I.n 1 60 (I.mv 1),I.n 2 61 (I.mv 7),I.n 3 62 (I.mv 10),I.n 4 63 (I.ia 25 61 62),I.n 5 64 (I.ld 3 63),I.n 6 65 (I.mv 7),I.n 7 66 (I.mv 10),I.n 8 67 (I.mv 0),I.n 9 68 (I.mv 11),I.n 10 69 (I.ia 23 67 68),I.n 11 70 (I.fa 35 69 1),I.n 12 71 (I.ld 3 70),I.n 13 72 (I.bo .add 3 66 71 3),I.n 14 73 (I.ia 25 65 72),I.n 15 74 (I.ld 3 73),I.n 16 75 (.slice 9 (.tmp 60) (some (.tmp 64)) (some (.tmp 74)) none),I.n 17 76 (I.bo .add 9 59 75 9),I.n 18 9 (I.sa 76)] [[],[],[],[],[2,3],[4],[],[],[],[],[8,9],[10],[11],[7,12],[6,13],[14],[1,5,15],[0,16],[17,0,1,2,3,4,5,6,7,8,9,10,11,12,13,14,15,16,17]]) (.reg 20 [I.n 0 77 (I.mv 10),I.n 1 78 (I.mv 0),I.n 2 79 (I.mv 11),I.n 3 80 (I.ia 23 78 79),I.n 4 81 (I.fa 35 80 1),I.n 5 82 (I.ld 3 81),I.n 6 83 (I.bo .add 3 77 82 3),I.n 7 10 (I.sa 83)])) (.reg 15 [I.n 0 41 (I.mv 10),I.n 1 42 (I.mv 0),I.n 2 43 (I.mv 11),I.n 3 44 (I.ia 23 42 43),I.n 4 45 (I.fa 35 44 1),I.n 5 46 (I.ld 3 45),I.n 6 47 (I.bo .add 3 41 46 3),I.n 7 10 (I.sa 47)])))))))) (.reg 13 [I.n 0 34 (I.mv 11),I.n 1 35 (I.bc .add 3 34 1 3),I.n 2 11 (I.sa 35)])))))) (.seq (.reg 21 [I.n 0 84 (I.mv 9),I.n 1 4 (I.sa 84),I.n 2 5 (I.si 0)]) .ret)))))))))):=by
 intro c h
 have:c = Tryd.f103.body.get rfl:=by rw [<- Option.some_inj,<- h];rfl
 rw [this];rfl
theorem pos_at:∀ l,validD l = true -> ∀ (b:Int) (a:Nat),a <= (pts l).length -> (b :: nN l b)[a]? = some (b + ((fE ((pts l).take a)).length:Int)):=by
 refine wY (fun b a ha=>?_) (fun l he hv hd hs ih b a ha=>?_)
 · have:a = 0:=by simpa [EU] using ha
   subst this;simp [fE]
 · obtain ⟨sc,e⟩:=zq he hd
   have hle:=decodeL_le l he
   cases a with
   | zero=>simp [fE]
   | succ a =>
     rw [ng he] at ha ⊢
     rw [tK he,List.getElem?_cons_succ,ih (b + (decodeL l).2) a (by simpa using ha),List.take_succ_cons,pz,List.length_append,e,List.length_take,Nat.min_eq_left hle]
     congr 1;omega
theorem LG {t:ByteArray} (hv:validD t.data.toList = true) {a n:Nat} (h:a + n <= (pts t.data.toList).length) :
   t.extract (fE ((pts t.data.toList).take a)).length (fE ((pts t.data.toList).take (a + n))).length = txt (((pts t.data.toList).drop a).take n) /\ (fE ((pts t.data.toList).take a)).length <= (fE ((pts t.data.toList).take (a + n))).length /\ (fE ((pts t.data.toList).take (a + n))).length <= t.size:=by
 have hp:=(jd _ hv).1
 generalize pts t.data.toList = r at *
 have e1:r.take (a + n) = r.take a ++ (r.drop a).take n:=by rw [List.take_add]
 have e2:r = r.take a ++ (r.drop a).take n ++ r.drop (a + n):=by rw [<- e1,List.take_append_drop]
 have hl:t.data.toList = fE (r.take a) ++ fE ((r.drop a).take n) ++ fE (r.drop (a + n)):=by
   rw [<- hp];conv=>lhs;rw [e2]
   rw [kC,kC]
 have hs:=congrArg List.length hl
 rw [bD,List.length_append,List.length_append] at hs
 rw [e1,kC,List.length_append]
 refine ⟨E8 ?_,by omega,by omega⟩
 rw [fD]
 have:(t.extract (fE (r.take a)).length ((fE (r.take a)).length + (fE ((r.drop a).take n)).length)).data.toList = (t.data.toList.drop (fE (r.take a)).length).take (fE ((r.drop a).take n)).length:=by
   rw [ByteArray.data_extract,Array.toList_extract,List.extract_eq_take_drop,Nat.add_sub_cancel_left]
 rw [this,hl,List.append_assoc,List.drop_left,List.take_left]
set_option maxHeartbeats 8000000 in
theorem TD (l:List Sp) (t:ByteArray) (hl:l.length <= 100000000) (hb:bT l + t.size <= 1000000000):aO env 103 [.lst 3 (aT l),.v (.string t)] (fun r hs=>r = toA l t /\ hs = []):=by
  have hsl:=aV l
  have hmx:2000000003 <= maxLen:=by decide
  have hsm:Small l:=dD (by omega)
  have hpl:=oq t.data.toList
  rw [bD] at hpl
  have hM:=fV l (by omega) hsm
  have hI:=iO l (by omega)
  by_cases h1:aC l = 0
  · rw [h1] at hM
    cases hv:validD t.data.toList with
    | false =>
      have hS:=yA (t:=t) (by omega) (by rw [hv];simp)
      have:lV l t = 3:=by unfold lV;rw [if_neg (by simp [h1]),vH hv,if_pos (by omega)]
      rw [qM this (by decide)]
      refine Ev.fn [0,1,4,5,6,7,8,9,10,11,15,23,29,33,40,48,57] 0 [.tmp 4,.tmp 5] Tryd.func103 (Af _ rfl) ?_
      repeat' (first | refine' Ev.zP | (with_reducible refine Ev.aF rfl ?_) | (with_reducible refine Ev.aJ rfl ?_) | refine' Ev.zS | refine' Ev.zK | ((with_reducible refine Ev.ca0 ?_);(first | refine Ev.ca (hM) ?_ | refine Ev.ca (hS) ?_);conv=>whnf) | ((with_reducible refine Ev.dG ?_);(first | refine Ev.dr 19 [] [0,1,2,3,4,5,6,7,8,9,10,11,12,13,14,15,16,17,18] ?_);intro Q hQ;(simp only [Ev.aj,Ev.ak]);conv=>whnf) | refine' Ev.zT | fail)
      exact ⟨rfl,rfl⟩
    | true =>
      have hS:=yx (t:=t) (by omega) hv
      have hpos:=pos_at _ hv 0
      have hcnt:=bH hv
      have hpd:(nN t.data.toList 0).length = (pts t.data.toList).length:=wZ _ _
      rw [hpd] at hS
      have hw1:IntKind.i64.wrap ((((pts t.data.toList).length + 1:Nat):Int) - 1) = ((pts t.data.toList).length:Int):=by rw [bg (by omega)];omega
      by_cases h3:((pts t.data.toList).length:Int) = iT l
      · have hz:lV l t = 0:=vK h1 hv h3.symm
        have h3':IntKind.i64.wrap ((((pts t.data.toList).length + 1:Nat):Int) - 1) = sumW (fun s=>kN s.k s.n) l:=hw1.trans h3
        rw [Tf hz]
        obtain ⟨h4,h5⟩:=(kR l).1 h1
        have hsum:=xk h4 (by omega)
        have hcp:=fun (a n:Nat) (h:a + n <= (pts t.data.toList).length)=>LG hv h
        have hsc:=(jd _ hv).1
        generalize pts t.data.toList = r0 at *
        generalize hP:(0 :: nN t.data.toList 0) = P at *
        have hPl:P.length = r0.length + 1:=by rw [<- hP,List.length_cons,hpd]
        have hPi:=iI P
        refine Ev.fn [0,1,4,5,6,7,8,9,10,11,15,23,29,33,40,48,57] 0 [.tmp 4,.tmp 5] Tryd.func103 (Af _ rfl) ?_
        repeat' (first | refine' Ev.zP | (with_reducible refine Ev.aF rfl ?_) | (with_reducible refine Ev.aJ rfl ?_) | (((with_reducible refine Ev.aF h3' ?_);conv=>whnf)) | (with_reducible refine Ev.aJ h3' ?_) | refine' Ev.zS | refine' Ev.zK | ((with_reducible refine Ev.ca0 ?_);(first | refine Ev.ca (hM) ?_ | refine Ev.ca (hI) ?_);conv=>whnf) | ((refine Ev.mQ hS rfl (by simp) ⟨rfl,trivial⟩ ?_);conv=>whnf) | ((with_reducible refine Ev.dG ?_);(first | refine Ev.dr 19 [] [0,1,2,3,4,5,6,7,8,9,10,11,12,13,14,15,16,17,18] ?_);intro Q hQ;(simp only [Ev.aj,Ev.ak]);conv=>whnf) | refine' Ev.zT | fail)
        have hPa:∀ (a:Nat) (h:a < P.length),P[a] = ((fE (r0.take a)).length:Int):=fun a h=>by
          have:=hpos a (by omega)
          rw [List.getElem?_eq_getElem h] at this
          have:=Option.some.inj this
          omega
        refine Ev.loop (fun k s=>∃ (i A m v z:Nat) (O:List Nat),s = ⟨[(0,.lst 3 (aT l)),(1,.v (.string t)),(7,.own 2056 v 0 (r0.length + 1)),(9,.v (.string (txt O))),(10,.v (.int .i64 A)),(11,.v (.int .i64 i))],[(2056,⟨1,3,v,z,false,ints P⟩)],m⟩ /\
          k + i = l.length /\ A <= r0.length /\ fK l r0 = O ++ fK (l.drop i) (r0.drop A) /\ ((r0.length:Int) - A) = aY dZ (l.drop i) /\ (fE O).length + (fE (r0.drop A)).length <= bT (l.take i) + t.size) ?_ ?_
        · refine Ev.zB ⟨l.length,0,0,?_,?_,?_,[],rfl,?_⟩
          exact ⟨by omega,by omega,rfl,by rw [List.drop_zero];omega,by rw [List.drop_zero,hsc,bD];simp [fE]⟩
        rintro k s1 ⟨i,A,m,v,z,O,rfl,hk,hA,hap,hR,hsz⟩
        by_cases hil:i < l.length
        · have hs:=h4 _ (List.getElem_mem hil)
          have hsa:=Ti hil
          have hsp:=Ad (fun x hx=>h4 x (List.mem_of_mem_drop hx):∀ x ∈ l.drop (i + 1),bM x)
          have hpa:=Ll hil (r0.drop A)
          rw [List.drop_drop] at hpa
          have htk:=xu l hil
          have htl:=JX l (i + 1)
          have hi2:(i:Int) < ((aT l).length:Int):=by omega
          have hOs:(txt O).size = (fE O).length:=by rw [<- bD,fD]
          have hdd:(fE (r0.drop A)).length = (fE ((r0.drop A).take l[i].n.toNat)).length + (fE (r0.drop (A + l[i].n.toNat))).length:=by
            rw [<- List.length_append,<- kC,<- List.drop_drop,List.take_append_drop]
          rcases jq hs with ⟨a,b,c',d⟩ | ⟨a | a,b,c',d⟩
          · have hP2:uP l[i] (r0.drop A) = pts l[i].t.data.toList:=by unfold uP;rw [if_pos a]
            have htx:txt O ++ l[i].t = txt (O ++ pts l[i].t.data.toList):=by rw [<- Fa,qN d]
            have hes:(fE (pts l[i].t.data.toList)).length = l[i].t.size:=by rw [(jd _ d).1,bD]
            repeat' (first | refine' Ev.zP | (((with_reducible refine Ev.aF hi2 ?_);conv=>whnf)) | (with_reducible refine Ev.aJ hi2 ?_) | (with_reducible refine Ev.aJ a ?_) | refine' Ev.zS | refine' Ev.zK | ((with_reducible refine Ev.dG ?_);(first | refine Ev.dr 19 [] [0,1,2,3,4,5,6,7,8,9,10,11,12,13,14,15,16,17,18] ?_);intro Q hQ;(simp only [Ev.aj,Ev.ak]);conv=>whnf) | refine' Ev.zT | fail)
            have hnz:l[i].n.toNat = 0:=by omega
            rw [hnz,Nat.add_zero] at hpa hdd
            refine Ev.zA (k - 1) ⟨i + 1,A,?_,?_,?_,O ++ pts l[i].t.data.toList,rfl,?_⟩ (by refine' Ev.zp <;> first | (first | exact wrap_succ (by omega) | exact congrArg (fun x=>AV.v (.string x)) htx | rfl) | rfl | (refine' Ev.ze;(first | exact wrap_succ (by omega) | exact congrArg (fun x=>AV.v (.string x)) htx | rfl)) | fail)
            refine ⟨by omega,hA,by rw [hap,hpa,hP2,List.append_assoc];rfl,by omega,?_⟩
            rw [kC,List.length_append];omega
          · have a2:¬ l[i].k = 2:=by omega
            have hn:A + l[i].n.toNat <= r0.length:=by omega
            have hP2:uP l[i] (r0.drop A) = (r0.drop A).take l[i].n.toNat:=by unfold uP;rw [if_neg a2,if_pos a]
            have hwn:IntKind.i64.wrap ((A:Int) + l[i].n) = ((A + l[i].n.toNat:Nat):Int):=by rw [bg (by omega)];omega
            obtain ⟨x1,x2,x3⟩:=hcp A l[i].n.toNat hn
            repeat' (first | refine' Ev.zP | (((with_reducible refine Ev.aF hi2 ?_);conv=>whnf)) | (with_reducible refine Ev.aJ hi2 ?_) | (with_reducible refine Ev.aP a2 ?_) | (with_reducible refine Ev.aJ a ?_) | refine' Ev.zS | refine' Ev.zK | ((with_reducible refine Ev.dG ?_);(first | refine Ev.dr 19 [] [0,1,2,3,4,5,6,7,8,9,10,11,12,13,14,15,16,17,18] ?_);intro Q hQ;(simp only [Ev.aj,Ev.ak]);conv=>whnf) | refine' Ev.zT | fail)
            · have hm:(IntKind.i64.wrap ((A:Int) + l[i].n)).toNat < P.length:=by assumption
              have hAP:A < P.length:=by omega
              have hq:txt O ++ t.extract P[A].toNat P[(IntKind.i64.wrap ((A:Int) + l[i].n)).toNat].toNat = txt (O ++ (r0.drop A).take l[i].n.toNat):=by
                rw [afT hwn hm (by omega),hPa A hAP,hPa (A + l[i].n.toNat) (by omega),Int.toNat_natCast,Int.toNat_natCast,x1,Fa]
              refine Ev.zA (k - 1) ⟨i + 1,A + l[i].n.toNat,?_,?_,?_,O ++ (r0.drop A).take l[i].n.toNat,rfl,?_⟩ (by refine' Ev.zp <;> first | (first | exact wrap_succ (by omega) | exact hwn | exact congrArg (fun x=>AV.v (.string x)) hq | rfl) | rfl | (refine' Ev.ze;(first | exact wrap_succ (by omega) | exact hwn | exact congrArg (fun x=>AV.v (.string x)) hq | rfl)) | fail)
              refine ⟨by omega,hn,by rw [hap,hpa,hP2,List.append_assoc],by omega,?_⟩
              rw [kC,List.length_append];omega
            · have hm:(IntKind.i64.wrap ((A:Int) + l[i].n)).toNat < P.length:=by assumption
              have hAP:A < P.length:=by omega
              refine Ev.Side.of ?_
              show 0 <= P[A] /\ P[A] <= P[(IntKind.i64.wrap ((A:Int) + l[i].n)).toNat] /\ P[(IntKind.i64.wrap ((A:Int) + l[i].n)).toNat] <= (t.size:Int)
              rw [afT hwn hm (by omega),hPa A hAP,hPa (A + l[i].n.toNat) (by omega)];omega
            · refine Ev.Side.of ?_
              show (IntKind.i64.wrap ((A:Int) + l[i].n)).toNat < P.length
              rw [hwn];omega
          · have a2:¬ l[i].k = 2:=by omega
            have a1:¬ l[i].k = 1:=by omega
            have hn:A + l[i].n.toNat <= r0.length:=by omega
            have hP2:uP l[i] (r0.drop A) = []:=by unfold uP;rw [if_neg a2,if_neg a1]
            have hwn:IntKind.i64.wrap ((A:Int) + l[i].n) = ((A + l[i].n.toNat:Nat):Int):=by rw [bg (by omega)];omega
            repeat' (first | refine' Ev.zP | (((with_reducible refine Ev.aF hi2 ?_);conv=>whnf)) | (with_reducible refine Ev.aJ hi2 ?_) | (with_reducible refine Ev.aP a2 ?_) | (with_reducible refine Ev.aP a1 ?_) | refine' Ev.zS | refine' Ev.zK | ((with_reducible refine Ev.dG ?_);(first | refine Ev.dr 19 [] [0,1,2,3,4,5,6,7,8,9,10,11,12,13,14,15,16,17,18] ?_);intro Q hQ;(simp only [Ev.aj,Ev.ak]);conv=>whnf) | refine' Ev.zT | fail)
            refine Ev.zA (k - 1) ⟨i + 1,A + l[i].n.toNat,?_,?_,?_,O,rfl,?_⟩ (by refine' Ev.zp <;> first | (first | exact wrap_succ (by omega) | exact hwn | rfl) | rfl | (refine' Ev.ze;(first | exact wrap_succ (by omega) | exact hwn | rfl)) | fail)
            refine ⟨by omega,hn,by rw [hap,hpa,hP2];rfl,by omega,by omega⟩
        · have hi2:¬ (i:Int) < ((aT l).length:Int):=by omega
          have hdl:l.drop i = []:=List.drop_of_length_le (by omega)
          rw [hdl] at hap
          have hO:fK l r0 = O:=by rw [hap];simp [fK]
          rw [hO]
          repeat' (first | refine' Ev.zP | (((with_reducible refine Ev.aK hi2 ?_);conv=>whnf)) | (with_reducible refine Ev.aP hi2 ?_) | refine' Ev.zS | refine' Ev.zK | ((with_reducible refine Ev.dG ?_);(first | refine Ev.dr 19 [] [0,1,2,3,4,5,6,7,8,9,10,11,12,13,14,15,16,17,18] ?_);intro Q hQ;(simp only [Ev.aj,Ev.ak]);conv=>whnf) | refine' Ev.zT | fail)
          exact ⟨rfl,rfl⟩
      · have h3':¬ IntKind.i64.wrap ((((pts t.data.toList).length + 1:Nat):Int) - 1) = sumW (fun s=>kN s.k s.n) l:=fun e=>h3 (hw1.symm.trans e)
        have:lV l t = 5:=by unfold lV;rw [if_neg (by simp [h1]),hcnt,if_neg (by omega),if_pos h3]
        rw [qM this (by decide)]
        refine Ev.fn [0,1,4,5,6,7,8,9,10,11,15,23,29,33,40,48,57] 0 [.tmp 4,.tmp 5] Tryd.func103 (Af _ rfl) ?_
        repeat' (first | refine' Ev.zP | (with_reducible refine Ev.aF rfl ?_) | (with_reducible refine Ev.aJ rfl ?_) | (((with_reducible refine Ev.aK h3' ?_);conv=>whnf)) | (with_reducible refine Ev.aP h3' ?_) | refine' Ev.zS | refine' Ev.zK | ((with_reducible refine Ev.ca0 ?_);(first | refine Ev.ca (hM) ?_ | refine Ev.ca (hI) ?_);conv=>whnf) | ((refine Ev.mQ hS rfl (by simp) ⟨rfl,trivial⟩ ?_);conv=>whnf) | ((with_reducible refine Ev.dG ?_);(first | refine Ev.dr 19 [] [0,1,2,3,4,5,6,7,8,9,10,11,12,13,14,15,16,17,18] ?_);intro Q hQ;(simp only [Ev.aj,Ev.ak]);conv=>whnf) | refine' Ev.zT | fail)
        exact ⟨rfl,rfl⟩
  · have:lV l t = aC l:=by unfold lV;rw [if_pos h1]
    rw [qM this h1]
    refine Ev.fn [0,1,4,5,6,7,8,9,10,11,15,23,29,33,40,48,57] 0 [.tmp 4,.tmp 5] Tryd.func103 (Af _ rfl) ?_
    repeat' (first | refine' Ev.zP | (with_reducible refine Ev.aP h1 ?_) | (((with_reducible refine Ev.aK h1 ?_);conv=>whnf)) | refine' Ev.zS | refine' Ev.zK | ((with_reducible refine Ev.ca0 ?_);(first | refine Ev.ca (hM) ?_);conv=>whnf) | ((with_reducible refine Ev.dG ?_);(first | refine Ev.dr 19 [] [0,1,2,3,4,5,6,7,8,9,10,11,12,13,14,15,16,17,18] ?_);intro Q hQ;(simp only [Ev.aj,Ev.ak]);conv=>whnf) | refine' Ev.zT | fail)
    exact ⟨rfl,rfl⟩
def LH:Ev.Pl:=(.one 0 false (.two 1 (.one 2 false (.one 3 false .fin)) 2 (.one 1 false (.one 3 false .fin))))
def LJ:Ev.Pl:=(.one 0 false (.two 1 (.one 2 false (.one 3 false .fin)) 2 (.one 1 false (.one 3 false .fin))))
theorem Xy:∀ c,Tryd.f167.body = some c -> comp c = (.seq (.reg 0 [I.n 0 6 (.assign (.const (Value.string { data:=#[] }))),I.n 1 7 (I.si 0)]) (.seq (.reg 1 [I.n 0 11 (I.mv 0),I.n 1 12 (I.c1 117 11 9),I.n 2 10 (I.mv 12),I.n 3 13 (I.ex 10 0),I.n 4 14 (I.ex 10 1),I.n 5 8 (I.sa 13),I.n 6 9 (I.sa 14)]) (.seq (.seq (.reg 2 [I.n 0 15 (I.mv 9),I.n 1 16 (.unOp .not 4 (.tmp 15))]) (.cond (.tmp 16) (.seq (.reg 3 [I.n 0 6 (.assign (.const (Value.string { data:=#[] }))),I.n 1 7 (I.si 3)]) .ret) .skip)) (.seq (.seq (.reg 4 [I.n 0 17 (I.mv 1),I.n 1 18 (I.bc .lss 3 17 0 3),I.n 2 19 (I.mv 18),I.w 3 20 (I.mv 2) 19 false,I.w 4 21 (I.mv 1) 19 false,I.w 5 22 (I.bo .lss 3 20 21 3) 19 false,I.n 6 23 (I.pb 19 true 22),I.n 7 24 (I.mv 23),I.w 8 25 (I.mv 2) 24 false,I.w 9 26 (I.mv 8) 24 false,I.w 10 27 (I.ln 26 25) 24 false,I.w 11 28 (I.bc .sub 3 27 1 3) 24 false,I.w 12 29 (I.bo .gtr 3 25 28 3) 24 false,I.n 13 30 (I.pb 24 true 29)]) (.cond (.tmp 30) (.seq (.reg 5 [I.n 0 6 (.assign (.const (Value.string { data:=#[] }))),I.n 1 7 (I.si 6)]) .ret) .skip)) (.seq (.draw 6 [I.n 0 31 (I.mv 0),I.n 1 32 (I.mv 8),I.n 2 33 (I.mv 1),I.n 3 34 (I.ia 25 32 33),I.n 4 35 (I.ld 3 34),I.n 5 36 (I.mv 8),I.n 6 37 (I.mv 2),I.n 7 38 (I.ia 25 36 37),I.n 8 39 (I.ld 3 38),I.n 9 40 (.slice 9 (.tmp 31) (some (.tmp 35)) (some (.tmp 39)) none),I.n 10 6 (I.sa 40),I.n 11 7 (I.si 0)] [[],[],[],[1,2],[3],[],[],[5,6],[7],[0,4,8],[9,0,1,2,3,4,5,6,7,8,9],[10,0,1,2,3,4,5,6,7,8,9,10]]) .ret))))):=by
 intro c h
 have:c = Tryd.f167.body.get rfl:=by rw [<- Option.some_inj,<- h];rfl
 rw [this];rfl
theorem LK:∀ c,Tryd.f162.body = some c -> comp c = (.seq (.reg 0 [I.n 0 2 (.box 35 (.tmp 0)),I.n 1 4 (.alloc 35),I.n 2 5 (.alloc 35)]) (.seq (.reg 1 [I.n 0 8 (I.ld 35 2),I.n 1 6 (.alloc 35),I.u 2 (I.st 35 6 8)]) (.seq (.reg 2 [I.n 0 9 (I.ld 35 2),I.n 1 7 (.alloc 35),I.u 2 (I.st 35 7 9)]) (.seq (.seq (.reg 3 [I.n 0 10 (I.fa 35 2 0),I.n 1 11 (I.ld 3 10),I.n 2 12 (I.bc .eql 3 11 2 3)]) (.cond (.tmp 12) (.seq (.reg 4 [I.n 0 14 (I.fa 35 2 2),I.n 1 15 (I.ld 9 14),I.n 2 16 (I.mv 1),I.n 3 17 (.call { callee:=.value (.func 167),args:=#[.tmp 15,.const (Value.int .i64 0),.tmp 16],argTypes:=#[9,3,3] }),I.n 4 13 (I.mv 17),I.n 5 18 (I.ex 13 0),I.n 6 19 (I.ex 13 1),I.n 7 20 (I.fa 35 6 2),I.u 8 (I.st 9 20 18)]) (.seq (.draw 5 [I.n 0 22 (I.fa 35 2 2),I.n 1 23 (I.ld 9 22),I.n 2 24 (I.mv 1),I.n 3 25 (I.fa 35 2 2),I.n 4 26 (I.ld 9 25),I.n 5 27 (I.c1 70 26 9),I.n 6 28 (.call { callee:=.value (.func 167),args:=#[.tmp 23,.tmp 24,.tmp 27],argTypes:=#[9,3,3] }),I.n 7 21 (I.mv 28),I.n 8 29 (I.ex 21 0),I.n 9 30 (I.ex 21 1),I.n 10 31 (I.fa 35 7 2),I.u 11 (I.st 9 31 29)] [[],[0],[],[],[3],[4],[1,2,5,5],[6],[7],[7],[0,1,2,3,4,5,6,7,8],[10,8,6,0,1,2,3,4,5,6,7,8]]) (.seq (.draw 6 [I.n 0 32 (I.ld 35 6),I.n 1 33 (I.ld 35 7),I.u 2 (I.st 35 4 32),I.u 3 (I.st 35 5 33)] [[],[],[0,0],[1,2,0,1,2]]) .ret))) .skip)) (.seq (.reg 7 [I.n 0 34 (I.mv 1),I.n 1 35 (I.fa 35 6 1),I.u 2 (I.st 3 35 34)]) (.seq (.reg 8 [I.n 0 36 (I.fa 35 2 1),I.n 1 37 (I.ld 3 36),I.n 2 38 (I.mv 1),I.n 3 39 (I.bo .sub 3 37 38 3),I.n 4 40 (I.fa 35 7 1),I.u 5 (I.st 3 40 39)]) (.seq (.draw 9 [I.n 0 41 (I.ld 35 6),I.n 1 42 (I.ld 35 7),I.u 2 (I.st 35 4 41),I.u 3 (I.st 35 5 42)] [[],[],[0,0],[1,2,0,1,2]]) .ret))))))):=by
 intro c h
 have:c = Tryd.f162.body.get rfl:=by rw [<- Option.some_inj,<- h];rfl
 rw [this];rfl
theorem Xz:∀ c,Tryd.f163.body = some c -> comp c = (.seq (.reg 0 [I.n 0 1 (.box 35 (.tmp 0)),I.n 1 2 (I.si 0)]) (.seq (.draw 1 [I.n 0 3 (I.ld 35 1),I.n 1 4 (I.c1 143 3 35),I.n 2 5 (I.fa 35 1 2),I.n 3 6 (I.ld 9 5),I.n 4 7 (I.c1 70 6 9),I.n 5 8 (I.bo .add 3 4 7 3),I.n 6 2 (I.sa 8)] [[],[0],[],[2],[3,1],[1,4],[5,4,0,1,2,3,4,5]]) .ret)):=by
 intro c h
 have:c = Tryd.f163.body.get rfl:=by rw [<- Option.some_inj,<- h];rfl
 rw [this];rfl
theorem Eh (t:ByteArray) (ht:t.size <= 1000000000) (hv:validD t.data.toList = true) (a b:Nat) (hab:a <= b) (hb:b <= (pts t.data.toList).length) :
   aO env 167 [.v (.string t),.v (.int .i64 a),.v (.int .i64 b)] (fun r hs=>r = .dM [.v (.string (txt (((pts t.data.toList).drop a).take (b - a)))),.v (.int .i64 0)] /\ hs = []):=by
 have hS:=yx (t:=t) ht hv
 have hpos:=pos_at _ hv 0
 have hpd:(nN t.data.toList 0).length = (pts t.data.toList).length:=wZ _ _
 have hpl:=oq t.data.toList
 rw [bD] at hpl
 rw [hpd] at hS
 have hc:=LG hv (a:=a) (n:=b - a) (by omega)
 rw [show a + (b - a) = b by omega] at hc
 generalize hP:(0 :: nN t.data.toList 0) = P at *
 have hPl:P.length = (pts t.data.toList).length + 1:=by rw [<- hP,List.length_cons,hpd]
 have hPi:=iI P
 have hPa:∀ (a:Nat) (h:a < P.length),P[a] = ((fE ((pts t.data.toList).take a)).length:Int):=fun a h=>by
   have:=hpos a (by omega)
   rw [List.getElem?_eq_getElem h] at this
   have:=Option.some.inj this
   omega
 have hw1:IntKind.i64.wrap ((((pts t.data.toList).length + 1:Nat):Int) - 1) = ((pts t.data.toList).length:Int):=by rw [bg (by omega)];omega
 refine Ev.fn [0,1,2,6,7,8,9,16,30] 0 [.tmp 6,.tmp 7] Tryd.func167 (Xy _ rfl) ?_
 repeat' (first | refine' Ev.zP | (with_reducible refine Ev.aF rfl ?_) | (with_reducible refine Ev.aJ rfl ?_) | refine' Ev.zS | refine' Ev.zK | ((refine Ev.mQ hS rfl (by simp) ⟨rfl,trivial⟩ ?_);conv=>whnf) | ((with_reducible refine Ev.dG ?_);(first | refine Ev.dr 6 [] [0,1,2,3,4,5,6,7,8,9,10,11] ?_);intro Q hQ;(simp only [Ev.aj,Ev.ak]);conv=>whnf) | refine' Ev.zT | fail)
 · exfalso;omega
 · exfalso;rw [hw1] at *;omega
 all_goals
   have ha':=hPa a (by omega)
   have hb':=hPa b (by omega)
   first
     | (refine ⟨?_,rfl⟩
        show AV.dM [AV.v (Value.string (t.extract (P[a]'(by omega)).toNat (P[b]'(by omega)).toNat)),_] = _
        rw [ha',hb',Int.toNat_natCast,Int.toNat_natCast,hc.1])
     | (refine Ev.Side.of ?_
        show 0 <= P[a]'(by omega) /\ P[a]'(by omega) <= P[b]'(by omega) /\ P[b]'(by omega) <= (t.size:Int)
        rw [ha',hb'];omega)
theorem pU (s:Sp) (hs:bM s) (ht:s.t.size <= 1000000000):aO env 163 [lH s.k s.n s.t] (fun r hs=>r = .v (.int .i64 (dS s)) /\ hs = []):=by
 refine Ev.fn [0,1,2] 0 [.tmp 2] Tryd.func163 (Xz _ rfl) ?_
 repeat' (first | refine' Ev.zS | refine' Ev.zK | ((with_reducible refine Ev.ca0 ?_);(first | refine Ev.aU (BA _ _ _) rfl rfl ?_ | refine Ev.aU (gU _ ht) rfl rfl ?_ | refine Ev.ca (BA _ _ _) ?_ | refine Ev.ca (gU _ ht) ?_);conv=>whnf) | ((with_reducible refine Ev.dG ?_);(first | refine Ev.dr 1 [] [0,2,3,1,4,5,6] ?_);intro Q hQ;(simp only [Ev.aj,Ev.ak]);conv=>whnf) | refine' Ev.zT | fail)
 refine ⟨congrArg (fun z=>AV.v (Value.int IntKind.i64 z)) ?_,rfl⟩
 unfold kN
 rcases hs.cases with ⟨a,b,c,d⟩ | ⟨a,b,c⟩
 · have:bG s.t.data.toList = 0:=by rw [d];rfl
   rw [if_pos a,this,fP (by omega),bg (by omega)];omega
 · have h1:=bH c
   have hp:=oq s.t.data.toList
   rw [bD] at hp
   rw [if_neg (by omega),ug a,bg (by omega)];omega
theorem jT (s:Sp) (m:Nat) (hs:bM s) (ht:s.t.size <= 1000000000) (hm:m <= dS s):aO env 162 [lH s.k s.n s.t,.v (.int .i64 m)] (fun r hs=>r = .dM [lH (dJ s m).k (dJ s m).n (dJ s m).t,lH (bI s m).k (bI s m).n (bI s m).t] /\ hs = []):=by
 by_cases hk:s.k = 2
 · obtain ⟨hn,hv⟩:s.n = 0 /\ validD s.t.data.toList = true:=by
     rcases hs.cases with ⟨a,_⟩ | ⟨a,b,c⟩
     · omega
     · exact ⟨b,c⟩
   rw [ug hk] at hm
   have hC1:=Eh s.t ht hv 0 m (by omega) hm
   have hC2:=Eh s.t ht hv m (pts s.t.data.toList).length hm (Nat.le_refl _)
   have hN:=gU s.t ht
   have hc:=bH hv
   rw [hc] at hN
   have e1:dJ s m = ⟨2,0,txt ((pts s.t.data.toList).take m)⟩:=if_pos hk
   have e2:bI s m = ⟨2,0,txt ((pts s.t.data.toList).drop m)⟩:=if_pos hk
   rw [List.drop_zero,Nat.sub_zero] at hC1
   rw [List.take_of_length_le (by simp)] at hC2
   rw [e1,e2,hk,hn]
   refine Ev.fn [0,1,2,4,5,6,7,12] 0 [.cell 4 35,.cell 5 35] Tryd.func162 (LK _ rfl) ?_
   repeat' (first | refine' Ev.zP | (with_reducible refine Ev.aF rfl ?_) | (with_reducible refine Ev.aJ rfl ?_) | refine' Ev.zS | refine' Ev.zK | ((with_reducible refine Ev.ca0 ?_);(first | refine Ev.ca (hN) ?_ | refine Ev.ca (hC1) ?_ | refine Ev.ca (hC2) ?_);conv=>whnf) | ((with_reducible refine Ev.dG ?_);(first | refine Ev.dr 5 [] [0,1,2,3,4,5,6,7,8,9,10,11] ?_);intro Q hQ;(simp only [Ev.aj,Ev.ak]);conv=>whnf) | ((with_reducible refine Ev.dG ?_);(first | refine Ev.Bq 6 [] LH ?_ | refine Ev.Bq 9 [] LJ ?_);intro Q hQ;(simp only [Ev.dU,Ev.dA,Ev.dB,Ev.dV]);conv=>whnf) | ((with_reducible refine Ev.both ?_ ?_) <;> (conv=>whnf)) | refine' Ev.zT | fail)
   all_goals exact ⟨rfl,rfl⟩
 · obtain ⟨d,hb⟩:s.t = ⟨#[]⟩ /\ 0 <= s.n /\ s.n <= 1048576:=by
     rcases hs.cases with ⟨a,b,c,d⟩ | ⟨a,b,c⟩
     · exact ⟨d,b,c⟩
     · exact absurd a hk
   rw [fP hk] at hm
   rw [sJ _ hk,sK _ hk,d]
   have hw:IntKind.i64.wrap (s.n - m) = s.n - m:=bg (by omega)
   refine Ev.fn [0,1,2,4,5,6,7,12] 0 [.cell 4 35,.cell 5 35] Tryd.func162 (LK _ rfl) ?_
   repeat' (first | (with_reducible refine Ev.aK hk ?_) | (with_reducible refine Ev.aP hk ?_) | refine' Ev.zP | refine' Ev.zS | refine' Ev.zK | ((with_reducible refine Ev.dG ?_);(first | refine Ev.dr 5 [] [0,1,2,3,4,5,6,7,8,9,10,11] ?_);intro Q hQ;(simp only [Ev.aj,Ev.ak]);conv=>whnf) | ((with_reducible refine Ev.dG ?_);(first | refine Ev.Bq 6 [] LH ?_ | refine Ev.Bq 9 [] LJ ?_);intro Q hQ;(simp only [Ev.dU,Ev.dA,Ev.dB,Ev.dV]);conv=>whnf) | ((with_reducible refine Ev.both ?_ ?_) <;> (conv=>whnf)) | refine' Ev.zT | fail)
   all_goals (refine ⟨?_,rfl⟩;show AV.dM [_,AV.agg [_,AV.v (Value.int .i64 (IntKind.i64.wrap (s.n - m))),_]] = _;rw [hw])
theorem LM:∀ c,Tryd.f149.body = some c -> comp c = (.seq (.reg 0 [I.n 0 4 I.sn,I.n 1 5 (I.si 0)]) (.seq (.reg 1 [I.n 0 16 (I.mv 0),I.n 1 17 (I.c1 100 16 23),I.n 2 6 (I.sa 17)]) (.seq (.reg 2 [I.n 0 18 (I.mv 1),I.n 1 19 (I.c1 100 18 23),I.n 2 7 (I.sa 19)]) (.seq (.seq (.reg 3 [I.n 0 20 (I.mv 6),I.n 1 21 (I.bc .neq 30 20 0 30)]) (.cond (.tmp 21) (.seq (.reg 4 [I.n 0 22 (I.mv 6),I.n 1 4 I.sn,I.n 2 5 (I.sa 22)]) .ret) .skip)) (.seq (.seq (.reg 5 [I.n 0 23 (I.mv 7),I.n 1 24 (I.bc .neq 30 23 0 30)]) (.cond (.tmp 24) (.seq (.reg 6 [I.n 0 25 (I.mv 7),I.n 1 4 I.sn,I.n 2 5 (I.sa 25)]) .ret) .skip)) (.seq (.seq (.reg 7 [I.n 0 26 (I.mv 0),I.n 1 27 (I.c1 102 26 23),I.n 2 28 (I.mv 1),I.n 3 29 (I.c1 101 28 23),I.n 4 30 (I.bo .neq 3 27 29 3)]) (.cond (.tmp 30) (.seq (.reg 8 [I.n 0 4 I.sn,I.n 1 5 (I.si 5)]) .ret) .skip)) (.seq (.reg 9 [I.n 0 31 (I.mv 0),I.n 1 32 (I.c1 71 31 23),I.n 2 8 (I.sa 32)]) (.seq (.reg 10 [I.n 0 33 (I.mv 1),I.n 1 34 (I.c1 71 33 23),I.n 2 9 (I.sa 34)]) (.seq (.reg 11 [I.n 0 35 (.buildSlice 23 0 #[]),I.n 1 10 (I.sa 35)]) (.seq (.block 0 (.loop (.seq (.seq (.reg 12 [I.n 0 36 (I.mv 8),I.n 1 37 (I.ln 36 23),I.n 2 38 (I.bc .gtr 3 37 0 3),I.n 3 39 (I.mv 38),I.w 4 40 (I.mv 9) 39 false,I.w 5 41 (I.ln 40 23) 39 false,I.w 6 42 (I.bc .gtr 3 41 0 3) 39 false,I.n 7 43 (I.pb 39 true 42)]) (.cond (.tmp 43) .skip (.exit 0))) (.block 1 (.seq (.seq (.reg 13 [I.n 0 44 (I.mv 9),I.n 1 45 (I.ln 44 23),I.n 2 46 (I.bc .gtr 3 45 0 3),I.n 3 47 (I.mv 46),I.w 4 48 (I.mv 9) 47 true,I.w 5 49 (I.ic 23 48 0) 47 true,I.w 6 50 (I.fa 35 49 0) 47 true,I.w 7 51 (I.ld 3 50) 47 true,I.w 8 52 (I.bc .eql 3 51 2 3) 47 true,I.n 9 53 (I.pc 47 52 false)]) (.cond (.tmp 53) (.seq (.reg 14 [I.n 0 54 (I.mv 10),I.n 1 55 (I.mv 9),I.n 2 56 (I.ic 23 55 0),I.n 3 57 (I.ld 35 56),I.n 4 58 (I.b1 23 57),I.n 5 59 (I.ap 54 58 23 23),I.n 6 10 (I.sa 59)]) (.seq (.reg 15 [I.n 0 60 (I.mv 9),I.n 1 61 (.slice 23 (.tmp 60) (some (.const (Value.int .i64 1))) none none),I.n 2 9 (I.sa 61)]) (.exit 1))) .skip)) (.seq (.seq (.reg 16 [I.n 0 62 (I.mv 8),I.n 1 63 (I.ic 23 62 0),I.n 2 64 (I.fa 35 63 0),I.n 3 65 (I.ld 3 64),I.n 4 66 (I.bc .eql 3 65 3 3)]) (.cond (.tmp 66) (.seq (.reg 17 [I.n 0 67 (I.mv 10),I.n 1 68 (I.mv 8),I.n 2 69 (I.ic 23 68 0),I.n 3 70 (I.ld 35 69),I.n 4 71 (I.b1 23 70),I.n 5 72 (I.ap 67 71 23 23),I.n 6 10 (I.sa 72)]) (.seq (.reg 18 [I.n 0 73 (I.mv 8),I.n 1 74 (.slice 23 (.tmp 73) (some (.const (Value.int .i64 1))) none none),I.n 2 8 (I.sa 74)]) (.exit 1))) .skip)) (.seq (.draw 19 [I.n 0 75 (I.mv 8),I.n 1 76 (I.ic 23 75 0),I.n 2 77 (I.ld 35 76),I.n 3 78 (I.c1 163 77 35),I.n 4 79 (I.mv 9),I.n 5 80 (I.ic 23 79 0),I.n 6 81 (I.ld 35 80),I.n 7 82 (I.c1 163 81 35),I.n 8 83 (.call { callee:=.builtin .min,args:=#[.tmp 78,.tmp 82],argTypes:=#[3,3] }),I.n 9 11 (I.sa 83)] [[],[0],[1],[2],[],[4],[5],[6,3],[3,7],[8,7,0,1,2,3,4,5,6,7,8]]) (.seq (.reg 20 [I.n 0 85 (I.mv 8),I.n 1 86 (I.ic 23 85 0),I.n 2 87 (I.ld 35 86),I.n 3 88 (I.mv 11),I.n 4 89 (I.c2 162 87 88 35 3),I.n 5 84 (I.mv 89),I.n 6 90 (I.ex 84 0),I.n 7 91 (I.ex 84 1),I.n 8 12 (.alloc 35),I.n 9 13 (.alloc 35),I.u 10 (I.st 35 12 90),I.u 11 (I.st 35 13 91)]) (.seq (.reg 21 [I.n 0 93 (I.mv 9),I.n 1 94 (I.ic 23 93 0),I.n 2 95 (I.ld 35 94),I.n 3 96 (I.mv 11),I.n 4 97 (I.c2 162 95 96 35 3),I.n 5 92 (I.mv 97),I.n 6 98 (I.ex 92 0),I.n 7 99 (I.ex 92 1),I.n 8 14 (.alloc 35),I.n 9 15 (.alloc 35),I.u 10 (I.st 35 14 98),I.u 11 (I.st 35 15 99)]) (.seq (.seq (.reg 22 [I.n 0 100 (I.fa 35 14 0),I.n 1 101 (I.ld 3 100),I.n 2 102 (I.bc .eql 3 101 1 3)]) (.cond (.tmp 102) (.reg 23 [I.n 0 103 (I.mv 10),I.n 1 104 (I.ld 35 12),I.n 2 105 (I.b1 23 104),I.n 3 106 (I.ap 103 105 23 23),I.n 4 10 (I.sa 106)]) (.seq (.reg 24 [I.n 0 107 (I.fa 35 12 0),I.n 1 108 (I.ld 3 107),I.n 2 109 (I.bc .eql 3 108 1 3)]) (.cond (.tmp 109) (.reg 25 [I.n 0 110 (I.mv 10),I.n 1 111 (I.ld 35 14),I.n 2 112 (I.b1 23 111),I.n 3 113 (I.ap 110 112 23 23),I.n 4 10 (I.sa 113)]) .skip)))) (.seq (.draw 26 [I.n 0 114 (I.ld 35 13),I.n 1 115 (I.b1 23 114),I.n 2 116 (I.mv 8),I.n 3 117 (.slice 23 (.tmp 116) (some (.const (Value.int .i64 1))) none none),I.n 4 118 (I.ap 115 117 23 23),I.n 5 8 (I.sa 118)] [[],[0],[],[2],[1,3],[4,4,0,1,2,3,4]]) (.seq (.draw 27 [I.n 0 119 (I.ld 35 15),I.n 1 120 (I.b1 23 119),I.n 2 121 (I.mv 9),I.n 3 122 (.slice 23 (.tmp 121) (some (.const (Value.int .i64 1))) none none),I.n 4 123 (I.ap 120 122 23 23),I.n 5 9 (I.sa 123)] [[],[0],[],[2],[1,3],[4,4,0,1,2,3,4]]) (.seq (.seq (.reg 28 [I.n 0 124 (I.ld 35 13),I.n 1 125 (I.c1 163 124 35),I.n 2 126 (I.bc .eql 3 125 0 3)]) (.cond (.tmp 126) (.reg 29 [I.n 0 127 (I.mv 8),I.n 1 128 (.slice 23 (.tmp 127) (some (.const (Value.int .i64 1))) none none),I.n 2 8 (I.sa 128)]) .skip)) (.seq (.reg 30 [I.n 0 129 (I.ld 35 15),I.n 1 130 (I.c1 163 129 35),I.n 2 131 (I.bc .eql 3 130 0 3)]) (.cond (.tmp 131) (.reg 31 [I.n 0 132 (I.mv 9),I.n 1 133 (.slice 23 (.tmp 132) (some (.const (Value.int .i64 1))) none none),I.n 2 9 (I.sa 133)]) .skip))))))))))))))) (.seq (.reg 32 [I.n 0 134 (I.mv 10),I.n 1 135 (I.c1 71 134 23),I.n 2 4 (I.sa 135),I.n 3 5 (I.si 0)]) .ret))))))))))):=by
 intro c h
 have:c = Tryd.f149.body.get rfl:=by rw [<- Option.some_inj,<- h];rfl
 rw [this];rfl
set_option maxHeartbeats 4000000 in
theorem XA (a b:List Sp) (la:a.length <= 10000000) (lb:b.length <= 10000000) (ta:bT a <= 100000000) (tb:bT b <= 100000000) (sa:Small a) (sb:Small b) (ma:aC a = 0) (mb:aC b = 0)
    (ho:sumW (fun s=>kQ s.k s.n s.t) a = sumW (fun s=>kN s.k s.n) b):aO env 149 [.lst 3 (aT a),.lst 3 (aT b)] (fun r hs=>r = .dM [.lst 3 (aT (kF a b)),.v (.int .i64 0)] /\ hs = []):=by
  have hA:=fV a (by omega) sa
  have hB:=fV b (by omega) sb
  rw [ma] at hA
  rw [mb] at hB
  have hO:=qJ a (by omega) sa
  have hIn:=iO b (by omega)
  have oa:=(oM.of ma (by omega)).1
  have ob:=(oM.of mb (by omega)).1
  have na:=oa.norm
  have nb:=ob.norm
  have hNA:=iP a (by omega) (by omega)
  have hNB:=iP b (by omega) (by omega)
  have ho':aY dO a = aY dZ b:=by
    have h1:=(oM.of mb (by omega)).2
    have h2:=ku a
    have h3:=lq a oa.all
    have h4:=oa.bnd
    rw [bg (by omega)] at h2
    rw [<- h2,<- h1];exact ho
  have hco:=sN oa ob ho'
  have hmm:dF (iC (norm a)) = dY (iC (norm b)):=by
    have e1:=bU oa.all
    have e2:=bU ob.all
    rw [na.2.2.1,nb.2.2.1];omega
  obtain ⟨C,hC⟩:∃ C,C = kK ((norm a).length + (norm b).length) (norm a) (norm b):=⟨_,rfl⟩
  have hcC:aI.norm C = kF a b:=by rw [hC];exact hco.2.2.2.2.1
  have hcL:C.length <= 20000000 /\ bT C <= 200000000:=by
    have h1:=hco.2.2.2.2.2.2.2.1
    have h2:=hco.2.2.2.2.2.2.2.2.1
    rw [hC];omega
  have hp:∀ (s:Sp) (l:List Sp),(0:Int) < ((aT (s :: l)).length:Int):=fun s l=>by rw [aV,List.length_cons];omega
  have hd:∀ (s:Sp) (l:List Sp),List.take ((aT (s :: l)).length - Int.toNat 1) (List.drop (Int.toNat 1) (aT (s :: l))) = aT l:=fun s l=>by
    show List.take ((aT (s :: l)).length - 1) (aT l) = aT l
    rw [List.take_of_length_le]
    rw [aV,aV,List.length_cons];omega
  have fA:∀ (r s:Sp) (l:List Sp),List.take (1 + (List.take ((aT (s :: l)).length - Int.toNat 1) (List.drop (Int.toNat 1) (aT (s :: l)))).length) (List.drop 0 ([[AV.v (.int .i64 r.k),AV.v (.int .i64 r.n),AV.v (.string r.t)]] ++ List.take ((aT (s :: l)).length - Int.toNat 1) (List.drop (Int.toNat 1) (aT (s :: l))))) = aT (r :: l):=fun r s l=>by
    rw [hd,List.drop_zero,List.take_of_length_le (by simp;omega)];rfl
  have fB:∀ (r s:Sp) (l:List Sp),List.take ((List.take (1 + (List.take ((aT (s :: l)).length - Int.toNat 1) (List.drop (Int.toNat 1) (aT (s :: l)))).length) (List.drop 0 ([[AV.v (.int .i64 r.k),AV.v (.int .i64 r.n),AV.v (.string r.t)]] ++ List.take ((aT (s :: l)).length - Int.toNat 1) (List.drop (Int.toNat 1) (aT (s :: l)))))).length - Int.toNat 1) (List.drop (Int.toNat 1) (List.take (1 + (List.take ((aT (s :: l)).length - Int.toNat 1) (List.drop (Int.toNat 1) (aT (s :: l)))).length) (List.drop 0 ([[AV.v (.int .i64 r.k),AV.v (.int .i64 r.n),AV.v (.string r.t)]] ++ List.take ((aT (s :: l)).length - Int.toNat 1) (List.drop (Int.toNat 1) (aT (s :: l))))))) = aT l:=fun r s l=>by
    rw [fA,hd]
  refine Ev.fn [0,1,4,5,6,7,8,9,10,11,12,13,14,15,21,24,30,43,53,66,102,109,126,131] 0 [.tmp 4,.tmp 5] Tryd.func149 (LM _ rfl) ?_
  repeat' (first | refine' Ev.zP | refine' Ev.zS | refine' Ev.zK | ((with_reducible refine Ev.ca0 ?_);(first | refine Ev.ca (hA) ?_ | refine Ev.ca (hB) ?_ | refine Ev.ca (hO) ?_ | refine Ev.ca (hIn) ?_ | refine Ev.ca (hNA) ?_ | refine Ev.ca (hNB) ?_);conv=>whnf) | ((with_reducible refine Ev.dG ?_);(first | refine Ev.dr 19 [] [0,1,2,4,5,6,3,7,8,9] ?_);intro Q hQ;(simp only [Ev.aj,Ev.ak]);conv=>whnf) | ((with_reducible refine Ev.dG ?_);(first | refine Ev.drv 26 [] [(2,false),(3,true),(0,false),(1,false),(4,false),(5,false)] ?_ | refine Ev.drv 27 [] [(2,false),(3,true),(0,false),(1,false),(4,false),(5,false)] ?_);intro Q hQ;(simp only [Ev.bn,Ev.bC,Ev.dw]);conv=>whnf) | refine' Ev.zT | fail)
  · refine Ev.loop (fun k s=>∃ (c v:Nat) (x y out:List Sp),s = ⟨[(8,.lst 3 (aT x)),(9,.lst 3 (aT y)),(10,.own 5632 v 0 out.length)],[(5632,⟨3,35,v,0,false,aT out⟩)],c⟩ /\ CI C k x y out) ?_ ?_
    · refine Ev.zB ⟨(norm a).length + (norm b).length,?_,?_,norm a,norm b,[],rfl,?_⟩
      exact ⟨by omega,na.1.all,nb.1.all,na.2.2.2.2.2.2.2,nb.2.2.2.2.2.2.2,hmm,by rw [hC];rfl,by simp;omega,by omega⟩
    rintro k s1 ⟨c,v,x,y,out,rfl,hI⟩
    have hol:=aV out
    have hbl:=hI.bl
    rcases x with _ | ⟨u,x⟩ <;> rcases y with _ | ⟨w,y⟩ <;> simp only [List.length_cons,List.length_nil] at hbl
    · have hout:=hI.fin
      subst hout
      repeat' (first | refine' Ev.zP | refine' Ev.zS | refine' Ev.zK | ((with_reducible refine Ev.ca0 ?_);(first | refine Ev.aU (iP out (by omega) (by omega)) rfl rfl ?_ | refine Ev.ca (iP out (by omega) (by omega)) ?_);conv=>whnf) | ((with_reducible refine Ev.dG ?_);(first | refine Ev.dr 19 [] [0,1,2,4,5,6,3,7,8,9] ?_);intro Q hQ;(simp only [Ev.aj,Ev.ak]);conv=>whnf) | ((with_reducible refine Ev.dG ?_);(first | refine Ev.drv 26 [] [(2,false),(3,true),(0,false),(1,false),(4,false),(5,false)] ?_ | refine Ev.drv 27 [] [(2,false),(3,true),(0,false),(1,false),(4,false),(5,false)] ?_);intro Q hQ;(simp only [Ev.bn,Ev.bC,Ev.dw]);conv=>whnf) | refine' Ev.zT | fail)
      exact ⟨by rw [hcC];rfl,rfl⟩
    · have hk:w.k = 2:=hI.vk
      obtain ⟨k',rfl,hJ⟩:=hI.s1 hk
      repeat' (first | (with_reducible refine Ev.aJ hk ?_) | (with_reducible refine Ev.aF hk ?_) | (with_reducible refine Ev.aJ (hp w y) ?_) | (with_reducible refine Ev.aF (hp w y) ?_) | refine' Ev.zP | refine' Ev.zS | refine' Ev.zK | ((with_reducible refine Ev.dG ?_);(first | refine Ev.dr 19 [] [0,1,2,4,5,6,3,7,8,9] ?_);intro Q hQ;(simp only [Ev.aj,Ev.ak]);conv=>whnf) | ((with_reducible refine Ev.dG ?_);(first | refine Ev.drv 26 [] [(2,false),(3,true),(0,false),(1,false),(4,false),(5,false)] ?_ | refine Ev.drv 27 [] [(2,false),(3,true),(0,false),(1,false),(4,false),(5,false)] ?_);intro Q hQ;(simp only [Ev.bn,Ev.bC,Ev.dw]);conv=>whnf) | refine' Ev.zT | fail)
      refine Ev.zA (k') ⟨?_,?_,[],y,out ++ [w],rfl,?_⟩ (by refine' Ev.zp <;> first | (first | exact Ev.aB (hd _ _) | (rw [aA];rfl) | (simp;done) | rfl) | rfl | (refine' Ev.ze;(first | exact Ev.aB (hd _ _) | (rw [aA];rfl) | (simp;done) | rfl)) | fail)
      exact hJ
    · have hk:u.k = 3:=hI.uk
      obtain ⟨k',rfl,hJ⟩:=hI.s2 hk (by simp)
      repeat' (first | (with_reducible refine Ev.aJ hk ?_) | (with_reducible refine Ev.aF hk ?_) | (with_reducible refine Ev.aJ (hp u x) ?_) | (with_reducible refine Ev.aF (hp u x) ?_) | refine' Ev.zP | refine' Ev.zS | refine' Ev.zK | ((with_reducible refine Ev.dG ?_);(first | refine Ev.dr 19 [] [0,1,2,4,5,6,3,7,8,9] ?_);intro Q hQ;(simp only [Ev.aj,Ev.ak]);conv=>whnf) | ((with_reducible refine Ev.dG ?_);(first | refine Ev.drv 26 [] [(2,false),(3,true),(0,false),(1,false),(4,false),(5,false)] ?_ | refine Ev.drv 27 [] [(2,false),(3,true),(0,false),(1,false),(4,false),(5,false)] ?_);intro Q hQ;(simp only [Ev.bn,Ev.bC,Ev.dw]);conv=>whnf) | refine' Ev.zT | fail)
      refine Ev.zA (k') ⟨?_,?_,x,[],out ++ [u],rfl,?_⟩ (by refine' Ev.zp <;> first | (first | exact Ev.aB (hd _ _) | (rw [aA];rfl) | (simp;done) | rfl) | rfl | (refine' Ev.ze;(first | exact Ev.aB (hd _ _) | (rw [aA];rfl) | (simp;done) | rfl)) | fail)
      exact hJ
    · by_cases hw2:w.k = 2
      · obtain ⟨k',rfl,hJ⟩:=hI.s1 hw2
        repeat' (first | (with_reducible refine Ev.aJ hw2 ?_) | (with_reducible refine Ev.aF hw2 ?_) | (with_reducible refine Ev.aJ (hp u x) ?_) | (with_reducible refine Ev.aF (hp u x) ?_) | (with_reducible refine Ev.aJ (hp w y) ?_) | (with_reducible refine Ev.aF (hp w y) ?_) | refine' Ev.zP | refine' Ev.zS | refine' Ev.zK | ((with_reducible refine Ev.dG ?_);(first | refine Ev.dr 19 [] [0,1,2,4,5,6,3,7,8,9] ?_);intro Q hQ;(simp only [Ev.aj,Ev.ak]);conv=>whnf) | ((with_reducible refine Ev.dG ?_);(first | refine Ev.drv 26 [] [(2,false),(3,true),(0,false),(1,false),(4,false),(5,false)] ?_ | refine Ev.drv 27 [] [(2,false),(3,true),(0,false),(1,false),(4,false),(5,false)] ?_);intro Q hQ;(simp only [Ev.bn,Ev.bC,Ev.dw]);conv=>whnf) | refine' Ev.zT | fail)
        refine Ev.zA (k') ⟨?_,?_,u :: x,y,out ++ [w],rfl,?_⟩ (by refine' Ev.zp <;> first | (first | exact Ev.aB (hd _ _) | (rw [aA];rfl) | (simp;done) | rfl) | rfl | (refine' Ev.ze;(first | exact Ev.aB (hd _ _) | (rw [aA];rfl) | (simp;done) | rfl)) | fail)
        exact hJ
      by_cases hu3:u.k = 3
      · obtain ⟨k',rfl,hJ⟩:=hI.s2 hu3 (by simpa using hw2)
        repeat' (first | (with_reducible refine Ev.aJ hu3 ?_) | (with_reducible refine Ev.aF hu3 ?_) | (with_reducible refine Ev.aP hw2 ?_) | (with_reducible refine Ev.aK hw2 ?_) | (with_reducible refine Ev.aJ (hp u x) ?_) | (with_reducible refine Ev.aF (hp u x) ?_) | (with_reducible refine Ev.aJ (hp w y) ?_) | (with_reducible refine Ev.aF (hp w y) ?_) | refine' Ev.zP | refine' Ev.zS | refine' Ev.zK | ((with_reducible refine Ev.dG ?_);(first | refine Ev.dr 19 [] [0,1,2,4,5,6,3,7,8,9] ?_);intro Q hQ;(simp only [Ev.aj,Ev.ak]);conv=>whnf) | ((with_reducible refine Ev.dG ?_);(first | refine Ev.drv 26 [] [(2,false),(3,true),(0,false),(1,false),(4,false),(5,false)] ?_ | refine Ev.drv 27 [] [(2,false),(3,true),(0,false),(1,false),(4,false),(5,false)] ?_);intro Q hQ;(simp only [Ev.bn,Ev.bC,Ev.dw]);conv=>whnf) | refine' Ev.zT | fail)
        refine Ev.zA (k') ⟨?_,?_,x,w :: y,out ++ [u],rfl,?_⟩ (by refine' Ev.zp <;> first | (first | exact Ev.aB (hd _ _) | (rw [aA];rfl) | (simp;done) | rfl) | rfl | (refine' Ev.ze;(first | exact Ev.aB (hd _ _) | (rw [aA];rfl) | (simp;done) | rfl)) | fail)
        exact hJ
      have Ia:w.t.size <= 1000000000:=by have:=hI.bt;rw [aN,aN] at this;omega
      have htu:u.t.size <= 1000000000:=by have:=hI.bt;rw [aN,aN] at this;omega
      obtain ⟨n,hn⟩:∃ n,min (dS u) (dS w) = n:=⟨_,rfl⟩
      obtain ⟨hnu,Pe,k',rfl,hJ⟩:=hI.s3 hw2 hu3 hn
      have hou:=hI.ax.head
      have how:=hI.ay.head
      obtain ⟨p1,p2,p3,p4,p5,p6,p7⟩:=kE hou hnu
      obtain ⟨q1,q2,q3,q4,q5,q6,q7⟩:=kE how Pe
      have zu:dS (bI u n) = dS u - n:=by rw [<- kV p2,p4,List.length_drop,kV hou]
      have zw:dS (bI w n) = dS w - n:=by rw [<- kV q2,q4,List.length_drop,kV how]
      have hmin:min ((dS u:Nat):Int) ((dS w:Nat):Int) = ((n:Nat):Int):=by omega
      repeat' (first | (with_reducible refine Ev.aP hu3 ?_) | (with_reducible refine Ev.aK hu3 ?_) | (with_reducible refine Ev.aP hw2 ?_) | (with_reducible refine Ev.aK hw2 ?_) | (with_reducible refine Ev.aJ (hp u x) ?_) | (with_reducible refine Ev.aF (hp u x) ?_) | (with_reducible refine Ev.aJ (hp w y) ?_) | (with_reducible refine Ev.aF (hp w y) ?_) | (((with_reducible refine Ev.lS 28 8 rfl rfl ?_ ?_);rotate_left;conv=>whnf)) | (((with_reducible refine Ev.lS 28 9 rfl rfl ?_ ?_);rotate_left;conv=>whnf)) | refine' Ev.zP | refine' Ev.zS | refine' Ev.zK | ((with_reducible refine Ev.ca0 ?_);(first | refine Ev.aU (pU (bI u n) p2 (by omega)) rfl rfl ?_ | refine Ev.aU (pU (bI w n) q2 (by omega)) rfl rfl ?_ | refine Ev.ca (pU u hou htu) ?_ | refine Ev.ca (pU w how Ia) ?_ | refine Ev.ca (jT u n hou htu hnu) ?_ | refine Ev.ca (jT w n how Ia Pe) ?_ | refine Ev.ca (pU (bI u n) p2 (by omega)) ?_ | refine Ev.ca (pU (bI w n) q2 (by omega)) ?_);conv=>whnf) | ((with_reducible refine Ev.dG ?_);(first | refine Ev.dr 19 [] [0,1,2,4,5,6,3,7,8,9] ?_);intro Q hQ;(simp only [Ev.aj,Ev.ak]);conv=>whnf) | ((with_reducible refine Ev.dG ?_);(first | refine Ev.drv 26 [] [(2,false),(3,true),(0,false),(1,false),(4,false),(5,false)] ?_ | refine Ev.drv 27 [] [(2,false),(3,true),(0,false),(1,false),(4,false),(5,false)] ?_);intro Q hQ;(simp only [Ev.bn,Ev.bC,Ev.dw]);conv=>whnf) | refine' Ev.zT | fail)
      · have hx:aS u n x = x:=if_pos (by omega)
        have hy:aS w n y = y:=if_pos (by omega)
        have hwk:w.k = 1:=by rw [<- q6];assumption
        rw [if_pos hwk,hx,hy] at hJ
        refine Ev.zA (k') ⟨?_,?_,x,y,out ++ [dJ u n],rfl,?_⟩ (by refine' Ev.zp <;> first | (first | exact Ev.aB (fB _ _ _) | exact Ev.aB (fA _ _ _) | (rw [aA];rfl) | (simp;done) | rfl) | rfl | (refine' Ev.ze;(first | exact Ev.aB (fB _ _ _) | exact Ev.aB (fA _ _ _) | (rw [aA];rfl) | (simp;done) | rfl)) | fail)
        exact hJ
      · have hx:aS u n x = x:=if_pos (by omega)
        have hy:aS w n y = bI w n :: y:=if_neg (by omega)
        have hwk:w.k = 1:=by rw [<- q6];assumption
        rw [if_pos hwk,hx,hy] at hJ
        refine Ev.zA (k') ⟨?_,?_,x,bI w n :: y,out ++ [dJ u n],rfl,?_⟩ (by refine' Ev.zp <;> first | (first | exact Ev.aB (fB _ _ _) | exact Ev.aB (fA _ _ _) | (rw [aA];rfl) | (simp;done) | rfl) | rfl | (refine' Ev.ze;(first | exact Ev.aB (fB _ _ _) | exact Ev.aB (fA _ _ _) | (rw [aA];rfl) | (simp;done) | rfl)) | fail)
        exact hJ
      · have hx:aS u n x = bI u n :: x:=if_neg (by omega)
        have hy:aS w n y = y:=if_pos (by omega)
        have hwk:w.k = 1:=by rw [<- q6];assumption
        rw [if_pos hwk,hx,hy] at hJ
        refine Ev.zA (k') ⟨?_,?_,bI u n :: x,y,out ++ [dJ u n],rfl,?_⟩ (by refine' Ev.zp <;> first | (first | exact Ev.aB (fB _ _ _) | exact Ev.aB (fA _ _ _) | (rw [aA];rfl) | (simp;done) | rfl) | rfl | (refine' Ev.ze;(first | exact Ev.aB (fB _ _ _) | exact Ev.aB (fA _ _ _) | (rw [aA];rfl) | (simp;done) | rfl)) | fail)
        exact hJ
      · have hx:aS u n x = bI u n :: x:=if_neg (by omega)
        have hy:aS w n y = bI w n :: y:=if_neg (by omega)
        have hwk:w.k = 1:=by rw [<- q6];assumption
        rw [if_pos hwk,hx,hy] at hJ
        refine Ev.zA (k') ⟨?_,?_,bI u n :: x,bI w n :: y,out ++ [dJ u n],rfl,?_⟩ (by refine' Ev.zp <;> first | (first | exact Ev.aB (fB _ _ _) | exact Ev.aB (fA _ _ _) | (rw [aA];rfl) | (simp;done) | rfl) | rfl | (refine' Ev.ze;(first | exact Ev.aB (fB _ _ _) | exact Ev.aB (fA _ _ _) | (rw [aA];rfl) | (simp;done) | rfl)) | fail)
        exact hJ
      · rw [hd];exact Ev.jG rfl (gQ _) (by rw [aV];omega) (by decide)
      · rw [hd];exact Ev.jG rfl (gQ _) (by rw [aV];omega) (by decide)
      · have hx:aS u n x = x:=if_pos (by omega)
        have hy:aS w n y = y:=if_pos (by omega)
        have hwk:¬ w.k = 1:=by rw [<- q6];assumption
        have vS:u.k = 1:=by rw [<- p6];assumption
        rw [if_neg hwk,if_pos vS,hx,hy] at hJ
        refine Ev.zA (k') ⟨?_,?_,x,y,out ++ [dJ w n],rfl,?_⟩ (by refine' Ev.zp <;> first | (first | exact Ev.aB (fB _ _ _) | exact Ev.aB (fA _ _ _) | (rw [aA];rfl) | (simp;done) | rfl) | rfl | (refine' Ev.ze;(first | exact Ev.aB (fB _ _ _) | exact Ev.aB (fA _ _ _) | (rw [aA];rfl) | (simp;done) | rfl)) | fail)
        exact hJ
      · have hx:aS u n x = x:=if_pos (by omega)
        have hy:aS w n y = bI w n :: y:=if_neg (by omega)
        have hwk:¬ w.k = 1:=by rw [<- q6];assumption
        have vS:u.k = 1:=by rw [<- p6];assumption
        rw [if_neg hwk,if_pos vS,hx,hy] at hJ
        refine Ev.zA (k') ⟨?_,?_,x,bI w n :: y,out ++ [dJ w n],rfl,?_⟩ (by refine' Ev.zp <;> first | (first | exact Ev.aB (fB _ _ _) | exact Ev.aB (fA _ _ _) | (rw [aA];rfl) | (simp;done) | rfl) | rfl | (refine' Ev.ze;(first | exact Ev.aB (fB _ _ _) | exact Ev.aB (fA _ _ _) | (rw [aA];rfl) | (simp;done) | rfl)) | fail)
        exact hJ
      · have hx:aS u n x = bI u n :: x:=if_neg (by omega)
        have hy:aS w n y = y:=if_pos (by omega)
        have hwk:¬ w.k = 1:=by rw [<- q6];assumption
        have vS:u.k = 1:=by rw [<- p6];assumption
        rw [if_neg hwk,if_pos vS,hx,hy] at hJ
        refine Ev.zA (k') ⟨?_,?_,bI u n :: x,y,out ++ [dJ w n],rfl,?_⟩ (by refine' Ev.zp <;> first | (first | exact Ev.aB (fB _ _ _) | exact Ev.aB (fA _ _ _) | (rw [aA];rfl) | (simp;done) | rfl) | rfl | (refine' Ev.ze;(first | exact Ev.aB (fB _ _ _) | exact Ev.aB (fA _ _ _) | (rw [aA];rfl) | (simp;done) | rfl)) | fail)
        exact hJ
      · have hx:aS u n x = bI u n :: x:=if_neg (by omega)
        have hy:aS w n y = bI w n :: y:=if_neg (by omega)
        have hwk:¬ w.k = 1:=by rw [<- q6];assumption
        have vS:u.k = 1:=by rw [<- p6];assumption
        rw [if_neg hwk,if_pos vS,hx,hy] at hJ
        refine Ev.zA (k') ⟨?_,?_,bI u n :: x,bI w n :: y,out ++ [dJ w n],rfl,?_⟩ (by refine' Ev.zp <;> first | (first | exact Ev.aB (fB _ _ _) | exact Ev.aB (fA _ _ _) | (rw [aA];rfl) | (simp;done) | rfl) | rfl | (refine' Ev.ze;(first | exact Ev.aB (fB _ _ _) | exact Ev.aB (fA _ _ _) | (rw [aA];rfl) | (simp;done) | rfl)) | fail)
        exact hJ
      · rw [hd];exact Ev.jG rfl (gQ _) (by rw [aV];omega) (by decide)
      · rw [hd];exact Ev.jG rfl (gQ _) (by rw [aV];omega) (by decide)
      · have hx:aS u n x = x:=if_pos (by omega)
        have hy:aS w n y = y:=if_pos (by omega)
        have hwk:¬ w.k = 1:=by rw [<- q6];assumption
        have vS:¬ u.k = 1:=by rw [<- p6];assumption
        rw [if_neg hwk,if_neg vS,List.append_nil,hx,hy] at hJ
        refine Ev.zA (k') ⟨?_,v,x,y,out,rfl,?_⟩ (by refine' Ev.zp <;> first | (first | exact Ev.aB (fB _ _ _) | exact Ev.aB (fA _ _ _) | (rw [aA];rfl) | (simp;done) | rfl) | rfl | (refine' Ev.ze;(first | exact Ev.aB (fB _ _ _) | exact Ev.aB (fA _ _ _) | (rw [aA];rfl) | (simp;done) | rfl)) | fail)
        exact hJ
      · have hx:aS u n x = x:=if_pos (by omega)
        have hy:aS w n y = bI w n :: y:=if_neg (by omega)
        have hwk:¬ w.k = 1:=by rw [<- q6];assumption
        have vS:¬ u.k = 1:=by rw [<- p6];assumption
        rw [if_neg hwk,if_neg vS,List.append_nil,hx,hy] at hJ
        refine Ev.zA (k') ⟨?_,v,x,bI w n :: y,out,rfl,?_⟩ (by refine' Ev.zp <;> first | (first | exact Ev.aB (fB _ _ _) | exact Ev.aB (fA _ _ _) | (rw [aA];rfl) | (simp;done) | rfl) | rfl | (refine' Ev.ze;(first | exact Ev.aB (fB _ _ _) | exact Ev.aB (fA _ _ _) | (rw [aA];rfl) | (simp;done) | rfl)) | fail)
        exact hJ
      · have hx:aS u n x = bI u n :: x:=if_neg (by omega)
        have hy:aS w n y = y:=if_pos (by omega)
        have hwk:¬ w.k = 1:=by rw [<- q6];assumption
        have vS:¬ u.k = 1:=by rw [<- p6];assumption
        rw [if_neg hwk,if_neg vS,List.append_nil,hx,hy] at hJ
        refine Ev.zA (k') ⟨?_,v,bI u n :: x,y,out,rfl,?_⟩ (by refine' Ev.zp <;> first | (first | exact Ev.aB (fB _ _ _) | exact Ev.aB (fA _ _ _) | (rw [aA];rfl) | (simp;done) | rfl) | rfl | (refine' Ev.ze;(first | exact Ev.aB (fB _ _ _) | exact Ev.aB (fA _ _ _) | (rw [aA];rfl) | (simp;done) | rfl)) | fail)
        exact hJ
      · have hx:aS u n x = bI u n :: x:=if_neg (by omega)
        have hy:aS w n y = bI w n :: y:=if_neg (by omega)
        have hwk:¬ w.k = 1:=by rw [<- q6];assumption
        have vS:¬ u.k = 1:=by rw [<- p6];assumption
        rw [if_neg hwk,if_neg vS,List.append_nil,hx,hy] at hJ
        refine Ev.zA (k') ⟨?_,v,bI u n :: x,bI w n :: y,out,rfl,?_⟩ (by refine' Ev.zp <;> first | (first | exact Ev.aB (fB _ _ _) | exact Ev.aB (fA _ _ _) | (rw [aA];rfl) | (simp;done) | rfl) | rfl | (refine' Ev.ze;(first | exact Ev.aB (fB _ _ _) | exact Ev.aB (fA _ _ _) | (rw [aA];rfl) | (simp;done) | rfl)) | fail)
        exact hJ
      · rw [hd];exact Ev.jG rfl (gQ _) (by rw [aV];omega) (by decide)
      · rw [hd];exact Ev.jG rfl (gQ _) (by rw [aV];omega) (by decide)
  · rename_i h;exact absurd ho h
def jr (a b:List Sp):Int:=if aC a ≠ 0 then aC a else if aC b ≠ 0 then aC b else if outW a ≠ iT b then 5 else 0
def Pj (a b:List Sp):AV:=.dM [if jr a b = 0 then .lst 3 (aT (kF a b)) else nilA,.v (.int .i64 (jr a b))]
theorem pV {a b:List Sp} {e:Int} (h:jr a b = e) (h0:e ≠ 0):Pj a b = .dM [nilA,.v (.int .i64 e)]:=by
 unfold Pj;rw [h,if_neg h0]
theorem LP {a b:List Sp} (h:jr a b = 0):Pj a b = .dM [.lst 3 (aT (kF a b)),.v (.int .i64 0)]:=by
 unfold Pj;rw [h,if_pos rfl]
theorem aa4{G:Prop}(h:G:=by
 refine Ev.fn [0,1,4,5,7,8,9,10,11,12,13,14,17,18,19,20,26,33,38,49,60,80,88] 0 [.tmp 4,.tmp 5] Tryd.func113 (LD _ rfl) ?_
 refine' Ev.zW
 refine Ev.jumps (r:=?_) 0 (fun k s=>False) (by rfl) ?_ (fun _ _ h=>h.elim)
 all_goals(rcases(⟨_⟩:PLift _)with⟨h⟩;exact h)):G:=h
theorem aep{G:Prop}(h:G:=by
 have:jr a b = 5:=by unfold jr;rw [if_neg (by simpa using ma),if_neg (by simpa using mb),if_pos (by simpa [outW,iT] using ho)]
 rw [pV this (by decide)]
 all_goals(rcases(⟨_⟩:PLift _)with⟨h⟩;exact h)):G:=h
theorem afm{G:Prop}(h:G:=by
 have:jr a b = 0:=by unfold jr;rw [if_neg (by simpa using ma),if_neg (by simpa using mb),if_neg (by simpa [outW,iT] using ho)]
 rw [LP this]
 all_goals(rcases(⟨_⟩:PLift _)with⟨h⟩;exact h)):G:=h
theorem TF (a b:List Sp) (la:a.length <= 10000000) (lb:b.length <= 10000000) (ta:bT a <= 100000000) (tb:bT b <= 100000000) (sa:Small a) (sb:Small b) :
   aO env 113 [.lst 3 (aT a),.lst 3 (aT b)] (fun r hs=>r = Pj a b /\ hs = []):=by
 have hA:=dL a (by omega) sa
 have hB:=dL b (by omega) sb
 by_cases ma:aC a = 0
 · by_cases mb:aC b = 0
   · by_cases ho:sumW (fun s=>kQ s.k s.n s.t) a = sumW (fun s=>kN s.k s.n) b
     · refine' afm
       exact abN a b la lb ta tb sa sb ma mb ho
     · refine' aep
       have hO:=mY a (by omega) sa
       have hIn:=fF b (by omega)
       rw [ma] at hA
       rw [mb] at hB
       refine' aa4
       repeat' (first | refine' Ev.zP | (with_reducible refine Ev.aP ho ?_) | (with_reducible refine Ev.aK ho ?_) | refine' Ev.zS | refine' Ev.zK | (with_reducible refine Ev.qH 3 ?_) | ((with_reducible refine Ev.ca0 ?_);(first | refine Ev.ca (hA) ?_ | refine Ev.ca (hB) ?_ | refine Ev.ca (hO) ?_ | refine Ev.ca (hIn) ?_);conv=>whnf) | refine' Ev.zT | fail)
       exact ⟨rfl,rfl⟩
   · have:jr a b = aC b:=by unfold jr;rw [if_neg (by simpa using ma),if_pos mb]
     rw [pV this mb]
     rw [ma] at hA
     refine' aa4
     repeat' (first | refine' Ev.zP | (with_reducible refine Ev.aP mb ?_) | (with_reducible refine Ev.aK mb ?_) | refine' Ev.zS | refine' Ev.zK | (with_reducible refine Ev.qH 3 ?_) | ((with_reducible refine Ev.ca0 ?_);(first | refine Ev.ca (hA) ?_ | refine Ev.ca (hB) ?_);conv=>whnf) | refine' Ev.zT | fail)
     exact ⟨rfl,rfl⟩
 · have:jr a b = aC a:=by unfold jr;rw [if_pos ma]
   rw [pV this ma]
   refine' aa4
   repeat' (first | refine' Ev.zP | (with_reducible refine Ev.aP ma ?_) | (with_reducible refine Ev.aK ma ?_) | refine' Ev.zS | refine' Ev.zK | (with_reducible refine Ev.qH 3 ?_) | ((with_reducible refine Ev.ca0 ?_);(first | refine Ev.ca (hA) ?_ | refine Ev.ca (hB) ?_);conv=>whnf) | refine' Ev.zT | fail)
   exact ⟨rfl,rfl⟩
theorem acs{G:Prop}(h:G:=by (refine Ev.fn [0,1,4,5,6,7,8,9,10,11,12,13,14,15,21,24,30,43,53,66,102,109,126,131] 0 [.tmp 4,.tmp 5] Tryd.func149 (LM _ rfl) ?_);all_goals(rcases(⟨_⟩:PLift _)with⟨h⟩;exact h)):G:=h
theorem Pm (a b:List Sp) (la:a.length <= 10000000) (lb:b.length <= 10000000) (ta:bT a <= 100000000) (tb:bT b <= 100000000) (sa:Small a) (sb:Small b) :
   aO env 149 [.lst 3 (aT a),.lst 3 (aT b)] (fun r hs=>r = Pj a b /\ hs = []):=by
 have hA:=fV a (by omega) sa
 have hB:=fV b (by omega) sb
 by_cases ma:aC a = 0
 · by_cases mb:aC b = 0
   · by_cases ho:sumW (fun s=>kQ s.k s.n s.t) a = sumW (fun s=>kN s.k s.n) b
     · refine' afm
       exact XA a b la lb ta tb sa sb ma mb ho
     · refine' aep
       have hO:=qJ a (by omega) sa
       have hIn:=iO b (by omega)
       rw [ma] at hA
       rw [mb] at hB
       refine' acs
       repeat' (first | refine' Ev.zP | (with_reducible refine Ev.aP ho ?_) | (with_reducible refine Ev.aK ho ?_) | refine' Ev.zS | refine' Ev.zK | ((with_reducible refine Ev.ca0 ?_);(first | refine Ev.ca (hA) ?_ | refine Ev.ca (hB) ?_ | refine Ev.ca (hO) ?_ | refine Ev.ca (hIn) ?_);conv=>whnf) | ((with_reducible refine Ev.dG ?_);(first | refine Ev.dr 19 [] [0,1,2,4,5,6,3,7,8,9] ?_);intro Q hQ;(simp only [Ev.aj,Ev.ak]);conv=>whnf) | ((with_reducible refine Ev.dG ?_);(first | refine Ev.drv 26 [] [(2,false),(3,true),(0,false),(1,false),(4,false),(5,false)] ?_ | refine Ev.drv 27 [] [(2,false),(3,true),(0,false),(1,false),(4,false),(5,false)] ?_);intro Q hQ;(simp only [Ev.bn,Ev.bC,Ev.dw]);conv=>whnf) | refine' Ev.zT | fail)
       exact ⟨rfl,rfl⟩
   · have:jr a b = aC b:=by unfold jr;rw [if_neg (by simpa using ma),if_pos mb]
     rw [pV this mb]
     rw [ma] at hA
     refine' acs
     repeat' (first | refine' Ev.zP | (with_reducible refine Ev.aP mb ?_) | (with_reducible refine Ev.aK mb ?_) | refine' Ev.zS | refine' Ev.zK | ((with_reducible refine Ev.ca0 ?_);(first | refine Ev.ca (hA) ?_ | refine Ev.ca (hB) ?_);conv=>whnf) | ((with_reducible refine Ev.dG ?_);(first | refine Ev.dr 19 [] [0,1,2,4,5,6,3,7,8,9] ?_);intro Q hQ;(simp only [Ev.aj,Ev.ak]);conv=>whnf) | ((with_reducible refine Ev.dG ?_);(first | refine Ev.drv 26 [] [(2,false),(3,true),(0,false),(1,false),(4,false),(5,false)] ?_ | refine Ev.drv 27 [] [(2,false),(3,true),(0,false),(1,false),(4,false),(5,false)] ?_);intro Q hQ;(simp only [Ev.bn,Ev.bC,Ev.dw]);conv=>whnf) | refine' Ev.zT | fail)
     exact ⟨rfl,rfl⟩
 · have:jr a b = aC a:=by unfold jr;rw [if_pos ma]
   rw [pV this ma]
   refine' acs
   repeat' (first | refine' Ev.zP | (with_reducible refine Ev.aP ma ?_) | (with_reducible refine Ev.aK ma ?_) | refine' Ev.zS | refine' Ev.zK | ((with_reducible refine Ev.ca0 ?_);(first | refine Ev.ca (hA) ?_ | refine Ev.ca (hB) ?_);conv=>whnf) | ((with_reducible refine Ev.dG ?_);(first | refine Ev.dr 19 [] [0,1,2,4,5,6,3,7,8,9] ?_);intro Q hQ;(simp only [Ev.aj,Ev.ak]);conv=>whnf) | ((with_reducible refine Ev.dG ?_);(first | refine Ev.drv 26 [] [(2,false),(3,true),(0,false),(1,false),(4,false),(5,false)] ?_ | refine Ev.drv 27 [] [(2,false),(3,true),(0,false),(1,false),(4,false),(5,false)] ?_);intro Q hQ;(simp only [Ev.bn,Ev.bC,Ev.dw]);conv=>whnf) | refine' Ev.zT | fail)
   exact ⟨rfl,rfl⟩
theorem abO:∀ c,Tryd.f83.body = some c -> comp c = (.seq (.reg 0 [I.n 0 4 I.sn]) (.seq (.seq (.reg 1 [I.n 0 5 (I.mv 0),I.n 1 6 (I.ic 23 5 0),I.n 2 7 (I.fa 35 6 1),I.n 3 8 (I.ld 3 7),I.n 4 9 (I.mv 1),I.n 5 10 (I.bo .sub 3 8 9 3),I.n 6 11 (I.ic 23 5 0),I.n 7 12 (I.fa 35 11 1),I.u 8 (I.st 3 12 10)]) (.seq (.reg 2 [I.n 0 13 (I.mv 0),I.n 1 14 (I.ic 23 13 0),I.n 2 15 (I.fa 35 14 1),I.n 3 16 (I.ld 3 15),I.n 4 17 (I.bc .eql 3 16 0 3)]) (.cond (.tmp 17) (.seq (.reg 3 [I.n 0 18 (I.mv 0),I.n 1 19 (.slice 23 (.tmp 18) (some (.const (Value.int .i64 1))) none none),I.n 2 4 (I.sa 19)]) .ret) .skip))) (.seq (.reg 4 [I.n 0 20 (I.mv 0),I.n 1 4 (I.sa 20)]) .ret))):=by
 intro c h
 have:c = Tryd.f83.body.get rfl:=by rw [<- Option.some_inj,<- h];rfl
 rw [this];rfl
def Ib (x E:List Sp) (off:Nat):Prop:=off + x.length <= E.length /\ (E.drop off).take x.length = x
theorem Ib.cons {s:Sp} {l E:List Sp} {off:Nat} (h:Ib (s :: l) E off):∃ h:off < E.length,E[off] = s /\ Ib l E (off + 1):=by
 obtain ⟨h1,h2⟩:=h
 simp only [List.length_cons] at h1 h2
 have hlt:off < E.length:=by omega
 rw [List.drop_eq_getElem_cons hlt,List.take_succ_cons] at h2
 injection h2 with a b
 exact ⟨hlt,a,by omega,b⟩
theorem Ib.set {s u:Sp} {l E:List Sp} {off:Nat} (h:Ib (s :: l) E off):Ib (u :: l) (E.set off u) off /\ Ib l (E.set off u) (off + 1):=by
 obtain ⟨h1,h2,h3,h4⟩:=h.cons
 have e:Ib l (E.set off u) (off + 1):=⟨by simpa using h3,by rw [List.drop_set_of_lt (by omega)];exact h4⟩
 refine ⟨⟨by have:=h.1;simpa using this,?_⟩,e⟩
 have hlt:off < (E.set off u).length:=by simpa using h1
 rw [List.drop_eq_getElem_cons hlt,List.length_cons,List.take_succ_cons,e.2,List.getElem_set_self]
theorem Inv.LQ {E:Env} {M0:qV} {w0:World} {c:Nat} {M:Mem} {J:bJ} {W:World} {R R' sz ty v fH:Nat} {es:List (List AV)} (inv:Inv E M0 w0 c M J ⟨[],[(R,⟨sz,ty,v,fH,false,es⟩)],0⟩ #[] W) :
   Inv E M0 w0 c M J ⟨[],[(R',⟨sz,ty,v,fH,false,es⟩)],0⟩ #[] W:=by
 have gR:get [(R,(⟨sz,ty,v,fH,false,es⟩:aG))] R = some ⟨sz,ty,v,fH,false,es⟩:=by rw [au,if_pos rfl]
 have out:∀ {r:Nat} {k:aG},get [(R',(⟨sz,ty,v,fH,false,es⟩:aG))] r = some k -> r = R' /\ k = ⟨sz,ty,v,fH,false,es⟩:=by
   intro r k h
   rw [au] at h
   split at h
   · rename_i e;exact ⟨e,(Option.some.inj h).symm⟩
   · rw [get_nil] at h;cases h
 refine' ac8
 · intro r k hk
   obtain ⟨rfl,rfl⟩:=out hk
   exact inv.heap _ _ gR
 · intro r r' k k' L L' hk hk' hL hL' hN hN' hr
   obtain ⟨rfl,rfl⟩:=out hk
   obtain ⟨rfl,rfl⟩:=out hk'
   exact absurd rfl hr
 · intro r k L o u hk hL hN hu
   obtain ⟨rfl,rfl⟩:=out hk
   exact inv.owns _ _ L o u gR hL hN hu
abbrev TG (R v:Nat) (E:List Sp):List (Nat × aG):=[(R,⟨3,35,v,0,false,aT E⟩)]
theorem adz{G:Prop}(h:G:=by
 refine Ev.Cj [0,1,4,17] 65536 [.tmp 4] Tryd.func83 (abO _ rfl) (fun ct=>?_)
 repeat' (first | refine' Ev.zS | refine' Ev.zK | ((refine JY (by rw [aV];omega) ?_);conv=>whnf) | refine' Ev.zT | fail)
 all_goals(rcases(⟨_⟩:PLift _)with⟨h⟩;exact h)):G:=h
theorem TJ (v:Nat) {s:Sp} {l E:List Sp} {off n:Nat} (h:Ib (s :: l) E off) (hs:bM s) (hk:s.k ≠ 2) (hm:n <= dS s) :
   dn env 65536 83 [.own 7000 v off (l.length + 1),.v (.int .i64 n)] (TG 7000 v E) (fun r hp1=>∃ (E':List Sp) (off':Nat),r = .own 7000 v off' (aS s n l).length /\ hp1 = (7000,⟨3,35,v,0,false,aT E'⟩) :: TG 7000 v E /\ Ib (aS s n l) E' off'):=by
 have hE:=aV E
 obtain ⟨h1,h2,h3⟩:=h.cons
 have hl:off + (l.length + 1) <= E.length:=h.1
 obtain ⟨hn,ht⟩:(0 <= s.n /\ s.n <= 1048576) /\ s.t = ⟨#[]⟩:=by
   rcases hs.cases with ⟨a,b,c,d⟩ | ⟨a,b,c⟩
   · exact ⟨⟨b,c⟩,d⟩
   · exact absurd a hk
 rw [fP hk] at hm
 obtain ⟨r1,r2⟩:=h.set (u:=bI s n)
 have hst:bI s n = ⟨s.k,s.n - n,⟨#[]⟩⟩:=sK n hk
 have hE0:∀ h:off + Int.toNat 0 < E.length,E[off + Int.toNat 0]'h = s:=fun _=>h2
 have hrow:∀ h:off + Int.toNat 0 < E.length,(aT E).set (off + Int.toNat 0) (dN (qR (E[off + Int.toNat 0]'h)) (0 + 1) [.v (.int .i64 (IntKind.i64.wrap ((E[off + Int.toNat 0]'h).n - n)))]) = aT (E.set off (bI s n)):=by
   intro h
   rw [hE0 h,bg (by omega),<- lJ,hst]
   obtain ⟨k,m,t⟩:=s
   simp only at ht
   subst ht
   rfl
 unfold aS
 rw [fP hk]
 by_cases hz:s.n.toNat = n
 · rw [if_pos hz]
   have hw:∀ h:off + Int.toNat 0 < E.length,IntKind.i64.wrap ((E[off + Int.toNat 0]'h).n - n) = 0:=fun h=>by rw [hE0 h,bg (by omega)];omega
   refine' adz
   · exact ⟨_,off + 1,rfl,congrArg (fun e=>(7000,(⟨3,35,v,0,false,e⟩:aG)) :: TG 7000 v E) (hrow _),r2⟩
   · exact absurd (hw _) (by assumption)
 · rw [if_neg hz]
   have hw:∀ h:off + Int.toNat 0 < E.length,¬ IntKind.i64.wrap ((E[off + Int.toNat 0]'h).n - n) = 0:=fun h=>by rw [hE0 h,bg (by omega)];omega
   refine' adz
   · exact absurd (by assumption) (hw _)
   · exact ⟨_,off,rfl,congrArg (fun e=>(7000,(⟨3,35,v,0,false,e⟩:aG)) :: TG 7000 v E) (hrow _),r1⟩
theorem Pn (v:Nat) {s:Sp} {l E:List Sp} {off n:Nat} (h:Ib (s :: l) E off) (hs:bM s) (hk:s.k ≠ 2) (hm:n <= dS s) :
   dn env 65536 83 [.own 7000 v off (l.length + 1),.v (.int .i64 n)] (TG 7000 v E) (fun r hp1=>∃ (E':List Sp) (off':Nat),r = .own 7000 v off' (aS s n l).length /\ hp1 = TG 7000 v E' /\ Ib (aS s n l) E' off'):=by
 refine iQ (TJ v h hs hk hm) ?_
 rintro r hp1 ⟨E',off',rfl,rfl,h'⟩
 exact ⟨TG 7000 v E',⟨E',off',rfl,rfl,h'⟩,⟨Ev.ah rfl rfl,trivial⟩⟩
theorem TL:∀ c,Tryd.f36.body = some c -> comp c = (.seq (.reg 0 [I.n 0 4 (.alloc 23),I.n 1 5 (I.si 0)]) (.seq (.seq (.reg 1 [I.n 0 10 (I.mv 0),I.n 1 11 (I.mv 1),I.n 2 12 (.buildSlice 22 2 #[(0,.tmp 10),(1,.tmp 11)]),I.n 3 13 (I.ln 12 22),I.n 4 14 (.move (.const (Value.int .i64 0)))]) (.block 0 (.loop (.seq (.reg 2 [I.n 0 15 (I.bo .lss 3 14 13 3)]) (.seq (.cond (.tmp 15) .skip (.exit 0)) (.seq (.block 1 (.seq (.reg 3 [I.n 0 16 (I.ia 22 12 14),I.n 1 17 (I.ld 23 16),I.n 2 7 (I.sa 17)]) (.seq (.reg 4 [I.n 0 18 (I.mv 7),I.n 1 19 (I.c1 72 18 23),I.n 2 8 (I.sa 19)]) (.seq (.reg 5 [I.n 0 20 (I.mv 8),I.n 1 21 (I.bc .neq 30 20 0 30)]) (.cond (.tmp 21) (.seq (.reg 6 [I.n 0 22 (I.mv 8),I.u 1 (.store 23 (.tmp 4) (.const (Value.slice none 0 0))),I.n 2 5 (I.sa 22)]) .ret) .skip))))) (.reg 7 [I.n 0 23 (I.bc .add 3 14 1 3),I.n 1 14 (I.mv 23)]))))))) (.seq (.seq (.reg 8 [I.n 0 24 (I.mv 0),I.n 1 25 (I.c1 74 24 23),I.n 2 26 (I.mv 1),I.n 3 27 (I.c1 74 26 23),I.n 4 28 (I.bo .neq 3 25 27 3)]) (.cond (.tmp 28) (.seq (.reg 9 [I.u 0 (.store 23 (.tmp 4) (.const (Value.slice none 0 0))),I.n 1 5 (I.si 5)]) .ret) .skip)) (.seq (.reg 10 [I.n 0 29 (.makeFunc (.func 81) #[] #[.tmp 4]),I.u 1 (.defer { callee:=.value (.tmp 29),args:=#[],argTypes:=#[] })]) (.seq (.reg 11 [I.n 0 30 (I.mv 0),I.n 1 31 (I.c1 35 30 23),I.n 2 32 (I.mv 1),I.n 3 33 (I.c1 35 32 23),I.n 4 0 (I.sa 31),I.n 5 1 (I.sa 33)]) (.seq (.block 2 (.loop (.seq (.seq (.reg 12 [I.n 0 34 (I.mv 0),I.n 1 35 (I.ln 34 23),I.n 2 36 (I.bc .gtr 3 35 0 3),I.n 3 37 (I.mv 36),I.w 4 38 (I.mv 1) 37 false,I.w 5 39 (I.ln 38 23) 37 false,I.w 6 40 (I.bc .gtr 3 39 0 3) 37 false,I.n 7 41 (I.pb 37 true 40)]) (.cond (.tmp 41) .skip (.exit 2))) (.block 3 (.block 4 (.seq (.reg 17 [I.n 0 72 (I.mv 1),I.n 1 73 (I.ln 72 23),I.n 2 74 (I.bc .gtr 3 73 0 3),I.n 3 75 (I.mv 74),I.w 4 76 (I.mv 1) 75 true,I.w 5 77 (I.ic 23 76 0) 75 true,I.w 6 78 (I.fa 35 77 0) 75 true,I.w 7 79 (I.ld 3 78) 75 true,I.w 8 80 (I.bc .eql 3 79 2 3) 75 true,I.n 9 81 (I.pc 75 80 false),I.n 10 71 (I.sa 81)]) (.cond (.tmp 71) (.seq (.draw 18 [I.n 0 82 (I.ld 23 4),I.n 1 83 (I.mv 1),I.n 2 84 (I.ic 23 83 0),I.n 3 85 (I.ld 35 84),I.n 4 86 (I.c1 82 85 35),I.n 5 87 (.build 35 #[(0,.const (Value.int .i64 1)),(1,.tmp 86)]),I.n 6 88 (I.b1 23 87),I.n 7 89 (I.ap 82 88 23 23),I.u 8 (I.st 23 4 89)] [[],[],[1],[2],[3],[4],[5],[0,6,4],[7,7,0,1,2,3,4,5,6,7]]) (.reg 19 [I.n 0 90 (I.mv 1),I.n 1 91 (.slice 23 (.tmp 90) (some (.const (Value.int .i64 1))) none none),I.n 2 1 (I.sa 91)])) (.seq (.reg 20 [I.n 0 93 (I.mv 0),I.n 1 94 (I.ln 93 23),I.n 2 95 (I.bc .gtr 3 94 0 3),I.n 3 96 (I.mv 95),I.w 4 97 (I.mv 0) 96 true,I.w 5 98 (I.ic 23 97 0) 96 true,I.w 6 99 (I.fa 35 98 0) 96 true,I.w 7 100 (I.ld 3 99) 96 true,I.w 8 101 (I.bc .eql 3 100 2 3) 96 true,I.n 9 102 (I.pc 96 101 false),I.n 10 92 (I.sa 102)]) (.cond (.tmp 92) (.seq (.draw 21 [I.n 0 103 (I.ld 23 4),I.n 1 104 (I.mv 0),I.n 2 105 (I.ic 23 104 0),I.n 3 106 (I.ld 35 105),I.n 4 107 (I.b1 23 106),I.n 5 108 (I.ap 103 107 23 23),I.u 6 (I.st 23 4 108)] [[],[],[1],[2],[3],[0,4],[5,5,0,1,2,3,4,5]]) (.reg 22 [I.n 0 109 (I.mv 0),I.n 1 110 (.slice 23 (.tmp 109) (some (.const (Value.int .i64 1))) none none),I.n 2 0 (I.sa 110)])) (.seq (.draw 13 [I.n 0 42 (I.mv 0),I.n 1 43 (I.ic 23 42 0),I.n 2 44 (I.fa 35 43 1),I.n 3 45 (I.ld 3 44),I.n 4 46 (I.mv 1),I.n 5 47 (I.ic 23 46 0),I.n 6 48 (I.fa 35 47 1),I.n 7 49 (I.ld 3 48),I.n 8 50 (.call { callee:=.builtin .min,args:=#[.tmp 45,.tmp 49],argTypes:=#[3,3] }),I.n 9 9 (I.sa 50)] [[],[0],[1],[2],[],[4],[5],[6],[3,7],[8,0,1,2,3,4,5,6,7,8]]) (.seq (.seq (.reg 14 [I.n 0 51 (I.mv 1),I.n 1 52 (I.ic 23 51 0),I.n 2 53 (I.fa 35 52 0),I.n 3 54 (I.ld 3 53),I.n 4 55 (I.bc .eql 3 54 1 3)]) (.cond (.tmp 55) (.draw 15 [I.n 0 56 (I.ld 23 4),I.n 1 57 (I.mv 0),I.n 2 58 (I.ic 23 57 0),I.n 3 59 (I.fa 35 58 0),I.n 4 60 (I.ld 3 59),I.n 5 61 (I.mv 9),I.n 6 62 (.build 35 #[(0,.tmp 60),(1,.tmp 61)]),I.n 7 63 (I.b1 23 62),I.n 8 64 (I.ap 56 63 23 23),I.u 9 (I.st 23 4 64)] [[],[],[1],[2],[3],[],[4,5],[6],[0,7],[8,8,0,1,2,3,4,5,6,7,8]]) .skip)) (.reg 16 [I.n 0 65 (I.mv 0),I.n 1 66 (I.mv 9),I.n 2 67 (I.c2 83 65 66 23 3),I.n 3 68 (I.mv 1),I.n 4 69 (I.mv 9),I.n 5 70 (I.c2 83 68 69 23 3),I.n 6 0 (I.sa 67),I.n 7 1 (I.sa 70)])))))))))))) (.seq (.reg 23 [I.n 0 111 (I.ld 23 4),I.u 1 (I.st 23 4 111),I.n 2 5 (I.si 0)]) .ret))))))):=by
 intro c h
 have:c = Tryd.f36.body.get rfl:=by rw [<- Option.some_inj,<- h];rfl
 rw [this];rfl
theorem abP:∀ c,Tryd.f81.body = some c -> comp c = (.reg 0 [I.n 0 1 (I.ld 23 0),I.n 1 2 (I.c1 35 1 23),I.u 2 (I.st 23 0 2)]):=by
 intro c h
 have:c = Tryd.f81.body.get rfl:=by rw [<- Option.some_inj,<- h];rfl
 rw [this];rfl
theorem Po (v0 v:Nat) (C:List Sp) (hl:C.length <= 100000000) (hb:bT C <= 1000000000) :
   Bo env 81 [.ptr 0 v0 0 0] [(0,⟨1,23,v0,0,true,[[.own 9000 v 0 C.length]]⟩),(9000,⟨3,35,v,0,false,aT C⟩)]
     (fun h=>h = [(0,⟨1,23,v0,0,true,[[.lst 3 (aT (norm C))]]⟩),(9000,⟨3,35,v,max 0 (min (0 + C.length) (aT C).length),false,aT C⟩),(0,⟨1,23,v0,0,true,[[.own 9000 v 0 C.length]]⟩),(9000,⟨3,35,v,0,false,aT C⟩)]):=by
 have hE:=aV C
 refine Ev.fnD [0] 65536 [] Tryd.func81 (abP _ rfl) (fun ct=>?_)
 repeat' (first | refine' Ev.zS | refine' Ev.zK | ((with_reducible refine Ev.ca0 ?_);(first | refine Ev.ca (sG C hl hb) ?_);conv=>whnf) | refine' Ev.zT | fail)
 rfl
theorem LU {nm ct n:Nat} {ni:Int} {hp:List (Nat × aG)} {K:AV -> List (Nat × aG) -> Nat -> Prop} (B:Nat) (F:List (Nat × aG)) {v:Nat} {s:Sp} {l E:List Sp} {off:Nat} (h:Ib (s :: l) E off) (hok:bM s) (hk2:s.k ≠ 2) (hm:n <= dS s) (hni:ni = (n:Int))
   (hs:subs hp (TG B v E)) (hF:subs hp F) (hB:get F B = none)
   (hk:∀ E' off',Ib (aS s n l) E' off' -> ∀ c',ct + 8 <= c' -> K (.own B v off' (aS s n l).length) (TG B v E' ++ F) c'):Ev.dK env nm 83 [.own B v off (l.length + 1),.v (.int .i64 ni)] hp ct K:=by
 subst hni
 have hc:=Pn v h hok hk2 hm
 have hc':dn env 65536 83 [.own B v off (l.length + 1),.v (.int .i64 n)] (TG B v E) (fun r hp1=>∃ (E':List Sp) (off':Nat),r = .own B v off' (aS s n l).length /\ hp1 = TG B v E' /\ Ib (aS s n l) E' off'):=by
   intro M0 w0 c M J W vs inv hn hr
   obtain ⟨a,b⟩:=hc M0 w0 c M J W vs (inv.LQ (R':=7000)) hn (fun i x v hx hv=>by
     cases i with
     | zero=>obtain rfl:=Option.some.inj hx;exact Fv (hr 0 _ v rfl hv)
     | succ i=>exact hr (i + 1) x v hx hv)
   refine ⟨a,b.mono ?_⟩
   rintro e w' ⟨v,r,hp1,c',M',J',x1,⟨E',off',rfl,rfl,x2⟩,x3,x4,x5⟩
   exact ⟨v,_,_,c',M',J',x1,⟨E',off',rfl,rfl,x2⟩,x3.LQ,Fv x4,x5⟩
 refine Ev.sO F hc' rfl hs hF ?_ ?_
 · intro r hr
   rw [au,get_nil] at hr
   split at hr
   · rename_i e;rw [e];exact hB
   · exact absurd rfl hr
 · rintro r hp1 ⟨E',off',rfl,rfl,h'⟩
   refine ⟨fun q hq=>?_,hk E' off' h'⟩
   rw [au,get_nil] at hq
   split at hq
   · rename_i e;rw [e];exact hB
   · exact absurd rfl hq
theorem J5 {a s:List Sp} (ma:aC a = 0) (ms:aC s = 0) (la:a.length <= 10000000) (ls:s.length <= 10000000) (ho:iT a = iT s):aY dZ a = aY dZ s:=by
 have h1:=(oM.of ma (by omega)).2
 have h2:=(oM.of ms (by omega)).2
 omega
set_option maxHeartbeats 8000000 in
theorem abQ (a b:List Sp) (la:a.length <= 10000000) (lb:b.length <= 10000000) (ta:bT a <= 100000000) (tb:bT b <= 100000000) (sa:Small a) (sb:Small b) (ma:aC a = 0) (mb:aC b = 0)
    (ho:iT a = iT b) (hb:aY dO b <= 1048576):aO env 36 [.lst 3 (aT a),.lst 3 (aT b)] (fun r hs=>r = .dM [.lst 3 (aT (pR a b)),.v (.int .i64 0)] /\ hs = []):=by
  have hA:=dL a (by omega) sa
  have hB:=dL b (by omega) sb
  rw [ma] at hA
  rw [mb] at hB
  have hIa:=fF a (by omega)
  have hIb:=fF b (by omega)
  have hoo:sumW (fun s=>kN s.k s.n) a = sumW (fun s=>kN s.k s.n) b:=ho
  rw [hoo] at hIa
  have oa:=(oM.of ma (by omega)).1
  have ob:=(oM.of mb (by omega)).1
  have na:=oa.norm
  have nb:=ob.norm
  have ho':=J5 ma mb la lb ho
  have hco:=BO oa ob ho' hb
  have hmm:dY (iC (norm a)) = dY (iC (norm b)):=by
    have e1:=bU oa.all
    have e2:=bU ob.all
    rw [na.2.2.1,nb.2.2.1];omega
  have hob:dF (iC (norm b)) <= 1048576:=by
    have e2:=bU ob.all
    rw [nb.2.2.1];omega
  obtain ⟨C,hC⟩:∃ C,C = kL ((norm a).length + (norm b).length) (norm a) (norm b):=⟨_,rfl⟩
  have hcC:aI.norm C = pR a b:=by rw [hC];exact hco.2.2.2.1
  have hcL:C.length <= 20000000 /\ bT C <= 100000000:=by
    have h1:=hco.2.2.2.2.2.2.1
    have h2:=hco.2.2.2.2.2.2.2.1
    rw [hC];omega
  refine Ev.fnV [0,1,4,5,7,8,9,12,13,14,15,21,28,41,55,71,92] 0 [.cell 4 23,.tmp 5] Tryd.func36 (TL _ rfl) ?_
  refine Ev.Dz ?_
  repeat' (first | refine' Ev.zS | refine' Ev.zK | ((with_reducible refine Ev.dG ?_);(first | refine Ev.dr 18 [] [0,1,2,3,4,5,6,7,8] ?_ | refine Ev.dr 21 [] [0,1,2,3,4,5,6] ?_ | refine Ev.dr 13 [] [0,1,2,3,4,5,6,7,8,9] ?_ | refine Ev.dr 15 [] [0,1,5,2,3,4,6,7,8,9] ?_);intro Q hQ;(simp only [Ev.aj,Ev.ak]);conv=>whnf) | refine' Ev.zT | fail)
  refine Ev.Dz ?_
  repeat' (first | refine' Ev.zP | refine' Ev.zS | refine' Ev.zK | (with_reducible refine Ev.qH 3 ?_) | ((with_reducible refine Ev.ca0 ?_);(first | refine Ev.ca (hA) ?_ | refine Ev.ca (hB) ?_);conv=>whnf) | ((with_reducible refine Ev.dG ?_);(first | refine Ev.dr 18 [] [0,1,2,3,4,5,6,7,8] ?_ | refine Ev.dr 21 [] [0,1,2,3,4,5,6] ?_ | refine Ev.dr 13 [] [0,1,2,3,4,5,6,7,8,9] ?_ | refine Ev.dr 15 [] [0,1,5,2,3,4,6,7,8,9] ?_);intro Q hQ;(simp only [Ev.aj,Ev.ak]);conv=>whnf) | refine' Ev.zT | fail)
  refine Ev.Dz ?_
  have hxx:sumW (fun s=>kN s.k s.n) b = sumW (fun s=>kN s.k s.n) b:=rfl
  repeat' (first | (with_reducible refine Ev.aJ hxx ?_) | (with_reducible refine Ev.aF hxx ?_) | refine' Ev.zP | refine' Ev.zS | refine' Ev.zK | ((with_reducible refine Ev.ca0 ?_);(first | refine Ev.ca (hIa) ?_ | refine Ev.ca (hIb) ?_);conv=>whnf) | ((with_reducible refine Ev.dG ?_);(first | refine Ev.dr 18 [] [0,1,2,3,4,5,6,7,8] ?_ | refine Ev.dr 21 [] [0,1,2,3,4,5,6] ?_ | refine Ev.dr 13 [] [0,1,2,3,4,5,6,7,8,9] ?_ | refine Ev.dr 15 [] [0,1,5,2,3,4,6,7,8,9] ?_);intro Q hQ;(simp only [Ev.aj,Ev.ak]);conv=>whnf) | refine' Ev.zT | fail)
  refine Ev.aaN (Ev.afH (hs:=[]) (vg _ _) ?_)
  conv=>whnf
  repeat' (first | refine' Ev.zS | refine' Ev.zK | ((((with_reducible refine Ev.ca0 ?_);refine ⟨(Fg a (by omega) (by omega)).mono ?_⟩;rintro _ _ ⟨A,rfl,rfl,hA1,hA2⟩;refine ⟨Nat.le_of_ble_eq_true rfl,⟨rfl,trivial⟩,?_⟩;conv=>whnf));conv=>whnf) | ((((with_reducible refine Ev.ca0 ?_);refine ⟨(Fg b (by omega) (by omega)).mono ?_⟩;rintro _ _ ⟨B,rfl,rfl,hB1,hB2⟩;refine ⟨Nat.le_of_ble_eq_true rfl,⟨rfl,trivial⟩,?_⟩;conv=>whnf));conv=>whnf) | ((with_reducible refine Ev.dG ?_);(first | refine Ev.dr 18 [] [0,1,2,3,4,5,6,7,8] ?_ | refine Ev.dr 21 [] [0,1,2,3,4,5,6] ?_ | refine Ev.dr 13 [] [0,1,2,3,4,5,6,7,8,9] ?_ | refine Ev.dr 15 [] [0,1,5,2,3,4,6,7,8,9] ?_);intro Q hQ;(simp only [Ev.aj,Ev.ak]);conv=>whnf) | refine' Ev.zT | fail)
  refine Ev.xI 0 9000 3 35 0 rfl rfl rfl ?_
  refine Ev.loop (fun k st=>∃ (c va vb v:Nat) (A B:List Sp) (oa ob:Nat) (x y out:List Sp),st = ⟨[(0,.own 5640 va oa x.length),(1,.own 5656 vb ob y.length),(4,.ptr 0 0 0 0)],[(0,⟨1,23,0,0,true,[[.own 9000 v 0 out.length]]⟩),(5640,⟨3,35,va,0,false,aT A⟩),(5656,⟨3,35,vb,0,false,aT B⟩),(9000,⟨3,35,v,0,false,aT out⟩)],c⟩ /\ Ib x A oa /\ Ib y B ob /\ OI C k x y out) ?_ ?_
  · refine Ev.zB ⟨(norm a).length + (norm b).length,?_,?_,?_,?_,A,B,0,0,norm a,norm b,[],rfl,?_⟩
    exact ⟨⟨by rw [<- hA1,List.length_take];omega,hA1⟩,⟨by rw [<- hB1,List.length_take];omega,hB1⟩,by omega,na.1.all,nb.1.all,na.2.2.2.2.2.2.2,nb.2.2.2.2.2.2.2,hmm,hob,by rw [hC];rfl,by simp;omega,by omega⟩
  rintro k s1 ⟨c,va,vb,v,A,B,oa,ob,x,y,out,rfl,hS,hT,hI⟩
  have hol:=aV out
  have hAl:=aV A
  have hBl:=aV B
  have hbl:=hI.bl
  have hS1:=hS.1
  have hT1:=hT.1
  rcases x with _ | ⟨u,x⟩ <;> rcases y with _ | ⟨w,y⟩ <;> simp only [List.length_cons,List.length_nil] at hbl hS1 hT1
  · have hout:=hI.fin
    subst hout
    repeat' (first | refine' Ev.zP | refine' Ev.zS | refine' Ev.zK | ((with_reducible refine Ev.dG ?_);(first | refine Ev.dr 18 [] [0,1,2,3,4,5,6,7,8] ?_ | refine Ev.dr 21 [] [0,1,2,3,4,5,6] ?_ | refine Ev.dr 13 [] [0,1,2,3,4,5,6,7,8,9] ?_ | refine Ev.dr 15 [] [0,1,5,2,3,4,6,7,8,9] ?_);intro Q hQ;(simp only [Ev.aj,Ev.ak]);conv=>whnf) | refine' Ev.zT | fail)
    refine Ev.aaP (Ev.aaQ (Po 0 _ out (by omega) (by omega)) rfl ⟨Ev.ah rfl rfl,Ev.ah rfl rfl,trivial⟩ (fun F hF=>?_))
    conv=>whnf
    repeat' (first | refine' Ev.zS | refine' Ev.zK | ((with_reducible refine Ev.dG ?_);(first | refine Ev.dr 18 [] [0,1,2,3,4,5,6,7,8] ?_ | refine Ev.dr 21 [] [0,1,2,3,4,5,6] ?_ | refine Ev.dr 13 [] [0,1,2,3,4,5,6,7,8,9] ?_ | refine Ev.dr 15 [] [0,1,5,2,3,4,6,7,8,9] ?_);intro Q hQ;(simp only [Ev.aj,Ev.ak]);conv=>whnf) | refine' Ev.zT | fail)
    exact ⟨by rw [hcC];rfl,rfl⟩
  · have hwk:w.k = 2:=hI.vk
    have htw:w.t.size <= 1000000000:=by have:=hI.bt;rw [aN w] at this;omega
    obtain ⟨k',rfl,hJ⟩:=hI.s1 hwk
    obtain ⟨hB0,hB1,hB2⟩:=hT.cons
    have pB:(0:Int) < ((w :: y).length:Int):=by simp only [List.length_cons];omega
    have eB:∀ h:ob + Int.toNat 0 < B.length,B[ob + Int.toNat 0]'h = w:=fun _=>hB1
    have hkB:∀ h:ob + Int.toNat 0 < B.length,(B[ob + Int.toNat 0]'h).k = 2:=fun h=>by rw [eB h];exact hwk
    have hz:∀ h:ob + Int.toNat 0 < B.length,(B[ob + Int.toNat 0]'h).t.size <= 1000000000:=fun h=>by rw [eB h];exact htw
    repeat' (first | (with_reducible refine Ev.aJ pB ?_) | (with_reducible refine Ev.aF pB ?_) | (with_reducible refine Ev.aJ (hkB _) ?_) | (with_reducible refine Ev.aF (hkB _) ?_) | refine' Ev.zP | refine' Ev.zS | ((with_reducible refine Ev.kr (hs:=[83]) (fun Q hQ=>?_));refine' Ev.zR) | ((with_reducible refine Ev.ca0 ?_);(first | refine Ev.aU (sD _ _ _ (hz _)) rfl rfl ?_ | refine Ev.ca (sD _ _ _ (hz _)) ?_);conv=>whnf) | ((with_reducible refine Ev.dG ?_);(first | refine Ev.dr 18 [83] [0,1,2,3,4,5,6,7,8] ?_ | refine Ev.dr 21 [83] [0,1,2,3,4,5,6] ?_ | refine Ev.dr 13 [83] [0,1,2,3,4,5,6,7,8,9] ?_ | refine Ev.dr 15 [83] [0,1,5,2,3,4,6,7,8,9] ?_);intro Q hQ;(simp only [Ev.aj,Ev.ak]);conv=>whnf) | refine' Ev.zT | fail)
    refine Ev.zA (k') ⟨?_,va,vb,?_,A,B,oa,ob + 1,[],y,out ++ [UG w],rfl,?_⟩ (by refine' Ev.zp <;> first | (first | (rw [List.length_append];rfl) | (simp only [eA,eB];rw [aA];rfl) | (simp only [eB];rw [aA];rfl) | (simp only [eA];rw [aA];rfl) | (simp;done) | omega | rfl) | rfl | (refine' Ev.ze;(first | (rw [List.length_append];rfl) | (simp only [eA,eB];rw [aA];rfl) | (simp only [eB];rw [aA];rfl) | (simp only [eA];rw [aA];rfl) | (simp;done) | omega | rfl)) | fail)
    exact ⟨hS,hB2,hJ⟩
  · have vS:u.k = 2:=hI.uk
    obtain ⟨k',rfl,hJ⟩:=hI.s2 vS (by simp)
    obtain ⟨hA0,hA1,hA2⟩:=hS.cons
    have pA:(0:Int) < ((u :: x).length:Int):=by simp only [List.length_cons];omega
    have eA:∀ h:oa + Int.toNat 0 < A.length,A[oa + Int.toNat 0]'h = u:=fun _=>hA1
    have UH:∀ h:oa + Int.toNat 0 < A.length,(A[oa + Int.toNat 0]'h).k = 2:=fun h=>by rw [eA h];exact vS
    repeat' (first | (with_reducible refine Ev.aJ pA ?_) | (with_reducible refine Ev.aF pA ?_) | (with_reducible refine Ev.aJ (UH _) ?_) | (with_reducible refine Ev.aF (UH _) ?_) | refine' Ev.zP | refine' Ev.zS | ((with_reducible refine Ev.kr (hs:=[83]) (fun Q hQ=>?_));refine' Ev.zR) | ((with_reducible refine Ev.dG ?_);(first | refine Ev.dr 18 [83] [0,1,2,3,4,5,6,7,8] ?_ | refine Ev.dr 21 [83] [0,1,2,3,4,5,6] ?_ | refine Ev.dr 13 [83] [0,1,2,3,4,5,6,7,8,9] ?_ | refine Ev.dr 15 [83] [0,1,5,2,3,4,6,7,8,9] ?_);intro Q hQ;(simp only [Ev.aj,Ev.ak]);conv=>whnf) | refine' Ev.zT | fail)
    refine Ev.zA (k') ⟨?_,va,vb,?_,A,B,oa + 1,ob,x,[],out ++ [u],rfl,?_⟩ (by refine' Ev.zp <;> first | (first | (rw [List.length_append];rfl) | (simp only [eA,eB];rw [aA];rfl) | (simp only [eB];rw [aA];rfl) | (simp only [eA];rw [aA];rfl) | (simp;done) | omega | rfl) | rfl | (refine' Ev.ze;(first | (rw [List.length_append];rfl) | (simp only [eA,eB];rw [aA];rfl) | (simp only [eB];rw [aA];rfl) | (simp only [eA];rw [aA];rfl) | (simp;done) | omega | rfl)) | fail)
    exact ⟨hA2,hT,hJ⟩
  · have htw:w.t.size <= 1000000000:=by have:=hI.bt;rw [aN,aN] at this;omega
    obtain ⟨hA0,hA1,hA2⟩:=hS.cons
    have pA:(0:Int) < ((u :: x).length:Int):=by simp only [List.length_cons];omega
    have eA:∀ h:oa + Int.toNat 0 < A.length,A[oa + Int.toNat 0]'h = u:=fun _=>hA1
    obtain ⟨hB0,hB1,hB2⟩:=hT.cons
    have pB:(0:Int) < ((w :: y).length:Int):=by simp only [List.length_cons];omega
    have eB:∀ h:ob + Int.toNat 0 < B.length,B[ob + Int.toNat 0]'h = w:=fun _=>hB1
    have hz:∀ h:ob + Int.toNat 0 < B.length,(B[ob + Int.toNat 0]'h).t.size <= 1000000000:=fun h=>by rw [eB h];exact htw
    by_cases hwk:w.k = 2
    · obtain ⟨k',rfl,hJ⟩:=hI.s1 hwk
      have hkB:∀ h:ob + Int.toNat 0 < B.length,(B[ob + Int.toNat 0]'h).k = 2:=fun h=>by rw [eB h];exact hwk
      repeat' (first | (with_reducible refine Ev.aJ pA ?_) | (with_reducible refine Ev.aF pA ?_) | (with_reducible refine Ev.aJ pB ?_) | (with_reducible refine Ev.aF pB ?_) | (with_reducible refine Ev.aJ (hkB _) ?_) | (with_reducible refine Ev.aF (hkB _) ?_) | refine' Ev.zP | refine' Ev.zS | ((with_reducible refine Ev.kr (hs:=[83]) (fun Q hQ=>?_));refine' Ev.zR) | ((with_reducible refine Ev.ca0 ?_);(first | refine Ev.aU (sD _ _ _ (hz _)) rfl rfl ?_ | refine Ev.ca (sD _ _ _ (hz _)) ?_);conv=>whnf) | ((with_reducible refine Ev.dG ?_);(first | refine Ev.dr 18 [83] [0,1,2,3,4,5,6,7,8] ?_ | refine Ev.dr 21 [83] [0,1,2,3,4,5,6] ?_ | refine Ev.dr 13 [83] [0,1,2,3,4,5,6,7,8,9] ?_ | refine Ev.dr 15 [83] [0,1,5,2,3,4,6,7,8,9] ?_);intro Q hQ;(simp only [Ev.aj,Ev.ak]);conv=>whnf) | refine' Ev.zT | fail)
      refine Ev.zA (k') ⟨?_,va,vb,?_,A,B,oa,ob + 1,u :: x,y,out ++ [UG w],rfl,?_⟩ (by refine' Ev.zp <;> first | (first | (rw [List.length_append];rfl) | (simp only [eA,eB];rw [aA];rfl) | (simp only [eB];rw [aA];rfl) | (simp only [eA];rw [aA];rfl) | (simp;done) | omega | rfl) | rfl | (refine' Ev.ze;(first | (rw [List.length_append];rfl) | (simp only [eA,eB];rw [aA];rfl) | (simp only [eB];rw [aA];rfl) | (simp only [eA];rw [aA];rfl) | (simp;done) | omega | rfl)) | fail)
      exact ⟨hS,hB2,hJ⟩
    have hkB:∀ h:ob + Int.toNat 0 < B.length,¬ (B[ob + Int.toNat 0]'h).k = 2:=fun h=>by rw [eB h];exact hwk
    by_cases vS:u.k = 2
    · obtain ⟨k',rfl,hJ⟩:=hI.s2 vS (by simpa using hwk)
      have UH:∀ h:oa + Int.toNat 0 < A.length,(A[oa + Int.toNat 0]'h).k = 2:=fun h=>by rw [eA h];exact vS
      repeat' (first | (with_reducible refine Ev.aJ pA ?_) | (with_reducible refine Ev.aF pA ?_) | (with_reducible refine Ev.aJ pB ?_) | (with_reducible refine Ev.aF pB ?_) | (with_reducible refine Ev.aP (hkB _) ?_) | (with_reducible refine Ev.aK (hkB _) ?_) | (with_reducible refine Ev.aJ (UH _) ?_) | (with_reducible refine Ev.aF (UH _) ?_) | refine' Ev.zP | refine' Ev.zS | ((with_reducible refine Ev.kr (hs:=[83]) (fun Q hQ=>?_));refine' Ev.zR) | ((with_reducible refine Ev.dG ?_);(first | refine Ev.dr 18 [83] [0,1,2,3,4,5,6,7,8] ?_ | refine Ev.dr 21 [83] [0,1,2,3,4,5,6] ?_ | refine Ev.dr 13 [83] [0,1,2,3,4,5,6,7,8,9] ?_ | refine Ev.dr 15 [83] [0,1,5,2,3,4,6,7,8,9] ?_);intro Q hQ;(simp only [Ev.aj,Ev.ak]);conv=>whnf) | refine' Ev.zT | fail)
      refine Ev.zA (k') ⟨?_,va,vb,?_,A,B,oa + 1,ob,x,w :: y,out ++ [u],rfl,?_⟩ (by refine' Ev.zp <;> first | (first | (rw [List.length_append];rfl) | (simp only [eA,eB];rw [aA];rfl) | (simp only [eB];rw [aA];rfl) | (simp only [eA];rw [aA];rfl) | (simp;done) | omega | rfl) | rfl | (refine' Ev.ze;(first | (rw [List.length_append];rfl) | (simp only [eA,eB];rw [aA];rfl) | (simp only [eB];rw [aA];rfl) | (simp only [eA];rw [aA];rfl) | (simp;done) | omega | rfl)) | fail)
      exact ⟨hA2,hT,hJ⟩
    have UH:∀ h:oa + Int.toNat 0 < A.length,¬ (A[oa + Int.toNat 0]'h).k = 2:=fun h=>by rw [eA h];exact vS
    obtain ⟨n,hn⟩:∃ n,min (dS u) (dS w) = n:=⟨_,rfl⟩
    obtain ⟨hnu,hnw,k',rfl,hJ⟩:=hI.s3 hwk vS hn
    have hou:=hI.ax.head
    have how:=hI.ay.head
    have zu:(dS u:Int) = u.n:=by
      rw [fP vS]
      rcases hou.cases with ⟨a,b,c,d⟩ | ⟨a,b,c⟩ <;> omega
    have zw:(dS w:Int) = w.n:=by
      rw [fP hwk]
      rcases how.cases with ⟨a,b,c,d⟩ | ⟨a,b,c⟩ <;> omega
    have hmin:∀ (h:oa + Int.toNat 0 < A.length) (h':ob + Int.toNat 0 < B.length),min (A[oa + Int.toNat 0]'h).n (B[ob + Int.toNat 0]'h').n = ((n:Nat):Int):=fun h h'=>by rw [eA h,eB h'];omega
    have Yc:min u.n w.n = ((n:Nat):Int):=by omega
    have hfs:dJ u n = ⟨u.k,n,⟨#[]⟩⟩:=sJ n vS
    by_cases hw1:w.k = 1
    · rw [if_pos hw1] at hJ
      have hkC:∀ h:ob + Int.toNat 0 < B.length,(B[ob + Int.toNat 0]'h).k = 1:=fun h=>by rw [eB h];exact hw1
      repeat' (first | (with_reducible refine Ev.aJ pA ?_) | (with_reducible refine Ev.aF pA ?_) | (with_reducible refine Ev.aJ pB ?_) | (with_reducible refine Ev.aF pB ?_) | (with_reducible refine Ev.aP (hkB _) ?_) | (with_reducible refine Ev.aK (hkB _) ?_) | (with_reducible refine Ev.aP (UH _) ?_) | (with_reducible refine Ev.aK (UH _) ?_) | (with_reducible refine Ev.aJ (hkC _) ?_) | (with_reducible refine Ev.aF (hkC _) ?_) | refine' Ev.zP | refine' Ev.zS | ((with_reducible refine Ev.kr (hs:=[83]) (fun Q hQ=>?_));refine' Ev.zR) | ((((with_reducible refine Ev.gI ?_);refine LU 5640 [(0,_),(5656,_),(9000,_)] hS hou vS hnu (hmin _ _) ⟨Ev.ah rfl rfl,trivial⟩ ⟨Ev.ah rfl rfl,Ev.ah rfl rfl,Ev.ah rfl rfl,trivial⟩ rfl (fun A' oa' hA' c' _=>?_);conv=>whnf));conv=>whnf) | ((((with_reducible refine Ev.gI ?_);refine LU 5656 [(0,_),(5640,_),(9000,_)] hT how hwk hnw (hmin _ _) ⟨Ev.ah rfl rfl,trivial⟩ ⟨Ev.ah rfl rfl,Ev.ah rfl rfl,Ev.ah rfl rfl,trivial⟩ rfl (fun B' ob' hB' c' _=>?_);conv=>whnf));conv=>whnf) | ((with_reducible refine Ev.dG ?_);(first | refine Ev.dr 18 [83] [0,1,2,3,4,5,6,7,8] ?_ | refine Ev.dr 21 [83] [0,1,2,3,4,5,6] ?_ | refine Ev.dr 13 [83] [0,1,2,3,4,5,6,7,8,9] ?_ | refine Ev.dr 15 [83] [0,1,5,2,3,4,6,7,8,9] ?_);intro Q hQ;(simp only [Ev.aj,Ev.ak]);conv=>whnf) | refine' Ev.zT | fail)
      refine Ev.zA (k') ⟨?_,va,vb,?_,A',B',oa',ob',aS u n x,aS w n y,out ++ [dJ u n],rfl,?_⟩ (by refine' Ev.zp <;> first | (first | (rw [List.length_append];rfl) | (simp only [eA,eB,Yc];rw [hfs,aA];rfl) | (simp;done) | omega | rfl) | rfl | (refine' Ev.ze;(first | (rw [List.length_append];rfl) | (simp only [eA,eB,Yc];rw [hfs,aA];rfl) | (simp;done) | omega | rfl)) | fail)
      exact ⟨hA',hB',hJ⟩
    · rw [if_neg hw1,List.append_nil] at hJ
      have hkC:∀ h:ob + Int.toNat 0 < B.length,¬ (B[ob + Int.toNat 0]'h).k = 1:=fun h=>by rw [eB h];exact hw1
      repeat' (first | (with_reducible refine Ev.aJ pA ?_) | (with_reducible refine Ev.aF pA ?_) | (with_reducible refine Ev.aJ pB ?_) | (with_reducible refine Ev.aF pB ?_) | (with_reducible refine Ev.aP (hkB _) ?_) | (with_reducible refine Ev.aK (hkB _) ?_) | (with_reducible refine Ev.aP (UH _) ?_) | (with_reducible refine Ev.aK (UH _) ?_) | (with_reducible refine Ev.aP (hkC _) ?_) | (with_reducible refine Ev.aK (hkC _) ?_) | refine' Ev.zP | refine' Ev.zS | ((with_reducible refine Ev.kr (hs:=[83]) (fun Q hQ=>?_));refine' Ev.zR) | ((((with_reducible refine Ev.gI ?_);refine LU 5640 [(0,_),(5656,_),(9000,_)] hS hou vS hnu (hmin _ _) ⟨Ev.ah rfl rfl,trivial⟩ ⟨Ev.ah rfl rfl,Ev.ah rfl rfl,Ev.ah rfl rfl,trivial⟩ rfl (fun A' oa' hA' c' _=>?_);conv=>whnf));conv=>whnf) | ((((with_reducible refine Ev.gI ?_);refine LU 5656 [(0,_),(5640,_),(9000,_)] hT how hwk hnw (hmin _ _) ⟨Ev.ah rfl rfl,trivial⟩ ⟨Ev.ah rfl rfl,Ev.ah rfl rfl,Ev.ah rfl rfl,trivial⟩ rfl (fun B' ob' hB' c' _=>?_);conv=>whnf));conv=>whnf) | ((with_reducible refine Ev.dG ?_);(first | refine Ev.dr 18 [83] [0,1,2,3,4,5,6,7,8] ?_ | refine Ev.dr 21 [83] [0,1,2,3,4,5,6] ?_ | refine Ev.dr 13 [83] [0,1,2,3,4,5,6,7,8,9] ?_ | refine Ev.dr 15 [83] [0,1,5,2,3,4,6,7,8,9] ?_);intro Q hQ;(simp only [Ev.aj,Ev.ak]);conv=>whnf) | refine' Ev.zT | fail)
      refine Ev.zA (k') ⟨?_,va,vb,v,A',B',oa',ob',aS u n x,aS w n y,out,rfl,?_⟩
      exact ⟨hA',hB',hJ⟩
def nO (a b:List Sp):Int:=if aC a ≠ 0 then aC a else if aC b ≠ 0 then aC b else if iT a ≠ iT b then 5 else 0
def TM (a b:List Sp):AV:=.dM [if nO a b = 0 then .lst 3 (aT (pR a b)) else nilA,.v (.int .i64 (nO a b))]
theorem BR {a b:List Sp} {e:Int} (h:nO a b = e) (h0:e ≠ 0):TM a b = .dM [nilA,.v (.int .i64 e)]:=by
 unfold TM;rw [h,if_neg h0]
theorem LV {a b:List Sp} (h:nO a b = 0):TM a b = .dM [.lst 3 (aT (pR a b)),.v (.int .i64 0)]:=by
 unfold TM;rw [h,if_pos rfl]
theorem xK {a b:List Sp} (h:nO a b = 0):aC a = 0 /\ aC b = 0 /\ iT a = iT b:=by
 unfold nO at h
 by_cases ma:aC a = 0
 · rw [if_neg (by simpa using ma)] at h
   by_cases mb:aC b = 0
   · rw [if_neg (by simpa using mb)] at h
     by_cases ho:iT a = iT b
     · exact ⟨ma,mb,ho⟩
     · rw [if_pos ho] at h;cases h
   · rw [if_pos mb] at h;exact absurd h mb
 · rw [if_pos ma] at h;exact absurd h ma
theorem aak{G:Prop}(h:G:=by
 refine Ev.fnV [0,1,4,5,7,8,9,12,13,14,15,21,28,41,55,71,92] 0 [.cell 4 23,.tmp 5] Tryd.func36 (TL _ rfl) ?_
 refine Ev.Dz ?_
 repeat' (first | refine' Ev.zS | refine' Ev.zK | ((with_reducible refine Ev.dG ?_);(first | refine Ev.dr 18 [] [0,1,2,3,4,5,6,7,8] ?_ | refine Ev.dr 21 [] [0,1,2,3,4,5,6] ?_ | refine Ev.dr 13 [] [0,1,2,3,4,5,6,7,8,9] ?_ | refine Ev.dr 15 [] [0,1,5,2,3,4,6,7,8,9] ?_);intro Q hQ;(simp only [Ev.aj,Ev.ak]);conv=>whnf) | refine' Ev.zT | fail)
 refine Ev.Dz ?_
 all_goals(rcases(⟨_⟩:PLift _)with⟨h⟩;exact h)):G:=h
theorem TN (a b:List Sp) (la:a.length <= 10000000) (lb:b.length <= 10000000) (ta:bT a <= 100000000) (tb:bT b <= 100000000) (sa:Small a) (sb:Small b) (hb:aC b = 0 -> aY dO b <= 1048576) :
   aO env 36 [.lst 3 (aT a),.lst 3 (aT b)] (fun r hs=>r = TM a b /\ hs = []):=by
 have hA:=dL a (by omega) sa
 have hB:=dL b (by omega) sb
 by_cases ma:aC a = 0
 · by_cases mb:aC b = 0
   · by_cases ho:sumW (fun s=>kN s.k s.n) a = sumW (fun s=>kN s.k s.n) b
     · have:nO a b = 0:=by unfold nO;rw [if_neg (by simpa using ma),if_neg (by simpa using mb),if_neg (by simpa [iT] using ho)]
       rw [LV this]
       exact abQ a b la lb ta tb sa sb ma mb ho (hb mb)
     · have:nO a b = 5:=by unfold nO;rw [if_neg (by simpa using ma),if_neg (by simpa using mb),if_pos (by simpa [iT] using ho)]
       rw [BR this (by decide)]
       have hIa:=fF a (by omega)
       have hIb:=fF b (by omega)
       rw [ma] at hA
       rw [mb] at hB
       refine' aak
       repeat' (first | refine' Ev.zP | refine' Ev.zS | refine' Ev.zK | (with_reducible refine Ev.qH 3 ?_) | ((with_reducible refine Ev.ca0 ?_);(first | refine Ev.ca (hA) ?_ | refine Ev.ca (hB) ?_);conv=>whnf) | ((with_reducible refine Ev.dG ?_);(first | refine Ev.dr 18 [] [0,1,2,3,4,5,6,7,8] ?_ | refine Ev.dr 21 [] [0,1,2,3,4,5,6] ?_ | refine Ev.dr 13 [] [0,1,2,3,4,5,6,7,8,9] ?_ | refine Ev.dr 15 [] [0,1,5,2,3,4,6,7,8,9] ?_);intro Q hQ;(simp only [Ev.aj,Ev.ak]);conv=>whnf) | refine' Ev.zT | fail)
       refine Ev.Dz ?_
       repeat' (first | refine' Ev.zP | (with_reducible refine Ev.aP ho ?_) | (with_reducible refine Ev.aK ho ?_) | refine' Ev.zS | refine' Ev.zK | ((with_reducible refine Ev.ca0 ?_);(first | refine Ev.ca (hIa) ?_ | refine Ev.ca (hIb) ?_);conv=>whnf) | ((with_reducible refine Ev.dG ?_);(first | refine Ev.dr 18 [] [0,1,2,3,4,5,6,7,8] ?_ | refine Ev.dr 21 [] [0,1,2,3,4,5,6] ?_ | refine Ev.dr 13 [] [0,1,2,3,4,5,6,7,8,9] ?_ | refine Ev.dr 15 [] [0,1,5,2,3,4,6,7,8,9] ?_);intro Q hQ;(simp only [Ev.aj,Ev.ak]);conv=>whnf) | refine' Ev.zT | fail)
       exact ⟨rfl,rfl⟩
   · have:nO a b = aC b:=by unfold nO;rw [if_neg (by simpa using ma),if_pos mb]
     rw [BR this mb]
     rw [ma] at hA
     refine' aak
     repeat' (first | refine' Ev.zP | (with_reducible refine Ev.aP mb ?_) | (with_reducible refine Ev.aK mb ?_) | refine' Ev.zS | refine' Ev.zK | (with_reducible refine Ev.qH 3 ?_) | ((with_reducible refine Ev.ca0 ?_);(first | refine Ev.ca (hA) ?_ | refine Ev.ca (hB) ?_);conv=>whnf) | ((with_reducible refine Ev.dG ?_);(first | refine Ev.dr 18 [] [0,1,2,3,4,5,6,7,8] ?_ | refine Ev.dr 21 [] [0,1,2,3,4,5,6] ?_ | refine Ev.dr 13 [] [0,1,2,3,4,5,6,7,8,9] ?_ | refine Ev.dr 15 [] [0,1,5,2,3,4,6,7,8,9] ?_);intro Q hQ;(simp only [Ev.aj,Ev.ak]);conv=>whnf) | refine' Ev.zT | fail)
     exact ⟨rfl,rfl⟩
 · have:nO a b = aC a:=by unfold nO;rw [if_pos ma]
   rw [BR this ma]
   refine' aak
   repeat' (first | refine' Ev.zP | (with_reducible refine Ev.aP ma ?_) | (with_reducible refine Ev.aK ma ?_) | refine' Ev.zS | refine' Ev.zK | (with_reducible refine Ev.qH 3 ?_) | ((with_reducible refine Ev.ca0 ?_);(first | refine Ev.ca (hA) ?_ | refine Ev.ca (hB) ?_);conv=>whnf) | ((with_reducible refine Ev.dG ?_);(first | refine Ev.dr 18 [] [0,1,2,3,4,5,6,7,8] ?_ | refine Ev.dr 21 [] [0,1,2,3,4,5,6] ?_ | refine Ev.dr 13 [] [0,1,2,3,4,5,6,7,8,9] ?_ | refine Ev.dr 15 [] [0,1,5,2,3,4,6,7,8,9] ?_);intro Q hQ;(simp only [Ev.aj,Ev.ak]);conv=>whnf) | refine' Ev.zT | fail)
   exact ⟨rfl,rfl⟩
theorem XB:∀ c,Tryd.f161.body = some c -> comp c = (.seq (.reg 0 [I.n 0 4 (I.si 0)]) (.seq (.reg 1 [I.n 0 7 (I.mv 0),I.n 1 8 (I.c1 100 7 23),I.n 2 5 (I.sa 8)]) (.seq (.seq (.reg 2 [I.n 0 9 (I.mv 5),I.n 1 10 (I.bc .neq 30 9 0 30)]) (.cond (.tmp 10) (.seq (.reg 3 [I.n 0 11 (I.mv 5),I.n 1 4 (I.sa 11)]) .ret) .skip)) (.seq (.reg 4 [I.n 0 12 (I.mv 1),I.n 1 13 (I.c1 100 12 23),I.n 2 6 (I.sa 13)]) (.seq (.seq (.reg 5 [I.n 0 14 (I.mv 6),I.n 1 15 (I.bc .neq 30 14 0 30)]) (.cond (.tmp 15) (.seq (.reg 6 [I.n 0 16 (I.mv 6),I.n 1 4 (I.sa 16)]) .ret) .skip)) (.seq (.seq (.reg 7 [I.n 0 17 (I.mv 0),I.n 1 18 (I.c1 101 17 23),I.n 2 19 (I.mv 1),I.n 3 20 (I.c1 101 19 23),I.n 4 21 (I.bo .neq 3 18 20 3)]) (.cond (.tmp 21) (.seq (.reg 8 [I.n 0 4 (I.si 5)]) .ret) .skip)) (.seq (.reg 9 [I.n 0 4 (I.si 0)]) .ret))))))):=by
 intro c h
 have:c = Tryd.f161.body.get rfl:=by rw [<- Option.some_inj,<- h];rfl
 rw [this];rfl
theorem XC:∀ c,Tryd.f146.body = some c -> comp c = (.seq (.reg 0 [I.n 0 4 I.sn,I.n 1 5 (I.si 0)]) (.seq (.reg 1 [I.n 0 15 (I.mv 0),I.n 1 16 (I.mv 1),I.n 2 17 (I.c2 161 15 16 23 23),I.n 3 6 (I.sa 17)]) (.seq (.seq (.reg 2 [I.n 0 18 (I.mv 6),I.n 1 19 (I.bc .neq 30 18 0 30)]) (.cond (.tmp 19) (.seq (.reg 3 [I.n 0 20 (I.mv 6),I.n 1 4 I.sn,I.n 2 5 (I.sa 20)]) .ret) .skip)) (.seq (.reg 4 [I.n 0 21 (I.mv 0),I.n 1 22 (I.c1 71 21 23),I.n 2 7 (I.sa 22)]) (.seq (.reg 5 [I.n 0 23 (I.mv 1),I.n 1 24 (I.c1 71 23 23),I.n 2 8 (I.sa 24)]) (.seq (.reg 6 [I.n 0 25 (.buildSlice 23 0 #[]),I.n 1 9 (I.sa 25)]) (.seq (.block 0 (.loop (.seq (.seq (.reg 7 [I.n 0 26 (I.mv 7),I.n 1 27 (I.ln 26 23),I.n 2 28 (I.bc .gtr 3 27 0 3),I.n 3 29 (I.mv 28),I.w 4 30 (I.mv 8) 29 false,I.w 5 31 (I.ln 30 23) 29 false,I.w 6 32 (I.bc .gtr 3 31 0 3) 29 false,I.n 7 33 (I.pb 29 true 32)]) (.cond (.tmp 33) .skip (.exit 0))) (.block 1 (.seq (.seq (.reg 8 [I.n 0 34 (I.mv 8),I.n 1 35 (I.ln 34 23),I.n 2 36 (I.bc .gtr 3 35 0 3),I.n 3 37 (I.mv 36),I.w 4 38 (I.mv 8) 37 true,I.w 5 39 (I.ic 23 38 0) 37 true,I.w 6 40 (I.fa 35 39 0) 37 true,I.w 7 41 (I.ld 3 40) 37 true,I.w 8 42 (I.bc .eql 3 41 2 3) 37 true,I.n 9 43 (I.pc 37 42 false)]) (.cond (.tmp 43) (.seq (.reg 9 [I.n 0 44 (I.mv 9),I.n 1 45 (I.mv 8),I.n 2 46 (I.ic 23 45 0),I.n 3 47 (I.ld 35 46),I.n 4 48 (I.c1 144 47 35),I.n 5 49 (.build 35 #[(0,.const (Value.int .i64 1)),(1,.tmp 48)]),I.n 6 50 (I.b1 23 49),I.n 7 51 (I.ap 44 50 23 23),I.n 8 9 (I.sa 51)]) (.seq (.reg 10 [I.n 0 52 (I.mv 8),I.n 1 53 (.slice 23 (.tmp 52) (some (.const (Value.int .i64 1))) none none),I.n 2 8 (I.sa 53)]) (.exit 1))) .skip)) (.seq (.seq (.reg 11 [I.n 0 54 (I.mv 7),I.n 1 55 (I.ln 54 23),I.n 2 56 (I.bc .gtr 3 55 0 3),I.n 3 57 (I.mv 56),I.w 4 58 (I.mv 7) 57 true,I.w 5 59 (I.ic 23 58 0) 57 true,I.w 6 60 (I.fa 35 59 0) 57 true,I.w 7 61 (I.ld 3 60) 57 true,I.w 8 62 (I.bc .eql 3 61 2 3) 57 true,I.n 9 63 (I.pc 57 62 false)]) (.cond (.tmp 63) (.seq (.reg 12 [I.n 0 64 (I.mv 9),I.n 1 65 (I.mv 7),I.n 2 66 (I.ic 23 65 0),I.n 3 67 (I.ld 35 66),I.n 4 68 (I.b1 23 67),I.n 5 69 (I.ap 64 68 23 23),I.n 6 9 (I.sa 69)]) (.seq (.reg 13 [I.n 0 70 (I.mv 7),I.n 1 71 (.slice 23 (.tmp 70) (some (.const (Value.int .i64 1))) none none),I.n 2 7 (I.sa 71)]) (.exit 1))) .skip)) (.seq (.draw 14 [I.n 0 72 (I.mv 7),I.n 1 73 (I.ic 23 72 0),I.n 2 74 (I.fa 35 73 1),I.n 3 75 (I.ld 3 74),I.n 4 76 (I.mv 8),I.n 5 77 (I.ic 23 76 0),I.n 6 78 (I.fa 35 77 1),I.n 7 79 (I.ld 3 78),I.n 8 80 (.call { callee:=.builtin .min,args:=#[.tmp 75,.tmp 79],argTypes:=#[3,3] }),I.n 9 10 (I.sa 80)] [[],[0],[1],[2],[],[4],[5],[6],[3,7],[8,0,1,2,3,4,5,6,7,8]]) (.seq (.reg 15 [I.n 0 82 (I.mv 7),I.n 1 83 (I.ic 23 82 0),I.n 2 84 (I.ld 35 83),I.n 3 85 (I.mv 10),I.n 4 86 (I.c2 162 84 85 35 3),I.n 5 81 (I.mv 86),I.n 6 87 (I.ex 81 0),I.n 7 88 (I.ex 81 1),I.n 8 11 (.alloc 35),I.n 9 12 (.alloc 35),I.u 10 (I.st 35 11 87),I.u 11 (I.st 35 12 88)]) (.seq (.reg 16 [I.n 0 90 (I.mv 8),I.n 1 91 (I.ic 23 90 0),I.n 2 92 (I.ld 35 91),I.n 3 93 (I.mv 10),I.n 4 94 (I.c2 162 92 93 35 3),I.n 5 89 (I.mv 94),I.n 6 95 (I.ex 89 0),I.n 7 96 (I.ex 89 1),I.n 8 13 (.alloc 35),I.n 9 14 (.alloc 35),I.u 10 (I.st 35 13 95),I.u 11 (I.st 35 14 96)]) (.seq (.seq (.reg 17 [I.n 0 97 (I.fa 35 13 0),I.n 1 98 (I.ld 3 97),I.n 2 99 (I.bc .eql 3 98 1 3)]) (.cond (.tmp 99) (.reg 18 [I.n 0 100 (I.mv 9),I.n 1 101 (I.ld 35 11),I.n 2 102 (I.b1 23 101),I.n 3 103 (I.ap 100 102 23 23),I.n 4 9 (I.sa 103)]) .skip)) (.seq (.draw 19 [I.n 0 104 (I.ld 35 12),I.n 1 105 (I.b1 23 104),I.n 2 106 (I.mv 7),I.n 3 107 (.slice 23 (.tmp 106) (some (.const (Value.int .i64 1))) none none),I.n 4 108 (I.ap 105 107 23 23),I.n 5 7 (I.sa 108)] [[],[0],[],[2],[1,3],[4,4,0,1,2,3,4]]) (.seq (.draw 20 [I.n 0 109 (I.ld 35 14),I.n 1 110 (I.b1 23 109),I.n 2 111 (I.mv 8),I.n 3 112 (.slice 23 (.tmp 111) (some (.const (Value.int .i64 1))) none none),I.n 4 113 (I.ap 110 112 23 23),I.n 5 8 (I.sa 113)] [[],[0],[],[2],[1,3],[4,4,0,1,2,3,4]]) (.seq (.seq (.reg 21 [I.n 0 114 (I.fa 35 12 1),I.n 1 115 (I.ld 3 114),I.n 2 116 (I.bc .eql 3 115 0 3)]) (.cond (.tmp 116) (.reg 22 [I.n 0 117 (I.mv 7),I.n 1 118 (.slice 23 (.tmp 117) (some (.const (Value.int .i64 1))) none none),I.n 2 7 (I.sa 118)]) .skip)) (.seq (.reg 23 [I.n 0 119 (I.fa 35 14 1),I.n 1 120 (I.ld 3 119),I.n 2 121 (I.bc .eql 3 120 0 3)]) (.cond (.tmp 121) (.reg 24 [I.n 0 122 (I.mv 8),I.n 1 123 (.slice 23 (.tmp 122) (some (.const (Value.int .i64 1))) none none),I.n 2 8 (I.sa 123)]) .skip))))))))))))))) (.seq (.reg 25 [I.n 0 124 (I.mv 9),I.n 1 125 (I.c1 71 124 23),I.n 2 4 (I.sa 125),I.n 3 5 (I.si 0)]) .ret)))))))):=by
 intro c h
 have:c = Tryd.f146.body.get rfl:=by rw [<- Option.some_inj,<- h];rfl
 rw [this];rfl
theorem adx{G:Prop}(h:G:=by (refine Ev.fn [0,1,4,5,6,10,15,21] 0 [.tmp 4] Tryd.func161 (XB _ rfl) ?_);all_goals(rcases(⟨_⟩:PLift _)with⟨h⟩;exact h)):G:=h
theorem J6 (a b:List Sp) (la:a.length <= 1000000000) (lb:b.length <= 1000000000) (sa:Small a) (sb:Small b):aO env 161 [.lst 3 (aT a),.lst 3 (aT b)] (fun r hs=>r = .v (.int .i64 (nO a b)) /\ hs = []):=by
 have hA:=fV a la sa
 have hB:=fV b lb sb
 have hIa:=iO a la
 have hIb:=iO b lb
 unfold nO
 by_cases ma:aC a = 0
 · rw [if_neg (by simpa using ma)]
   rw [ma] at hA
   by_cases mb:aC b = 0
   · rw [if_neg (by simpa using mb)]
     rw [mb] at hB
     by_cases ho:sumW (fun s=>kN s.k s.n) a = sumW (fun s=>kN s.k s.n) b
     · rw [if_neg (by simpa [iT] using ho)]
       refine' adx
       repeat' (first | refine' Ev.zP | (with_reducible refine Ev.aJ ho ?_) | (with_reducible refine Ev.aF ho ?_) | refine' Ev.zS | refine' Ev.zK | ((with_reducible refine Ev.ca0 ?_);(first | refine Ev.ca (hA) ?_ | refine Ev.ca (hB) ?_ | refine Ev.ca (hIa) ?_ | refine Ev.ca (hIb) ?_);conv=>whnf) | refine' Ev.zT | fail)
       all_goals exact ⟨rfl,rfl⟩
     · rw [if_pos (by simpa [iT] using ho)]
       refine' adx
       repeat' (first | refine' Ev.zP | (with_reducible refine Ev.aP ho ?_) | (with_reducible refine Ev.aK ho ?_) | refine' Ev.zS | refine' Ev.zK | ((with_reducible refine Ev.ca0 ?_);(first | refine Ev.ca (hA) ?_ | refine Ev.ca (hB) ?_ | refine Ev.ca (hIa) ?_ | refine Ev.ca (hIb) ?_);conv=>whnf) | refine' Ev.zT | fail)
       all_goals exact ⟨rfl,rfl⟩
   · rw [if_pos mb]
     refine' adx
     repeat' (first | refine' Ev.zP | (with_reducible refine Ev.aP mb ?_) | (with_reducible refine Ev.aK mb ?_) | refine' Ev.zS | refine' Ev.zK | ((with_reducible refine Ev.ca0 ?_);(first | refine Ev.ca (hA) ?_ | refine Ev.ca (hB) ?_);conv=>whnf) | refine' Ev.zT | fail)
     all_goals exact ⟨rfl,rfl⟩
 · rw [if_pos ma]
   refine' adx
   repeat' (first | refine' Ev.zP | (with_reducible refine Ev.aP ma ?_) | (with_reducible refine Ev.aK ma ?_) | refine' Ev.zS | refine' Ev.zK | ((with_reducible refine Ev.ca0 ?_);(first | refine Ev.ca (hA) ?_);conv=>whnf) | refine' Ev.zT | fail)
   all_goals exact ⟨rfl,rfl⟩
set_option maxHeartbeats 4000000 in
theorem XD (a b:List Sp) (la:a.length <= 10000000) (lb:b.length <= 10000000) (ta:bT a <= 100000000) (tb:bT b <= 100000000) (sa:Small a) (sb:Small b) (ma:aC a = 0) (mb:aC b = 0)
    (ho:iT a = iT b) (hb:aY dO b <= 1048576):aO env 146 [.lst 3 (aT a),.lst 3 (aT b)] (fun r hs=>r = .dM [.lst 3 (aT (pR a b)),.v (.int .i64 0)] /\ hs = []):=by
  have hBo:=J6 a b (by omega) (by omega) sa sb
  have he0:nO a b = 0:=by unfold nO;rw [if_neg (by simpa using ma),if_neg (by simpa using mb),if_neg (by simpa using ho)]
  rw [he0] at hBo
  have oa:=(oM.of ma (by omega)).1
  have ob:=(oM.of mb (by omega)).1
  have na:=oa.norm
  have nb:=ob.norm
  have hNA:=iP a (by omega) (by omega)
  have hNB:=iP b (by omega) (by omega)
  have ho':=J5 ma mb la lb ho
  have hco:=BO oa ob ho' hb
  have hmm:dY (iC (norm a)) = dY (iC (norm b)):=by
    have e1:=bU oa.all
    have e2:=bU ob.all
    rw [na.2.2.1,nb.2.2.1];omega
  have hob:dF (iC (norm b)) <= 1048576:=by
    have e2:=bU ob.all
    rw [nb.2.2.1];omega
  obtain ⟨C,hC⟩:∃ C,C = kL ((norm a).length + (norm b).length) (norm a) (norm b):=⟨_,rfl⟩
  have hcC:aI.norm C = pR a b:=by rw [hC];exact hco.2.2.2.1
  have hcL:C.length <= 20000000 /\ bT C <= 100000000:=by
    have h1:=hco.2.2.2.2.2.2.1
    have h2:=hco.2.2.2.2.2.2.2.1
    rw [hC];omega
  have hp:∀ (s:Sp) (l:List Sp),(0:Int) < ((aT (s :: l)).length:Int):=fun s l=>by rw [aV,List.length_cons];omega
  have hd:∀ (s:Sp) (l:List Sp),List.take ((aT (s :: l)).length - Int.toNat 1) (List.drop (Int.toNat 1) (aT (s :: l))) = aT l:=fun s l=>by
    show List.take ((aT (s :: l)).length - 1) (aT l) = aT l
    rw [List.take_of_length_le]
    rw [aV,aV,List.length_cons];omega
  have fA:∀ (r s:Sp) (l:List Sp),List.take (1 + (List.take ((aT (s :: l)).length - Int.toNat 1) (List.drop (Int.toNat 1) (aT (s :: l)))).length) (List.drop 0 ([[AV.v (.int .i64 r.k),AV.v (.int .i64 r.n),AV.v (.string r.t)]] ++ List.take ((aT (s :: l)).length - Int.toNat 1) (List.drop (Int.toNat 1) (aT (s :: l))))) = aT (r :: l):=fun r s l=>by
    rw [hd,List.drop_zero,List.take_of_length_le (by simp;omega)];rfl
  have fB:∀ (r s:Sp) (l:List Sp),List.take ((List.take (1 + (List.take ((aT (s :: l)).length - Int.toNat 1) (List.drop (Int.toNat 1) (aT (s :: l)))).length) (List.drop 0 ([[AV.v (.int .i64 r.k),AV.v (.int .i64 r.n),AV.v (.string r.t)]] ++ List.take ((aT (s :: l)).length - Int.toNat 1) (List.drop (Int.toNat 1) (aT (s :: l)))))).length - Int.toNat 1) (List.drop (Int.toNat 1) (List.take (1 + (List.take ((aT (s :: l)).length - Int.toNat 1) (List.drop (Int.toNat 1) (aT (s :: l)))).length) (List.drop 0 ([[AV.v (.int .i64 r.k),AV.v (.int .i64 r.n),AV.v (.string r.t)]] ++ List.take ((aT (s :: l)).length - Int.toNat 1) (List.drop (Int.toNat 1) (aT (s :: l))))))) = aT l:=fun r s l=>by
    rw [fA,hd]
  have fC:∀ (r s:Sp) (l:List Sp),List.take (1 + (List.take ((aT (s :: l)).length - Int.toNat 1) (List.drop (Int.toNat 1) (aT (s :: l)))).length - Int.toNat 1) (List.drop (0 + Int.toNat 1) ([[AV.v (.int .i64 r.k),AV.v (.int .i64 r.n),AV.v (.string r.t)]] ++ List.take ((aT (s :: l)).length - Int.toNat 1) (List.drop (Int.toNat 1) (aT (s :: l))))) = aT l:=fun r s l=>by
    rw [hd]
    show List.take (1 + (aT l).length - 1) (aT l) = aT l
    rw [List.take_of_length_le (by omega)]
  refine Ev.fn [0,1,4,5,6,7,8,9,10,11,12,13,14,19,33,43,63,99,116,121] 0 [.tmp 4,.tmp 5] Tryd.func146 (XC _ rfl) ?_
  repeat' (first | refine' Ev.zP | refine' Ev.zS | refine' Ev.zK | ((with_reducible refine Ev.ca0 ?_);(first | refine Ev.ca (hBo) ?_ | refine Ev.ca (hNA) ?_ | refine Ev.ca (hNB) ?_);conv=>whnf) | ((with_reducible refine Ev.dG ?_);(first | refine Ev.dr 14 [] [0,1,2,3,4,5,6,7,8,9] ?_);intro Q hQ;(simp only [Ev.aj,Ev.ak]);conv=>whnf) | ((with_reducible refine Ev.dG ?_);(first | refine Ev.drv 19 [] [(2,false),(3,true),(0,false),(1,false),(4,false),(5,false)] ?_ | refine Ev.drv 20 [] [(2,false),(3,true),(0,false),(1,false),(4,false),(5,false)] ?_);intro Q hQ;(simp only [Ev.bn,Ev.bC,Ev.dw]);conv=>whnf) | refine' Ev.zT | fail)
  refine Ev.loop (fun k s=>∃ (c v:Nat) (x y out:List Sp),s = ⟨[(7,.lst 3 (aT x)),(8,.lst 3 (aT y)),(9,.own 3072 v 0 out.length)],[(3072,⟨3,35,v,0,false,aT out⟩)],c⟩ /\ OI C k x y out) ?_ ?_
  · refine Ev.zB ⟨(norm a).length + (norm b).length,?_,?_,norm a,norm b,[],rfl,?_⟩
    exact ⟨by omega,na.1.all,nb.1.all,na.2.2.2.2.2.2.2,nb.2.2.2.2.2.2.2,hmm,hob,by rw [hC];rfl,by simp;omega,by omega⟩
  rintro k s1 ⟨c,v,x,y,out,rfl,hI⟩
  have hol:=aV out
  have hbl:=hI.bl
  rcases x with _ | ⟨u,x⟩ <;> rcases y with _ | ⟨w,y⟩ <;> simp only [List.length_cons,List.length_nil] at hbl
  · have hout:=hI.fin
    subst hout
    repeat' (first | refine' Ev.zP | refine' Ev.zS | refine' Ev.zK | ((with_reducible refine Ev.ca0 ?_);(first | refine Ev.aU (iP out (by omega) (by omega)) rfl rfl ?_ | refine Ev.ca (iP out (by omega) (by omega)) ?_);conv=>whnf) | ((with_reducible refine Ev.dG ?_);(first | refine Ev.dr 14 [] [0,1,2,3,4,5,6,7,8,9] ?_);intro Q hQ;(simp only [Ev.aj,Ev.ak]);conv=>whnf) | ((with_reducible refine Ev.dG ?_);(first | refine Ev.drv 19 [] [(2,false),(3,true),(0,false),(1,false),(4,false),(5,false)] ?_ | refine Ev.drv 20 [] [(2,false),(3,true),(0,false),(1,false),(4,false),(5,false)] ?_);intro Q hQ;(simp only [Ev.bn,Ev.bC,Ev.dw]);conv=>whnf) | refine' Ev.zT | fail)
    exact ⟨by rw [hcC];rfl,rfl⟩
  · have hk:w.k = 2:=hI.vk
    have Ia:w.t.size <= 1000000000:=by have:=hI.bt;rw [aN w] at this;omega
    obtain ⟨k',rfl,hJ⟩:=hI.s1 hk
    repeat' (first | (with_reducible refine Ev.aJ hk ?_) | (with_reducible refine Ev.aF hk ?_) | (with_reducible refine Ev.aJ (hp w y) ?_) | (with_reducible refine Ev.aF (hp w y) ?_) | refine' Ev.zP | refine' Ev.zS | refine' Ev.zK | ((with_reducible refine Ev.ca0 ?_);(first | refine Ev.ca (yD w.k w.n w.t Ia) ?_);conv=>whnf) | ((with_reducible refine Ev.dG ?_);(first | refine Ev.dr 14 [] [0,1,2,3,4,5,6,7,8,9] ?_);intro Q hQ;(simp only [Ev.aj,Ev.ak]);conv=>whnf) | ((with_reducible refine Ev.dG ?_);(first | refine Ev.drv 19 [] [(2,false),(3,true),(0,false),(1,false),(4,false),(5,false)] ?_ | refine Ev.drv 20 [] [(2,false),(3,true),(0,false),(1,false),(4,false),(5,false)] ?_);intro Q hQ;(simp only [Ev.bn,Ev.bC,Ev.dw]);conv=>whnf) | refine' Ev.zT | fail)
    refine Ev.zA (k') ⟨?_,?_,[],y,out ++ [UG w],rfl,?_⟩ (by refine' Ev.zp <;> first | (first | exact Ev.aB (hd _ _) | (rw [aA];rfl) | (simp;done) | rfl) | rfl | (refine' Ev.ze;(first | exact Ev.aB (hd _ _) | (rw [aA];rfl) | (simp;done) | rfl)) | fail)
    exact hJ
  · have hk:u.k = 2:=hI.uk
    obtain ⟨k',rfl,hJ⟩:=hI.s2 hk (by simp)
    repeat' (first | (with_reducible refine Ev.aJ hk ?_) | (with_reducible refine Ev.aF hk ?_) | (with_reducible refine Ev.aJ (hp u x) ?_) | (with_reducible refine Ev.aF (hp u x) ?_) | refine' Ev.zP | refine' Ev.zS | refine' Ev.zK | ((with_reducible refine Ev.dG ?_);(first | refine Ev.dr 14 [] [0,1,2,3,4,5,6,7,8,9] ?_);intro Q hQ;(simp only [Ev.aj,Ev.ak]);conv=>whnf) | ((with_reducible refine Ev.dG ?_);(first | refine Ev.drv 19 [] [(2,false),(3,true),(0,false),(1,false),(4,false),(5,false)] ?_ | refine Ev.drv 20 [] [(2,false),(3,true),(0,false),(1,false),(4,false),(5,false)] ?_);intro Q hQ;(simp only [Ev.bn,Ev.bC,Ev.dw]);conv=>whnf) | refine' Ev.zT | fail)
    refine Ev.zA (k') ⟨?_,?_,x,[],out ++ [u],rfl,?_⟩ (by refine' Ev.zp <;> first | (first | exact Ev.aB (hd _ _) | (rw [aA];rfl) | (simp;done) | rfl) | rfl | (refine' Ev.ze;(first | exact Ev.aB (hd _ _) | (rw [aA];rfl) | (simp;done) | rfl)) | fail)
    exact hJ
  · have Ia:w.t.size <= 1000000000:=by have:=hI.bt;rw [aN,aN] at this;omega
    have htu:u.t.size <= 1000000000:=by have:=hI.bt;rw [aN,aN] at this;omega
    by_cases hw2:w.k = 2
    · obtain ⟨k',rfl,hJ⟩:=hI.s1 hw2
      repeat' (first | (with_reducible refine Ev.aJ hw2 ?_) | (with_reducible refine Ev.aF hw2 ?_) | (with_reducible refine Ev.aJ (hp u x) ?_) | (with_reducible refine Ev.aF (hp u x) ?_) | (with_reducible refine Ev.aJ (hp w y) ?_) | (with_reducible refine Ev.aF (hp w y) ?_) | refine' Ev.zP | refine' Ev.zS | refine' Ev.zK | ((with_reducible refine Ev.ca0 ?_);(first | refine Ev.ca (yD w.k w.n w.t Ia) ?_);conv=>whnf) | ((with_reducible refine Ev.dG ?_);(first | refine Ev.dr 14 [] [0,1,2,3,4,5,6,7,8,9] ?_);intro Q hQ;(simp only [Ev.aj,Ev.ak]);conv=>whnf) | ((with_reducible refine Ev.dG ?_);(first | refine Ev.drv 19 [] [(2,false),(3,true),(0,false),(1,false),(4,false),(5,false)] ?_ | refine Ev.drv 20 [] [(2,false),(3,true),(0,false),(1,false),(4,false),(5,false)] ?_);intro Q hQ;(simp only [Ev.bn,Ev.bC,Ev.dw]);conv=>whnf) | refine' Ev.zT | fail)
      refine Ev.zA (k') ⟨?_,?_,u :: x,y,out ++ [UG w],rfl,?_⟩ (by refine' Ev.zp <;> first | (first | exact Ev.aB (hd _ _) | (rw [aA];rfl) | (simp;done) | rfl) | rfl | (refine' Ev.ze;(first | exact Ev.aB (hd _ _) | (rw [aA];rfl) | (simp;done) | rfl)) | fail)
      exact hJ
    by_cases hu2:u.k = 2
    · obtain ⟨k',rfl,hJ⟩:=hI.s2 hu2 (by simpa using hw2)
      repeat' (first | (with_reducible refine Ev.aJ hu2 ?_) | (with_reducible refine Ev.aF hu2 ?_) | (with_reducible refine Ev.aP hw2 ?_) | (with_reducible refine Ev.aK hw2 ?_) | (with_reducible refine Ev.aJ (hp u x) ?_) | (with_reducible refine Ev.aF (hp u x) ?_) | (with_reducible refine Ev.aJ (hp w y) ?_) | (with_reducible refine Ev.aF (hp w y) ?_) | refine' Ev.zP | refine' Ev.zS | refine' Ev.zK | ((with_reducible refine Ev.dG ?_);(first | refine Ev.dr 14 [] [0,1,2,3,4,5,6,7,8,9] ?_);intro Q hQ;(simp only [Ev.aj,Ev.ak]);conv=>whnf) | ((with_reducible refine Ev.dG ?_);(first | refine Ev.drv 19 [] [(2,false),(3,true),(0,false),(1,false),(4,false),(5,false)] ?_ | refine Ev.drv 20 [] [(2,false),(3,true),(0,false),(1,false),(4,false),(5,false)] ?_);intro Q hQ;(simp only [Ev.bn,Ev.bC,Ev.dw]);conv=>whnf) | refine' Ev.zT | fail)
      refine Ev.zA (k') ⟨?_,?_,x,w :: y,out ++ [u],rfl,?_⟩ (by refine' Ev.zp <;> first | (first | exact Ev.aB (hd _ _) | (rw [aA];rfl) | (simp;done) | rfl) | rfl | (refine' Ev.ze;(first | exact Ev.aB (hd _ _) | (rw [aA];rfl) | (simp;done) | rfl)) | fail)
      exact hJ
    obtain ⟨n,hn⟩:∃ n,min (dS u) (dS w) = n:=⟨_,rfl⟩
    obtain ⟨hnu,Pe,k',rfl,hJ⟩:=hI.s3 hw2 hu2 hn
    have hou:=hI.ax.head
    have how:=hI.ay.head
    have qk:(dJ w n).k = w.k:=(kE how Pe).2.2.2.2.2.1
    have zu:(dS u:Int) = u.n:=by
      rw [fP hu2]
      rcases hou.cases with ⟨a,b,c,d⟩ | ⟨a,b,c⟩ <;> omega
    have zw:(dS w:Int) = w.n:=by
      rw [fP hw2]
      rcases how.cases with ⟨a,b,c,d⟩ | ⟨a,b,c⟩ <;> omega
    have ru:(bI u n).n = u.n - n:=by rw [sK n hu2]
    have rw':(bI w n).n = w.n - n:=by rw [sK n hw2]
    have hmin:min u.n w.n = ((n:Nat):Int):=by omega
    by_cases hwk:w.k = 1
    · have hfk:(dJ w n).k = 1:=by rw [qk];exact hwk
      rw [if_pos hwk] at hJ
      repeat' (first | (with_reducible refine Ev.aP hu2 ?_) | (with_reducible refine Ev.aK hu2 ?_) | (with_reducible refine Ev.aP hw2 ?_) | (with_reducible refine Ev.aK hw2 ?_) | (with_reducible refine Ev.aJ (hp u x) ?_) | (with_reducible refine Ev.aF (hp u x) ?_) | (with_reducible refine Ev.aJ (hp w y) ?_) | (with_reducible refine Ev.aF (hp w y) ?_) | (with_reducible refine Ev.aJ hfk ?_) | (with_reducible refine Ev.aF hfk ?_) | (((with_reducible refine Ev.lS 23 7 rfl rfl ?_ ?_);rotate_left;conv=>whnf)) | (((with_reducible refine Ev.lS 23 8 rfl rfl ?_ ?_);rotate_left;conv=>whnf)) | refine' Ev.zP | refine' Ev.zS | refine' Ev.zK | ((with_reducible refine Ev.ca0 ?_);(first | refine Ev.ca (jT u n hou htu hnu) ?_ | refine Ev.ca (jT w n how Ia Pe) ?_);conv=>whnf) | ((with_reducible refine Ev.dG ?_);(first | refine Ev.dr 14 [] [0,1,2,3,4,5,6,7,8,9] ?_);intro Q hQ;(simp only [Ev.aj,Ev.ak]);conv=>whnf) | ((with_reducible refine Ev.dG ?_);(first | refine Ev.drv 19 [] [(2,false),(3,true),(0,false),(1,false),(4,false),(5,false)] ?_ | refine Ev.drv 20 [] [(2,false),(3,true),(0,false),(1,false),(4,false),(5,false)] ?_);intro Q hQ;(simp only [Ev.bn,Ev.bC,Ev.dw]);conv=>whnf) | refine' Ev.zT | fail)
      · have hx:aS u n x = x:=if_pos (by omega)
        have hy:aS w n y = y:=if_pos (by omega)
        rw [hx,hy] at hJ
        refine Ev.zA (k') ⟨?_,?_,x,y,out ++ [dJ u n],rfl,?_⟩ (by refine' Ev.zp <;> first | (first | exact Ev.aB (fB _ _ _) | exact Ev.aB (fA _ _ _) | exact Ev.aB (fC _ _ _) | (rw [aA];rfl) | (simp;done) | rfl) | rfl | (refine' Ev.ze;(first | exact Ev.aB (fB _ _ _) | exact Ev.aB (fA _ _ _) | exact Ev.aB (fC _ _ _) | (rw [aA];rfl) | (simp;done) | rfl)) | fail)
        exact hJ
      · have hx:aS u n x = x:=if_pos (by omega)
        have hy:aS w n y = bI w n :: y:=if_neg (by omega)
        rw [hx,hy] at hJ
        refine Ev.zA (k') ⟨?_,?_,x,bI w n :: y,out ++ [dJ u n],rfl,?_⟩ (by refine' Ev.zp <;> first | (first | exact Ev.aB (fB _ _ _) | exact Ev.aB (fA _ _ _) | exact Ev.aB (fC _ _ _) | (rw [aA];rfl) | (simp;done) | rfl) | rfl | (refine' Ev.ze;(first | exact Ev.aB (fB _ _ _) | exact Ev.aB (fA _ _ _) | exact Ev.aB (fC _ _ _) | (rw [aA];rfl) | (simp;done) | rfl)) | fail)
        exact hJ
      · have hx:aS u n x = bI u n :: x:=if_neg (by omega)
        have hy:aS w n y = y:=if_pos (by omega)
        rw [hx,hy] at hJ
        refine Ev.zA (k') ⟨?_,?_,bI u n :: x,y,out ++ [dJ u n],rfl,?_⟩ (by refine' Ev.zp <;> first | (first | exact Ev.aB (fB _ _ _) | exact Ev.aB (fA _ _ _) | exact Ev.aB (fC _ _ _) | (rw [aA];rfl) | (simp;done) | rfl) | rfl | (refine' Ev.ze;(first | exact Ev.aB (fB _ _ _) | exact Ev.aB (fA _ _ _) | exact Ev.aB (fC _ _ _) | (rw [aA];rfl) | (simp;done) | rfl)) | fail)
        exact hJ
      · have hx:aS u n x = bI u n :: x:=if_neg (by omega)
        have hy:aS w n y = bI w n :: y:=if_neg (by omega)
        rw [hx,hy] at hJ
        refine Ev.zA (k') ⟨?_,?_,bI u n :: x,bI w n :: y,out ++ [dJ u n],rfl,?_⟩ (by refine' Ev.zp <;> first | (first | exact Ev.aB (fB _ _ _) | exact Ev.aB (fA _ _ _) | exact Ev.aB (fC _ _ _) | (rw [aA];rfl) | (simp;done) | rfl) | rfl | (refine' Ev.ze;(first | exact Ev.aB (fB _ _ _) | exact Ev.aB (fA _ _ _) | exact Ev.aB (fC _ _ _) | (rw [aA];rfl) | (simp;done) | rfl)) | fail)
        exact hJ
      · rw [hd];exact Ev.jG rfl (gQ _) (by rw [aV];omega) (by decide)
      · rw [hd];exact Ev.jG rfl (gQ _) (by rw [aV];omega) (by decide)
    · have hfk:¬ (dJ w n).k = 1:=by rw [qk];exact hwk
      rw [if_neg hwk,List.append_nil] at hJ
      repeat' (first | (with_reducible refine Ev.aP hu2 ?_) | (with_reducible refine Ev.aK hu2 ?_) | (with_reducible refine Ev.aP hw2 ?_) | (with_reducible refine Ev.aK hw2 ?_) | (with_reducible refine Ev.aJ (hp u x) ?_) | (with_reducible refine Ev.aF (hp u x) ?_) | (with_reducible refine Ev.aJ (hp w y) ?_) | (with_reducible refine Ev.aF (hp w y) ?_) | (with_reducible refine Ev.aP hfk ?_) | (with_reducible refine Ev.aK hfk ?_) | (((with_reducible refine Ev.lS 23 7 rfl rfl ?_ ?_);rotate_left;conv=>whnf)) | (((with_reducible refine Ev.lS 23 8 rfl rfl ?_ ?_);rotate_left;conv=>whnf)) | refine' Ev.zP | refine' Ev.zS | refine' Ev.zK | ((with_reducible refine Ev.ca0 ?_);(first | refine Ev.ca (jT u n hou htu hnu) ?_ | refine Ev.ca (jT w n how Ia Pe) ?_);conv=>whnf) | ((with_reducible refine Ev.dG ?_);(first | refine Ev.dr 14 [] [0,1,2,3,4,5,6,7,8,9] ?_);intro Q hQ;(simp only [Ev.aj,Ev.ak]);conv=>whnf) | ((with_reducible refine Ev.dG ?_);(first | refine Ev.drv 19 [] [(2,false),(3,true),(0,false),(1,false),(4,false),(5,false)] ?_ | refine Ev.drv 20 [] [(2,false),(3,true),(0,false),(1,false),(4,false),(5,false)] ?_);intro Q hQ;(simp only [Ev.bn,Ev.bC,Ev.dw]);conv=>whnf) | refine' Ev.zT | fail)
      · have hx:aS u n x = x:=if_pos (by omega)
        have hy:aS w n y = y:=if_pos (by omega)
        rw [hx,hy] at hJ
        refine Ev.zA (k') ⟨?_,v,x,y,out,rfl,?_⟩ (by refine' Ev.zp <;> first | (first | exact Ev.aB (fB _ _ _) | exact Ev.aB (fA _ _ _) | exact Ev.aB (fC _ _ _) | (rw [aA];rfl) | (simp;done) | rfl) | rfl | (refine' Ev.ze;(first | exact Ev.aB (fB _ _ _) | exact Ev.aB (fA _ _ _) | exact Ev.aB (fC _ _ _) | (rw [aA];rfl) | (simp;done) | rfl)) | fail)
        exact hJ
      · have hx:aS u n x = x:=if_pos (by omega)
        have hy:aS w n y = bI w n :: y:=if_neg (by omega)
        rw [hx,hy] at hJ
        refine Ev.zA (k') ⟨?_,v,x,bI w n :: y,out,rfl,?_⟩ (by refine' Ev.zp <;> first | (first | exact Ev.aB (fB _ _ _) | exact Ev.aB (fA _ _ _) | exact Ev.aB (fC _ _ _) | (rw [aA];rfl) | (simp;done) | rfl) | rfl | (refine' Ev.ze;(first | exact Ev.aB (fB _ _ _) | exact Ev.aB (fA _ _ _) | exact Ev.aB (fC _ _ _) | (rw [aA];rfl) | (simp;done) | rfl)) | fail)
        exact hJ
      · have hx:aS u n x = bI u n :: x:=if_neg (by omega)
        have hy:aS w n y = y:=if_pos (by omega)
        rw [hx,hy] at hJ
        refine Ev.zA (k') ⟨?_,v,bI u n :: x,y,out,rfl,?_⟩ (by refine' Ev.zp <;> first | (first | exact Ev.aB (fB _ _ _) | exact Ev.aB (fA _ _ _) | exact Ev.aB (fC _ _ _) | (rw [aA];rfl) | (simp;done) | rfl) | rfl | (refine' Ev.ze;(first | exact Ev.aB (fB _ _ _) | exact Ev.aB (fA _ _ _) | exact Ev.aB (fC _ _ _) | (rw [aA];rfl) | (simp;done) | rfl)) | fail)
        exact hJ
      · have hx:aS u n x = bI u n :: x:=if_neg (by omega)
        have hy:aS w n y = bI w n :: y:=if_neg (by omega)
        rw [hx,hy] at hJ
        refine Ev.zA (k') ⟨?_,v,bI u n :: x,bI w n :: y,out,rfl,?_⟩ (by refine' Ev.zp <;> first | (first | exact Ev.aB (fB _ _ _) | exact Ev.aB (fA _ _ _) | exact Ev.aB (fC _ _ _) | (rw [aA];rfl) | (simp;done) | rfl) | rfl | (refine' Ev.ze;(first | exact Ev.aB (fB _ _ _) | exact Ev.aB (fA _ _ _) | exact Ev.aB (fC _ _ _) | (rw [aA];rfl) | (simp;done) | rfl)) | fail)
        exact hJ
      · rw [hd];exact Ev.jG rfl (gQ _) (by rw [aV];omega) (by decide)
      · rw [hd];exact Ev.jG rfl (gQ _) (by rw [aV];omega) (by decide)
theorem XE:∀ c,Tryd.f112.body = some c -> comp c = (.seq (.reg 0 [I.n 0 6 I.sn,I.n 1 7 (I.si 0)]) (.seq (.seq (.reg 1 [I.n 0 13 (I.mv 1),I.n 1 14 (I.ln 13 22),I.n 2 15 (.move (.const (Value.int .i64 0)))]) (.block 0 (.loop (.seq (.reg 2 [I.n 0 16 (I.bo .lss 3 15 14 3)]) (.seq (.cond (.tmp 16) .skip (.exit 0)) (.seq (.block 1 (.seq (.reg 3 [I.n 0 17 (I.ia 22 13 15),I.n 1 18 (I.ld 23 17),I.n 2 9 (I.sa 18)]) (.seq (.reg 4 [I.n 0 20 (I.mv 2),I.n 1 21 (I.mv 0),I.n 2 22 (I.mv 9),I.n 3 23 (.call { callee:=.value (.tmp 20),args:=#[.tmp 21,.tmp 22],argTypes:=#[23,23] }),I.n 4 19 (I.mv 23),I.n 5 24 (I.ex 19 0),I.n 6 25 (I.ex 19 1),I.n 7 10 (I.sa 24),I.n 8 11 (I.sa 25)]) (.seq (.seq (.reg 5 [I.n 0 26 (I.mv 11),I.n 1 27 (I.bc .neq 30 26 0 30)]) (.cond (.tmp 27) (.seq (.reg 6 [I.n 0 12 I.sn]) (.seq (.reg 7 [I.n 0 28 (I.mv 12),I.n 1 29 (I.mv 11),I.n 2 6 (I.sa 28),I.n 3 7 (I.sa 29)]) .ret)) .skip)) (.reg 8 [I.n 0 30 (I.mv 10),I.n 1 0 (I.sa 30)]))))) (.reg 9 [I.n 0 31 (I.bc .add 3 15 1 3),I.n 1 15 (I.mv 31)]))))))) (.seq (.reg 10 [I.n 0 32 (I.mv 0),I.n 1 6 (I.sa 32),I.n 2 7 (I.si 0)]) .ret))):=by
 intro c h
 have:c = Tryd.f112.body.get rfl:=by rw [<- Option.some_inj,<- h];rfl
 rw [this];rfl
def dR:List Sp -> List (List Sp) -> List Sp × Int
 | b,[]=>(b,0)
 | b,x :: l=>if jr b x = 0 then dR (kF b x) l else ([],jr b x)
def pW (b:List Sp) (L:List (List Sp)):AV:=.dM [if (dR b L).2 = 0 then .lst 3 (aT (dR b L).1) else nilA,.v (.int .i64 (dR b L).2)]
def jf (L:List (List Sp)):Nat:=(L.map List.length).sum
def lK (L:List (List Sp)):Nat:=(L.map bT).sum
theorem eF (x:List Sp) (L:List (List Sp)):jf (x :: L) = x.length + jf L /\ lK (x :: L) = bT x + lK L:=by simp [jf,lK]
theorem FB {a b:List Sp} (h:jr a b = 0):aC a = 0 /\ aC b = 0 /\ outW a = iT b:=by
 unfold jr at h
 by_cases h1:aC a = 0
 · rw [if_neg (by simpa using h1)] at h
   by_cases h2:aC b = 0
   · rw [if_neg (by simpa using h2)] at h
     by_cases h3:outW a = iT b
     · exact ⟨h1,h2,h3⟩
     · rw [if_pos h3] at h;cases h
   · rw [if_pos h2] at h;exact absurd h h2
 · rw [if_pos h1] at h;exact absurd h h1
theorem kT {a b:List Sp} (h:jr a b = 0) (la:a.length <= 10000000) (lb:b.length <= 10000000) (ta:bT a <= 100000000):(kF a b).length <= a.length + b.length /\ bT (kF a b) <= bT a + bT b:=by
 obtain ⟨h1,h2,h3⟩:=FB h
 have oa:=(oM.of h1 (by omega)).1
 have ob:=(oM.of h2 (by omega)).1
 have ho':aY dO a = aY dZ b:=by
   have h1:=(oM.of h2 (by omega)).2
   have h2:=ku a
   have h3':=lq a oa.all
   have h4:=oa.bnd
   rw [bg (by omega)] at h2
   rw [<- h2,<- h1];exact h3
 exact (sN oa ob ho').2.2.2.2.2.2.2.2.2
theorem aao{G:Prop}(h:G:=by (repeat' (first | (with_reducible refine Ev.aP hii ?_) | (with_reducible refine Ev.aK hii ?_) | refine' Ev.zP | refine' Ev.zS | refine' Ev.zK | refine' Ev.zT | fail));all_goals(rcases(⟨_⟩:PLift _)with⟨h⟩;exact h)):G:=h
theorem aa0{G:Prop}(h:G:=by (repeat' (first | refine' Ev.zP | (with_reducible refine Ev.aJ hii ?_) | (with_reducible refine Ev.aF hii ?_) | refine' Ev.zS | refine' Ev.zK | ((with_reducible refine Ev.ca0 ?_);(first | refine Ev.ca (hC) ?_);conv=>whnf) | refine' Ev.zT | fail));all_goals(rcases(⟨_⟩:PLift _)with⟨h⟩;exact h)):G:=h
theorem ab2{G:Prop}(h:G:=by
 rw [LP he] at hC
 simp only [dR,he,if_true] at hf
 obtain ⟨m1,m2⟩:=kT he (by omega) (by omega) (by omega)
 refine' aa0
 refine Ev.zA (k') ⟨i + 1,?_,kF b L[i],rfl,?_⟩
 exact ⟨by omega,hf,by omega,by omega⟩):G:=h
theorem acf{G:Prop}(h:G:=by (repeat' (first | (with_reducible refine Ev.aP he ?_) | (with_reducible refine Ev.aK he ?_) | (with_reducible refine Ev.aJ hii ?_) | (with_reducible refine Ev.aF hii ?_) | refine' Ev.zP | refine' Ev.zS | refine' Ev.zK | ((with_reducible refine Ev.ca0 ?_);(first | refine Ev.ca (hC) ?_);conv=>whnf) | refine' Ev.zT | fail));all_goals(rcases(⟨_⟩:PLift _)with⟨h⟩;exact h)):G:=h
theorem ahb{G:Prop}(h:G:=by (obtain ⟨k',rfl⟩:∃ k',k = k' + 1:=⟨k - 1,by omega⟩);all_goals(rcases(⟨_⟩:PLift _)with⟨h⟩;exact h)):G:=h
theorem aef{G:Prop}(h:G:=by
 rw [List.drop_of_length_le (by omega)] at hf
 refine' aao
 refine ⟨?_,rfl⟩
 unfold pW
 rw [<- hf];rfl):G:=h
theorem ahd{G:Prop}(h:G:=by
 refine' ahb
 rw [List.drop_eq_getElem_cons hi] at hf hl' hb'
 obtain ⟨l1,l2⟩:=eF L[i] (L.drop (i + 1))
 rw [l1] at hl'
 rw [l2] at hb'
 all_goals(rcases(⟨_⟩:PLift _)with⟨h⟩;exact h)):G:=h
theorem Pq (L:List (List Sp)) (base:List Sp) (hl:base.length + jf L <= 10000000) (hb:bT base + lK L <= 100000000) (hL:L.length <= 10000000) :
   aO env 112 [.lst 3 (aT base),.lst 1 (aX L),.clo (.func 113) [] []] (fun r hs=>r = pW base L /\ hs = []):=by
 have hrl:=bW L
 refine Ev.fn [0,1,2,6,7,9,10,11,12,13,14,15,16,27] 0 [.tmp 6,.tmp 7] Tryd.func112 (XE _ rfl) ?_
 refine' Ev.zW
 refine Ev.loop (fun k s=>∃ (i c:Nat) (b:List Sp),s = ⟨[(0,.lst 3 (aT b)),(2,.clo (.func 113) [] []),(13,.lst 1 (aX L)),(14,.v (.int .i64 L.length)),(15,.v (.int .i64 i))],[],c⟩ /\ k + i = L.length /\ dR b (L.drop i) = dR base L /\ b.length + jf (L.drop i) <= 10000000 /\ bT b + lK (L.drop i) <= 100000000) ?_ ?_
 · refine Ev.zB ⟨L.length,0,?_,base,rfl,?_⟩
   exact ⟨by omega,rfl,hl,hb⟩
 rintro k s1 ⟨i,c,b,rfl,hk,hf,hl',hb'⟩
 by_cases hi:i < L.length
 · have hii:(i:Int) < (L.length:Int):=by omega
   refine' ahd
   have hC:=TF b L[i] (by omega) (by omega) (by omega) (by omega) (dD (by omega)) (dD (by omega))
   by_cases he:jr b L[i] = 0
   · refine' ab2
   · rw [pV rfl he] at hC
     simp only [dR,he,if_false] at hf
     refine' acf
     refine ⟨?_,rfl⟩
     unfold pW
     rw [<- hf,if_neg he];rfl
 · have hii:¬ (i:Int) < (L.length:Int):=by omega
   refine' aef
end Go.Proofs.YtadlnaljicikfaaDoor.aI
